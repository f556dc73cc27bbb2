/-
  Caches: the reference's New; the law CacheRooms.
-/
import Derived.Test.YtpiodpljiklfkaaCacL
namespace Go.Proofs.Ytpiodpljiklfkaa
open Go.RowKit Go.WideMaps

theorem results_c1 {P : Program} {w : World} {fn : Func} {p t1 : Tmp} {ty : TypeId} (h : fn.results = #[.cell p ty, .tmp t1]) (tmps : Array Value) (g : Nat) (cs : List Value) (d : TypeDesc)
    (hp : tmps.getD p undef = .pointer (some ⟨g, 0, none⟩)) (hc : w.rangeAt g 0 cs)
    (hu : P.underlying ty = some d) (hd : d.isRow = true) (hi : (P.info? ty).map (·.size) = some cs.length) :
    (results fn tmps).run P w = .ok (.tuple #[.agg cs.toArray, tmps.getD t1 undef]) w := by
  have hp' : tmps[p]?.getD undef = .pointer (some ⟨g, 0, none⟩) := by simpa using hp
  simp [results, h, hp', asAddr, run_loadVar_mid w g 0 ty cs d hc hu hd hi]
def NewRO (w : World) (room : Int) (en : Ending) (w' : World) : Prop :=
  (∃ r er : Int, en = .returned (.tuple #[.agg #[.int .i64 r, .slice none 0 0], .int .i64 er]) ∧ ((room < 1 ∨ 1048576 < room) ∧ r = 0 ∧ er = 380 ∨ 1 ≤ room ∧ room ≤ 1048576 ∧ r = room ∧ er = 0)) ∧ Ext w w'

set_option maxRecDepth 100000 in
set_option maxHeartbeats 1000000 in
theorem refNew38_any (room : Int) (w : World) : Calls Try.prog 13 #[.int .i64 room] w (NewRO w room) := by
  have h0 := heap_alloc_new w (.cells #[.int .i64 0, .slice none 0 0] 28)
  have hx0 := Ext.alloc' w (.cells #[.int .i64 0, .slice none 0 0] 28)
  by_cases h1 : room < 1 ∨ 1048576 < room
  · have hF : ∀ w', Ext w w' → NewRO w room (.returned (.tuple #[.agg #[.int .i64 0, .slice none 0 0], .int .i64 380])) w' := fun w' h => ⟨⟨0, 380, rfl, .inl ⟨h1, rfl, rfl⟩⟩, h⟩
    have HF := Lib.hid hF
    have H0 := Lib.hid h0
    have HX0 := Lib.hid hx0
    have hor : decide (room < 1) = true ∨ decide (room < 1) = false ∧ decide (1048576 < room) = true := by
      by_cases h2 : room < 1
      · exact .inl (decide_eq_true h2)
      · exact .inr ⟨decide_eq_false h2, decide_eq_true (by omega)⟩
    clear h0 hx0 h1 hF
    rcases hor with h2 | ⟨h2, h3⟩
    · go_enter Try.func13, Try.ntmps13
      go_wp2_with (first
        | ((with_reducible refine atStore 2 ?_); refine wpList_of_wp rfl (wp_store_row (o := ⟨none, _, _, _, _, _⟩) _ _ _ rfl w.heap.size #[.int .i64 0, .slice none 0 0] rfl rfl _ _ H0.out (by kernel_rfl) rfl (by simp [Value.oneCell']) ?_))
        | fail)
      refine bodyPost_ret (results_c1 (ty := 28) rfl _ w.heap.size [.int .i64 0, .slice none 0 0] _ rfl (range_of_heap2 (setRow_heap _ _ _ _ _ _ H0.out)) Try.underlying28 rfl (by kernel_rfl)) rfl ?_
      exact HF.out _ (HX0.out.setRow (Nat.le_refl _))
    · go_enter Try.func13, Try.ntmps13
      go_wp2_with (first
        | ((with_reducible refine atStore 2 ?_); refine wpList_of_wp rfl (wp_store_row (o := ⟨none, _, _, _, _, _⟩) _ _ _ rfl w.heap.size #[.int .i64 0, .slice none 0 0] rfl rfl _ _ H0.out (by kernel_rfl) rfl (by simp [Value.oneCell']) ?_))
        | fail)
      refine bodyPost_ret (results_c1 (ty := 28) rfl _ w.heap.size [.int .i64 0, .slice none 0 0] _ rfl (range_of_heap2 (setRow_heap _ _ _ _ _ _ H0.out)) Try.underlying28 rfl (by kernel_rfl)) rfl ?_
      exact HF.out _ (HX0.out.setRow (Nat.le_refl _))
  · have hF : ∀ w', Ext w w' → NewRO w room (.returned (.tuple #[.agg #[.int .i64 room, .slice none 0 0], .int .i64 0])) w' := fun w' h => ⟨⟨room, 0, rfl, .inr ⟨by omega, by omega, rfl, rfl⟩⟩, h⟩
    have HF := Lib.hid hF
    have H0 := Lib.hid h0
    have HX0 := Lib.hid hx0
    have h2 : decide (room < 1) = false := decide_eq_false (by omega)
    have h3 : decide (1048576 < room) = false := decide_eq_false (by omega)
    clear h0 hx0 h1 hF
    go_enter Try.func13, Try.ntmps13
    go_wp2_with (first
      | ((with_reducible refine atStore 2 ?_); refine wpList_of_wp rfl (wp_store_row (o := ⟨none, _, _, _, _, _⟩) _ _ _ rfl w.heap.size #[.int .i64 room, .slice none 0 0] rfl rfl _ _ H0.out (by kernel_rfl) rfl (by simp [Value.oneCell']) ?_))
      | fail)
    refine bodyPost_ret (results_c1 (ty := 28) rfl _ w.heap.size [.int .i64 room, .slice none 0 0] _ rfl (range_of_heap2 (setRow_heap _ _ _ _ _ _ H0.out)) Try.underlying28 rfl (by kernel_rfl)) rfl ?_
    exact HF.out _ (HX0.out.setRow (Nat.le_refl _))

set_option maxRecDepth 100000 in
set_option maxHeartbeats 4000000 in
theorem CacheRooms_walk (room : Int) (w : World) (_h0 : -9223372036854775808 ≤ room) (_h1 : room ≤ 9223372036854775807) :
    Calls Try.prog 3 #[.int .i64 room] w (LawPost w) := by
  have hb : ∀ w1, Calls Try.prog 12 #[.int .i64 1048577] w1 (fun en w' => en = .returned (.tuple #[.pointer none, .int .i64 380]) ∧ Ext w1 w') := fun w1 => (New38_any 1048577 w1).mono fun en w' h => by
    rcases h with ⟨-, h1, h2⟩ | ⟨r, c, F, h1, h2, h3, -⟩
    · exact ⟨h1, h2⟩
    · omega
  have hm : ∀ w1, Calls Try.prog 12 #[.int .i64 1048576] w1 _ := fun w1 => New38_at 1048576 w1 (by decide) (by decide)
  have HB := Lib.hid hb
  have HM := Lib.hid hm
  clear hb hm
  by_cases h1 : room < 1 ∨ 1048576 < room
  · have hn : ∀ w1, Calls Try.prog 12 #[.int .i64 room] w1 (fun en w' => en = .returned (.tuple #[.pointer none, .int .i64 380]) ∧ Ext w1 w') := fun w1 => (New38_any room w1).mono fun en w' h => by
      rcases h with ⟨-, h1, h2⟩ | ⟨r, c, F, h2, h3, h4, -⟩
      · exact ⟨h1, h2⟩
      · omega
    have hr : ∀ w1, Calls Try.prog 13 #[.int .i64 room] w1 (fun en w' => en = .returned (.tuple #[.agg #[.int .i64 0, .slice none 0 0], .int .i64 380]) ∧ Ext w1 w') := fun w1 => (refNew38_any room w1).mono fun en w' h => by
      obtain ⟨⟨r, er, rfl, ⟨-, rfl, rfl⟩ | ⟨h2, h3, -⟩⟩, hx⟩ := h
      · exact ⟨rfl, hx⟩
      · omega
    have HN := Lib.hid hn
    have HR := Lib.hid hr
    have t1 : True := trivial
    have t2 : True := trivial
    clear hn hr h1
    go_enter Try.func3, Try.ntmps3
    go_wp2_with (first
      | (go_at_call 12; have _t := t1; (with_reducible refine (HN.out _).mono ?_); rintro en w1 ⟨rfl, hx1⟩; clear t1)
      | (go_at_call 13; (with_reducible refine (HR.out _).mono ?_); rintro en w2 ⟨rfl, hx2⟩; have E2 := Ext.trans' hx1 hx2)
      | ((with_reducible refine atStore 5 ?_); refine wpList_of_wp rfl (wp_store_row (o := ⟨none, _, _, _, _, _⟩) _ _ _ rfl w2.heap.size #[.int .i64 0, .slice none 0 0] rfl rfl _ _ (heap_alloc_new w2 _) (by kernel_rfl) rfl (by simp [Value.oneCell']) ?_); have E3 := (E2.trans' (Ext.alloc' w2 (.cells #[.int .i64 0, .slice none 0 0] 28))).setRow (cs := #[.int .i64 0, .slice none 0 0]) E2.size)
      | (go_at_call 12; have _t := t2; (with_reducible refine (HM.out _).mono ?_); rintro en w4 ⟨c4, F4, rfl, -, hx4⟩; clear t2; have E4 := E3.trans' hx4)
      | (go_at_call 12; (with_reducible refine (HB.out _).mono ?_); rintro en w5 ⟨rfl, hx5⟩; have E5 := E4.trans' hx5)
      | (go_at_call 14; (with_reducible refine (known38_any _).mono ?_); rintro en w6 ⟨rfl, hx6⟩; have E6 := E5.trans' hx6)
      | fail)
    go_ret
    exact ⟨rfl, E6⟩
  · obtain ⟨r, rfl⟩ := Int.eq_ofNat_of_zero_le (show 0 ≤ room by omega)
    have hn : ∀ w1, Calls Try.prog 12 #[.int .i64 r] w1 _ := fun w1 => New38_at r w1 (by omega) (by omega)
    have hr : ∀ w1, Calls Try.prog 13 #[.int .i64 r] w1 (fun en w' => en = .returned (.tuple #[.agg #[.int .i64 r, .slice none 0 0], .int .i64 0]) ∧ Ext w1 w') := fun w1 => (refNew38_any r w1).mono fun en w' h => by
      obtain ⟨⟨r', er, rfl, ⟨h2, -⟩ | ⟨-, -, rfl, rfl⟩⟩, hx⟩ := h
      · omega
      · exact ⟨rfl, hx⟩
    have HN := Lib.hid hn
    have HR := Lib.hid hr
    have t1 : True := trivial
    have t2 : True := trivial
    clear hn hr h1
    go_enter Try.func3, Try.ntmps3
    go_wp2_with (first
      | (go_at_call 12; have _t := t1; (with_reducible refine (HN.out _).mono ?_); rintro en w1 ⟨c, F, rfl, hC1, hx1⟩; clear t1; have HC1 := Lib.hid hC1; clear hC1)
      | (go_at_call 13; (with_reducible refine (HR.out _).mono ?_); rintro en w2 ⟨rfl, hx2⟩)
      | ((with_reducible refine atStore 5 ?_); refine wpList_of_wp rfl (wp_store_row (o := ⟨none, _, _, _, _, _⟩) _ _ _ rfl w2.heap.size #[.int .i64 r, .slice none 0 0] rfl rfl _ _ (heap_alloc_new w2 _) (by kernel_rfl) rfl (by simp [Value.oneCell']) ?_); have E3 : Ext w1 _ := (hx2.trans' (Ext.alloc' w2 (.cells #[.int .i64 0, .slice none 0 0] 28))).setRow (cs := #[.int .i64 r, .slice none 0 0]) hx2.size)
      | (go_at_call 12; have _t := t2; (with_reducible refine (HM.out _).mono ?_); rintro en w4 ⟨c4, F4, rfl, -, hx4⟩; clear t2; have E4 := E3.trans' hx4)
      | (go_at_call 12; (with_reducible refine (HB.out _).mono ?_); rintro en w5 ⟨rfl, hx5⟩; have E5 := E4.trans' hx5)
      | (go_at_call 14; (with_reducible refine (known38_any _).mono ?_); rintro en w6 ⟨rfl, hx6⟩; have E6 := E5.trans' hx6; have HC6 := Lib.hid (HC1.out.ext E6))
      | (go_at_call 15; (with_reducible refine (Bytes38_any w.heap.size c r [] F _ HC6.out).mono ?_); rintro en w7 ⟨rfl, hx7⟩; have E7 := E6.trans' hx7; have HC7 := Lib.hid (HC6.out.ext hx7))
      | (go_at_call 16; (with_reducible refine (IDs_any w.heap.size c r [] F _ HC7.out).mono ?_); rintro en w8 ⟨a8, n8, c8, rfl, hn8, -, hx8⟩; obtain rfl : n8 = 0 := hn8; have E8 := E7.trans' hx8)
      | fail)
    go_ret
    exact ⟨rfl, hx1.trans' E8⟩
end Go.Proofs.Ytpiodpljiklfkaa
