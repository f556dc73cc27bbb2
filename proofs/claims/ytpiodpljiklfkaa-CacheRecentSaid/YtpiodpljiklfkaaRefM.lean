/-
  The reference's caches: Content. (Printed by refm.py.)
-/
import Derived.Test.YtpiodpljiklfkaaRefK
import Derived.Test.YtpiodpljiklfkaaRefL
import Derived.Test.YtpiodpljiklfkaaCacR
import Derived.Test.YtpiodpljiklfkaaApp
import Derived.Test.YtpiodpljiklfkaaCacV
namespace Go.Proofs.Ytpiodpljiklfkaa
open Go.RowKit
/-- The data of the chunks lie in other blocks. -/
def DatO (L : List Re) (a : Option Addr) : Prop := ∀ k ∈ L, ∀ b, blockOf k.a = some b → blockOf a ≠ some b
theorem DatO.to {w : World} {B n c : Nat} {a : Option Addr} {xs : List Value} {L L' : List Re} (h : DatO L a) (ho : w.ownsRow B 5 1 (.slice a n c) n xs) (hd : DatR w L L') : DatO L' a := fun k hk b hb e => by
  rcases hd k hk with h1 | h1
  · exact h k h1 b hb e
  · have := h1 b hb
    have := (own_block ho b e).2
    omega
theorem DatO.moved {w : World} {B room n c : Nat} {a a' ra : Option Addr} {L : List Re} (hr : Rc w B room ra n c L) (h : DatO L a) (hm : Moved w a a') : DatO L a' := fun k hk b hb e => by
  rcases hm with h1 | h1
  · exact h k hk b hb (h1 ▸ e)
  · have := h1 b e
    have := (own_block (hr.data k hk) b hb).2
    omega
theorem Rc.app {w w' : World} {B B' room n c m mc : Nat} {a ra : Option Addr} {xs : List Value} {L : List Re} (hr : Rc w B room ra n c L) (ho : w.ownsRow B' 5 1 (.slice a m mc) m xs) (hg : w.grownBy w' (blockOf a)) (hd : DatO L a) : Rc w' B room ra n c L where
  own := own_app_other hr.own ho (by decide) hg
  data k hk := by
    cases ha : blockOf a with
    | none => rw [ha] at hg; exact own_ext (hr.data k hk) (Ext.of_grown hg)
    | some g => rw [ha] at hg; exact own_other (hr.data k hk) hg (fun e => hd k hk g e ha)
  ok := hr.ok
  max := hr.max
/-- What the reference's Content answers. -/
def RConO (w : World) (B room : Nat) (r : List En × List UInt8 × Int) (en : Ending) (w' : World) : Prop :=
  ∃ (a : Option Addr) (n c : Nat) (L : List Re) (oa : Option Addr) (on oc : Nat), en = .returned (.tuple #[.agg #[.int .i64 room, .slice a n c], .slice oa on oc, .int .i64 r.2.2]) ∧
    Rc w' B room a n c L ∧ L.map Re.en = r.1 ∧ w'.ownsRow w.heap.size 5 1 (.slice oa on oc) on (r.2.1.map u8) ∧ Ext w w'
def boxedC (w : World) (room : Nat) (a : Option Addr) (n c : Nat) (S : Int) (ka : Option Addr) (kn kc : Nat) : World :=
  ((w.alloc (.cells #[.int .i64 room, .slice a n c] 28)).alloc (.cells #[.int .i64 S, .slice ka kn kc] 60)).alloc (.cells #[.int .i64 0, .slice none 0 0] 28)
theorem boxedC_facts (w : World) (room : Nat) (a : Option Addr) (n c : Nat) (S : Int) (ka : Option Addr) (kn kc : Nat) : Ext w (boxedC w room a n c S ka kn kc) ∧
    (boxedC w room a n c S ka kn kc).heap[w.heap.size]? = some (.cells #[.int .i64 room, .slice a n c] 28 (0, 0)) ∧
    ManAt (boxedC w room a n c S ka kn kc) (w.heap.size + 1) S ka kn kc ∧
    (boxedC w room a n c S ka kn kc).heap[w.heap.size + 1 + 1]? = some (.cells #[.int .i64 0, .slice none 0 0] 28 (0, 0)) := by
  have h1 := Ext.alloc' w (.cells #[.int .i64 room, .slice a n c] 28)
  have h2 := Ext.alloc' (w.alloc (.cells #[.int .i64 room, .slice a n c] 28)) (.cells #[.int .i64 S, .slice ka kn kc] 60)
  have h3 := Ext.alloc' ((w.alloc (.cells #[.int .i64 room, .slice a n c] 28)).alloc (.cells #[.int .i64 S, .slice ka kn kc] 60)) (.cells #[.int .i64 0, .slice none 0 0] 28)
  refine ⟨h1.trans' (h2.trans' h3), (h2.trans' h3).heap' (heap_alloc_new w _), h3.heap' ?_, ?_⟩
  · rw [← World.size_alloc w (.cells #[.int .i64 room, .slice a n c] 28)]
    exact heap_alloc_new _ _
  · rw [← World.size_alloc w (.cells #[.int .i64 room, .slice a n c] 28), ← World.size_alloc (w.alloc (.cells #[.int .i64 room, .slice a n c] 28)) (.cells #[.int .i64 S, .slice ka kn kc] 60)]
    exact heap_alloc_new _ _
def RcJ (w4 : World) (B room n0 b : Nat) (H : List Ch) (E0 : List En) (K : List (Nat × Int)) (out : Value) (wr : World) (j : Nat) : Prop :=
  ∃ (a : Option Addr) (n c : Nat) (L : List Re) (oa : Option Addr) (on oc : Nat) (bl : List UInt8), j ≤ n0 ∧ out = .slice oa on oc ∧
    wr.heap[b]? = some (.cells #[.int .i64 room, .slice a n c] 28 (0, 0)) ∧ Rc wr B room a n c L ∧
    conF room H E0 K [] = conF room H (L.map Re.en) (K.drop j) bl ∧ wr.ownsRow w4.heap.size 5 1 (.slice oa on oc) on (bl.map u8) ∧ on ≤ 8192 * j ∧ DatO L oa ∧ Chg [b] w4 wr
def RcRel (w4 : World) (B room n0 b : Nat) (H : List Ch) (E0 : List En) (K : List (Nat × Int)) (out i : Value) (wr : World) : Prop := ∃ j : Nat, i = .int .i64 j ∧ RcJ w4 B room n0 b H E0 K out wr j
/-- Found: the bytes, and the next state. -/
def FndJ (w8 : World) (B room b2 : Nat) (H : List Ch) (E : List En) (k : Nat × Int) (K : List (Nat × Int)) (bl : List UInt8) (oa : Option Addr) (bv : Value) (wr : World) : Prop :=
  ∃ (ba : Option Addr) (bn bc : Nat) (xl : List UInt8) (a : Option Addr) (n c : Nat) (L : List Re), bv = .slice ba bn bc ∧ Bytes wr ba bn bc xl ∧ bn ≤ 8192 ∧
    wr.heap[b2]? = some (.cells #[.int .i64 room, .slice a n c] 28 (0, 0)) ∧ Rc wr B room a n c L ∧ conF room H E (k :: K) bl = conF room H (L.map Re.en) K (bl ++ xl) ∧ DatO L oa ∧ Chg [b2] w8 wr
/-- Not found yet. -/
def NotJ (w8 : World) (H : List Ch) (E : List En) (k : Nat × Int) (j : Nat) (wr : World) : Prop := atF k E = none ∧ j ≤ H.length ∧ (∀ t < j, ∀ x, H[t]? = some x → ¬ (x.id = k ∧ idOf x.l = k)) ∧ Ext w8 wr
def InR (w8 : World) (B room b2 : Nat) (H : List Ch) (E : List En) (k : Nat × Int) (K : List (Nat × Int)) (bl : List UInt8) (oa : Option Addr) (bv ok i : Value) (wr : World) : Prop :=
  ∃ j : Nat, i = .int .i64 j ∧ (ok = .bool true ∧ FndJ w8 B room b2 H E k K bl oa bv wr ∨ ok = .bool false ∧ NotJ w8 H E k j wr)
def okM (n : Nat) (ok i : Value) : Nat := match ok with | .bool true => 0 | _ => 1 + n - (intOf i).toNat
theorem fnd_no {H : List Ch} {k : Nat × Int} {j : Nat} (h : ∀ t < j, ∀ x, H[t]? = some x → ¬ (x.id = k ∧ idOf x.l = k)) (hj : H.length ≤ j) : fnd H k = none := fnd_none.2 fun x hx => by
  obtain ⟨t, ht⟩ := List.getElem?_of_mem hx
  exact h t (by have := (List.getElem?_eq_some_iff.1 ht).1; omega) x ht
theorem fnd_at {H : List Ch} {k : Nat × Int} {j : Nat} {x : Ch} (h : ∀ t < j, ∀ x, H[t]? = some x → ¬ (x.id = k ∧ idOf x.l = k)) (hx : H[j]? = some x) (h1 : x.id = k) (h2 : idOf x.l = k) : fnd H k = some x := by
  have hj := (List.getElem?_eq_some_iff.1 hx).1
  obtain ⟨A, D, rfl, rfl, -⟩ : ∃ A D, H = A ++ x :: D ∧ A.length = j ∧ True := ⟨H.take j, H.drop (j + 1), by rw [← (List.getElem?_eq_some_iff.1 hx).2, List.getElem_cons_drop, List.take_append_drop], by rw [List.length_take]; omega, trivial⟩
  unfold fnd
  rw [List.find?_append, List.find?_eq_none.2 ?_, Option.none_or, List.find?_cons, decide_eq_true ⟨h1, h2⟩]
  intro y hy
  obtain ⟨t, ht⟩ := List.getElem?_of_mem hy
  have hlt := (List.getElem?_eq_some_iff.1 ht).1
  have := h t hlt y (by rw [List.getElem?_append_left hlt]; exact ht)
  simpa using this
theorem conF_out {room : Nat} {H : List Ch} {E : List En} {k : Nat × Int} {K : List (Nat × Int)} {out : List UInt8} {i : Nat} (h : atF k E = some i) : conF room H E (k :: K) out = conF room H (useF E i) K (out ++ (E[i]?.map En.l).getD []) := by
  conv => lhs; unfold conF
  rw [h]
def BoxR (b room : Nat) (a : Option Addr) (n c : Nat) (w' : World) : Prop := w'.heap[b]? = some (.cells #[.int .i64 room, .slice a n c] 28 (0, 0))
theorem ch_dat {w : World} {b o i : Nat} {L : List Ch} {k : Ch} (hk : L[i]? = some k) (hc : ∀ j, j < 3 → w.cell? ⟨b, o + j, none⟩ = (L.flatMap Ch.cells)[i * 3 + j]?) : w.cell? ⟨b, o + 2, none⟩ = some (.slice k.a k.n k.c) :=
  (hc 2 (by decide)).trans (ch_get hk 2 (by decide))

set_option maxRecDepth 100000 in
set_option maxHeartbeats 16000000 in
theorem refContent38_any (B room : Nat) (a : Option Addr) (n c : Nat) (L : List Re) (S : Int) (ka : Option Addr) (kn kc : Nat) (K : List (Nat × Int)) (la : Option Addr) (ln lc : Nat) (H : List Ch) (w : World) (h : Rc w B room a n c L) (hB : B ≤ w.heap.size)
    (hr : Row w ka kn kc 2 (K.flatMap idCells)) (hkl : K.length = kn) (hn5 : kn ≤ 100) (hK : Ids1 K) (hl : Chs w la ln lc H) (hn : ln ≤ 1000000) :
    Calls Try.prog 51 #[.agg #[.int .i64 room, .slice a n c], .agg #[.int .i64 S, .slice ka kn kc], .slice la ln lc] w (RConO w B room (conC room H (L.map Re.en) K S)) := by
  obtain ⟨hx1, hh1, hm1, hh3⟩ := boxedC_facts w room a n c S ka kn kc
  have HB := Lib.hid hB
  have HR := Lib.hid h
  have HKR := Lib.hid hr
  have HKL := Lib.hid hkl
  have HK := Lib.hid hK
  have HH := Lib.hid hl
  clear h hB hr hkl hK hl
  go_enter Try.func51, Try.ntmps51
  go_upto_region 1 with fail
  change Code.wp _ _ _ _ (boxedC w room a n c S ka kn kc)
  generalize boxedC w room a n c S ka kn kc = w2 at hx1 hh1 hm1 hh3 ⊢
  have hrd := hm1.rd
  have HC := Lib.hid (refCheck25_any S ka kn kc K w2 (HKR.out.ext hx1) HKL.out hn5 HK.out)
  have HX1 := Lib.hid hx1
  have HH1 := Lib.hid hh1
  have HM1 := Lib.hid hm1
  have HH3 := Lib.hid hh3
  clear hx1 hh1 hm1 hh3
  by_cases hck : chkV K S = 0
  rotate_left
  · have HV := Lib.hid (show conC room H (L.map Re.en) K S = (L.map Re.en, [], chkV K S) by unfold conC; rw [if_pos hck])
    obtain ⟨q1, q2⟩ := ne0 hck
    clear hck
    go_upto_region 3 with (first
      | ((with_reducible refine atSlot 18 ?_); refine wpList_of_wp rfl (wp_load_mid (op := ⟨some 18, _, _, _, _, _⟩) 60 _ rfl (w.heap.size + 1) 0 rfl [.int .i64 S, .slice ka kn kc] _ hrd Try.underlying60 rfl (by kernel_rfl) ?_); clear hrd)
      | (go_at_call 65; (with_reducible refine HC.out.mono ?_); rintro en w3 ⟨rfl, hx3⟩)
      | fail)
    have hrg := range_of_heap2 (hx3.heap' HH1.out)
    have hh3 := hx3.heap' HH3.out
    have HF := Lib.hid (setRow_heap w3 (w.heap.size + 1 + 1) _ #[.int .i64 room, .slice a n c] _ _ hh3)
    have HXF := Lib.hid ((HX1.out.trans' hx3).setRow (g := w.heap.size + 1 + 1) (cs := #[.int .i64 room, .slice a n c]) (by omega))
    go_wp2_with (first
      | ((with_reducible refine atSlot 22 ?_); refine wpList_of_wp rfl (wp_load_mid (op := ⟨some 22, _, _, _, _, _⟩) 28 _ rfl w.heap.size 0 rfl [.int .i64 room, .slice a n c] _ hrg Try.underlying28 rfl (by kernel_rfl) ?_); clear hrg)
      | ((with_reducible refine atStore 6 ?_); refine wpList_of_wp rfl (wp_store_row (o := ⟨none, _, _, _, _, _⟩) _ _ _ rfl (w.heap.size + 1 + 1) #[.int .i64 room, .slice a n c] rfl rfl _ _ hh3 (by kernel_rfl) rfl (by simp [Value.oneCell']) ?_))
      | fail)
    refine bodyPost_ret (results_c2 (ty := 28) rfl _ (w.heap.size + 1 + 1) [.int .i64 room, .slice a n c] _ rfl (range_of_heap2 HF.out) Try.underlying28 rfl (by kernel_rfl)) rfl ?_
    rw [HV.out]
    exact ⟨a, n, c, L, none, 0, 0, rfl, HR.out.ext HXF.out, rfl, own_nil _ _ _ _, HXF.out⟩
  have HCK := Lib.hid hck
  rw [hck] at HC
  clear hck
  go_upto_region 4 with (first
    | ((with_reducible refine atSlot 18 ?_); refine wpList_of_wp rfl (wp_load_mid (op := ⟨some 18, _, _, _, _, _⟩) 60 _ rfl (w.heap.size + 1) 0 rfl [.int .i64 S, .slice ka kn kc] _ hrd Try.underlying60 rfl (by kernel_rfl) ?_); clear hrd)
    | (go_at_call 65; (with_reducible refine HC.out.mono ?_); rintro en w3 ⟨rfl, hx3⟩)
    | fail)
  have hrg := range_of_heap2 (hx3.heap' HH1.out)
  have HP := Lib.hid (put_new w3 #[.int .i64 0, .slice none 0 0] #[.int .i64 room, .slice a n c] 28)
  have HN := Lib.hid (heap_alloc_new w3 (.cells #[.int .i64 0, .slice none 0 0] 28))
  go_upto_region 5 with (first
    | ((with_reducible refine atSlot 24 ?_); refine wpList_of_wp rfl (wp_load_mid (op := ⟨some 24, _, _, _, _, _⟩) 28 _ rfl w.heap.size 0 rfl [.int .i64 room, .slice a n c] _ hrg Try.underlying28 rfl (by kernel_rfl) ?_); clear hrg)
    | ((with_reducible refine atStore 10 ?_); refine wpList_of_wp rfl (wp_store_row (o := ⟨none, _, _, _, _, _⟩) _ _ _ rfl w3.heap.size #[.int .i64 room, .slice a n c] rfl rfl _ _ HN.out (by kernel_rfl) rfl (by simp [Value.oneCell']) ?_))
    | fail)
  obtain ⟨hx4, hh4⟩ := HP.out
  clear HP HN HC
  obtain ⟨b, hbe⟩ : ∃ b, b = w3.heap.size := ⟨_, rfl⟩
  generalize hw4 : (w3.alloc (.cells #[.int .i64 0, .slice none 0 0] 28)).setRow w3.heap.size #[.int .i64 room, .slice a n c] = w4 at hx4 hh4 ⊢
  rw [← hbe] at hh4 ⊢
  have hb3 : w.heap.size + 1 + 1 < b := by
    have h1 := (Array.getElem?_eq_some_iff.1 HH3.out).1
    have h2 := hx3.size
    omega
  have hb4 : b < w4.heap.size := (Array.getElem?_eq_some_iff.1 hh4).1
  have HX4 := Lib.hid (HX1.out.trans' (hx3.trans' hx4))
  have HR4 := Lib.hid (HR.out.ext HX4.out)
  have HH14 := Lib.hid ((hx3.trans' hx4).heap' HH1.out)
  have HM14 := Lib.hid (show ManAt w4 (w.heap.size + 1) S ka kn kc from (hx3.trans' hx4).heap' HM1.out)
  have HH34 := Lib.hid ((hx3.trans' hx4).heap' HH3.out)
  have hDO : DatO L none := fun k _ b _ e => by cases e
  have HDO := Lib.hid hDO
  have HHB := Lib.hid hh4
  have HRW := Lib.hid (show ∀ wr, Chg [b] w4 wr → Ext w wr from fun wr h => ext_chg HX4.out h (fun k hk => by rw [List.mem_singleton.1 hk]; omega))
  clear hx3 hx4 hw4 hbe hh4 hDO HH1 HM1 HH3 HX1
  have hn1 : w.heap.size ∉ [b] := fun h => by have := List.mem_singleton.1 h; omega
  have hn2 : w.heap.size + 1 ∉ [b] := fun h => by have := List.mem_singleton.1 h; omega
  have hn3 : w.heap.size + 1 + 1 ∉ [b] := fun h => by have := List.mem_singleton.1 h; omega
  have HN1 := Lib.hid hn1
  have HN2 := Lib.hid hn2
  have HN3 := Lib.hid hn3
  clear hn1 hn2 hn3
  have hmi := HM14.out.ids
  go_wp2
  go_loopw [11, 12] (RcRel w4 B room kn b H (L.map Re.en) K) (fun _ i _ => kn - (intOf i).toNat)
  case atStart => exact ⟨0, rfl, a, n, c, L, none, 0, 0, [], Nat.zero_le _, rfl, HHB.out, HR4.out, rfl, own_nil _ _ _ _, Nat.zero_le _, HDO.out, Chg.refl _ _⟩
  case round =>
    obtain ⟨j, rfl, a5, n5, c5, L5, oa, on, oc, bl, hj, rfl, hh5, hR5, hE5, ho5, hon, hd5, hc5⟩ := hrel
    rename World => w5
    have HH5 := Lib.hid hh5
    have HR5 := Lib.hid hR5
    have HE5 := Lib.hid hE5
    have HO5 := Lib.hid ho5
    have HD5 := Lib.hid hd5
    have HC5 := Lib.hid hc5
    have hxw := HRW.out w5 hc5
    have HXW := Lib.hid hxw
    have hm5 : ManAt w5 (w.heap.size + 1) S ka kn kc := hc5.heap HM14.out HN2.out
    have hmi5 := hm5.ids
    clear hh5 hR5 hE5 ho5 hd5 hc5 hmi
    by_cases hjn : j < kn
    · obtain ⟨k, hk⟩ : ∃ k, K[j]? = some k := ⟨_, List.getElem?_eq_getElem (by have := HKL.out; omega)⟩
      have HKE := Lib.hid hk
      have hk1 := HK.out k (List.mem_of_getElem? hk)
      have hrow := HKR.out.ext hxw
      have HP := Lib.hid (put_new w5 #[.int .u64 0, .int .i64 0] #[.int .u64 k.1, .int .i64 k.2] 45)
      have HN := Lib.hid (heap_alloc_new w5 (.cells #[.int .u64 0, .int .i64 0] 45))
      clear hk hxw
      go_upto_region 10 with (first
        | ((with_reducible refine atSlot 35 ?_); refine wpList_of_wp rfl (owp_ix (o := ⟨some 35, _, _, _, _, _⟩) _ _ rfl Try.elId rfl hrow j rfl rfl hjn ?_); intro b3 o3 hc3; have hid3 := id_range HKE.out hc3; clear hc3)
        | ((with_reducible refine atSlot 36 ?_); refine wpList_of_wp rfl (wp_load_mid (op := ⟨some 36, _, _, _, _, _⟩) 45 _ rfl b3 o3 rfl [.int .u64 k.1, .int .i64 k.2] _ hid3 Try.underlying45 rfl (by kernel_rfl) ?_); clear hid3)
        | ((with_reducible refine atStore 13 ?_); refine wpList_of_wp rfl (wp_store_row (o := ⟨none, _, _, _, _, _⟩) _ _ _ rfl w5.heap.size #[.int .u64 k.1, .int .i64 k.2] rfl rfl _ _ HN.out (by kernel_rfl) rfl (by simp [Value.oneCell']) ?_))
        | fail)
      obtain ⟨hx6, hh6⟩ := HP.out
      clear HP HN hrow
      generalize (w5.alloc (.cells #[.int .u64 0, .int .i64 0] 45)).setRow w5.heap.size #[.int .u64 k.1, .int .i64 k.2] = w6 at hx6 hh6 ⊢
      have hrb := range_of_heap2 (hx6.heap' HH5.out)
      have hri := range_of_heap2 hh6
      have HG := Lib.hid (refGet38_any B room a5 n5 c5 L5 k.1 k.2 w6 (HR5.out.ext hx6) (by have h1 := HB.out; have h2 := HXW.out.size; have h3 := hx6.size; omega))
      have HI6 := Lib.hid hh6
      have HX6 := Lib.hid hx6
      clear hx6 hh6
      go_upto_region 11 with (first
        | ((with_reducible refine atSlot 38 ?_); refine wpList_of_wp rfl (wp_load_mid (op := ⟨some 38, _, _, _, _, _⟩) 28 _ rfl b 0 rfl [.int .i64 room, .slice a5 n5 c5] _ hrb Try.underlying28 rfl (by kernel_rfl) ?_); clear hrb)
        | ((with_reducible refine atSlot 39 ?_); refine wpList_of_wp rfl (wp_load_mid (op := ⟨some 39, _, _, _, _, _⟩) 45 _ rfl w5.heap.size 0 rfl [.int .u64 k.1, .int .i64 k.2] _ hri Try.underlying45 rfl (by kernel_rfl) ?_); clear hri)
        | (go_at_call 48; (with_reducible refine HG.out.mono ?_); rintro en w7 ⟨a7, n7, c7, L7, ba, bn, bc, rfl, hR7, hE7, hb7, hx7, hd7⟩; have HP := Lib.hid (put_new w7 #[.int .i64 0, .slice none 0 0] #[.int .i64 room, .slice a7 n7 c7] 28); have HN := Lib.hid (heap_alloc_new w7 (.cells #[.int .i64 0, .slice none 0 0] 28)); have HR7 := Lib.hid hR7; have HE7 := Lib.hid hE7; have HB7 := Lib.hid hb7; have HX7 := Lib.hid hx7; have HD7 := Lib.hid hd7; clear hR7 hE7 hb7 hx7 hd7)
        | ((with_reducible refine atStore 14 ?_); refine wpList_of_wp rfl (wp_store_row (o := ⟨none, _, _, _, _, _⟩) _ _ _ rfl w7.heap.size #[.int .i64 room, .slice a7 n7 c7] rfl rfl _ _ HN.out (by kernel_rfl) rfl (by simp [Value.oneCell']) ?_))
        | fail)
      obtain ⟨hx8, hh8⟩ := HP.out
      clear HP HN HG
      obtain ⟨b2, hbe⟩ : ∃ b2, b2 = w7.heap.size := ⟨_, rfl⟩
      generalize hw8 : (w7.alloc (.cells #[.int .i64 0, .slice none 0 0] 28)).setRow w7.heap.size #[.int .i64 room, .slice a7 n7 c7] = w8 at hx8 hh8 ⊢
      rw [← hbe] at hh8 ⊢
      have hx58 := HX6.out.trans' (HX7.out.trans' hx8)
      have hzz : w5.heap.size < b2 := by have h1 := (Array.getElem?_eq_some_iff.1 HI6.out).1; have h2 := HX7.out.size; omega
      have hb2 : b2 < w8.heap.size := (Array.getElem?_eq_some_iff.1 hh8).1
      have hC8 : Chg [b] w4 w8 := HC5.out.trans' (Chg.of_ext hx58)
      have HC8 := Lib.hid hC8
      have HI8 := Lib.hid (show IdBox w8 w5.heap.size k.1 k.2 from (HX7.out.trans' hx8).heap' HI6.out)
      have HH8 := Lib.hid (hx58.heap' HH5.out)
      have HO8 := Lib.hid (own_ext HO5.out hx58)
      have HR8 := Lib.hid (HR5.out.ext hx58)
      have hwz := HRW.out _ hC8
      have HXW8 := Lib.hid hwz
      have hdrop : K.drop j = k :: K.drop (j + 1) := drop_at HKE.out
      have HDR := Lib.hid hdrop
      have hst : InR w8 B room b2 H (L5.map Re.en) k (K.drop (j + 1)) bl oa (.slice ba bn bc) (.bool (getC (L5.map Re.en) (k.1, k.2)).2.2) (.int .i64 ((0 : Nat) : Int)) w8 := by
        refine ⟨0, rfl, ?_⟩
        cases hat : atF k (L5.map Re.en) with
        | none =>
          have hg : (getC (L5.map Re.en) (k.1, k.2)).2.2 = false := by unfold getC; rw [show (k.1, k.2) = k from rfl, hat]
          rw [hg]
          exact .inr ⟨rfl, hat, Nat.zero_le _, (fun t ht => absurd ht (Nat.not_lt_zero _)), Below.refl _ _⟩
        | some i =>
          have hg : getC (L5.map Re.en) (k.1, k.2) = (useF (L5.map Re.en) i, ((L5.map Re.en)[i]?.map En.l).getD [], true) := by unfold getC; rw [show (k.1, k.2) = k from rfl, hat]
          have hE := HE7.out
          have hB7 := HB7.out
          rw [hg] at hE hB7 ⊢
          obtain ⟨x, hx, hxi, -⟩ := atF_some hat
          have hlen : bn ≤ 8192 := by
            have h1 := own_len hB7
            simp only [hx, Option.map_some, Option.getD_some] at h1
            have h2 := (HR5.out.ok.right x (List.mem_of_getElem? hx)).1
            have h3 : (x.l.length : Int) = k.2 := by rw [← hxi, h2]; rfl
            omega
          refine .inl ⟨rfl, ba, bn, bc, _, a7, n7, c7, L7, rfl, (Bytes.of_own (own_ext hB7 hx8)), hlen, hh8, HR7.out.ext hx8, ?_, ?_, Chg.refl _ _⟩
          · rw [conF_out hat, hE]
          · exact HD5.out.to (own_ext HO5.out HX6.out) HD7.out
      have HHB2 := Lib.hid hh8
      have HST := Lib.hid hst
      have HBE := Lib.hid hbe
      clear hst hdrop hC8 hx58 hx8 hh8 hw8 hbe HR7 HE7 HB7 HX7 HD7 HX6 HI6 HH5 HR5 HO5 hwz hmi5 hm5
      have hb25 : w5.heap.size ≠ b2 := by omega
      have hbb2 : b ≠ b2 := by have h1 := HC5.out.size; omega
      go_wp2
      go_loopw [15, 16, 17] (InR w8 B room b2 H (L5.map Re.en) k (K.drop (j + 1)) bl oa) (fun _ ok i _ => okM ln ok i)
      case atStart => exact HST.out
      case round =>
        obtain ⟨i, rfl, ⟨rfl, hF⟩ | ⟨rfl, hNj⟩⟩ := hrel
        · obtain ⟨ba9, bn9, bc9, xl, a9, n9, c9, L9, rfl, hb9, hbn9, hh9, hR9, hE9, hd9, hc9⟩ := hF
          rename World => w9
          have HB9 := Lib.hid hb9
          have HH9 := Lib.hid hh9
          have HR9 := Lib.hid hR9
          have HE9 := Lib.hid hE9
          have HD9 := Lib.hid hd9
          have HC9 := Lib.hid hc9
          clear hb9 hh9 hR9 hE9 hd9 hc9
          by_cases hin : i < ln
          · have hdd : decide ((i : Int) < (ln : Int)) = true := decide_eq_true (by omega)
            go_upto_region 19 with fail
            have hC9 := HC8.out.trans2 HC9.out (fun q hq => .inr (by rw [List.mem_singleton.1 hq]; have h1 := HC5.out.size; omega))
            have hh9 := HC9.out.heap HH8.out (fun h => hbb2 (List.mem_singleton.1 h))
            have ho9 := own_chgT HO8.out HC9.out (one_type HHB2.out (by decide))
            have hz9 := hC9.size
            have HO9 := Lib.hid (own_ext ho9 (Ext.drew' w9))
            have HH9b := Lib.hid hh9
            have HHR := Lib.hid (fun w' (h : BoxR b2 room a9 n9 c9 w') => range_of_heap2 h)
            have E9 := Ext.drew' w9
            have hbw9 := (HB9.out.ext E9).row
            have hone := u8_oneCell xl
            refine wp_region_z (BoxR b2 room a9 n9 c9) (E9.heap' HH9.out) [] (.qs [0, 1, 2] (.l 3 (.l 4 (.qs [5] .nil)))) (by kernel_rfl) (by kernel_rfl) ?_
            refine wpZ_ld rfl rfl (.tmp 14) rfl b2 0 rfl [.int .i64 room, .slice a9 n9 c9] _ HHR.out Try.underlying28 rfl (by kernel_rfl) ?_
            go_simp
            iterate 2 ((refine wpZ_q rfl rfl _ (fun w' hx' => by go_simp; try rfl) ?_; go_simp))
            refine wpZ_l rfl rfl (owp_app_at _ _ rfl Try.elB rfl HO9.out rfl hbw9 hone (by omega) (by unfold maxLen; omega) hz9 ?_)
            intro a10 c10 w10 ho10 hg10 hm10
            have hh10 : BoxR b2 room a9 n9 c9 w10 := grown_box hg10 HO9.out (E9.heap' HH9.out) (by decide)
            have hhb10 := grown_box hg10 HO9.out (E9.heap' HH9b.out) (by decide)
            refine ⟨fun _ => hh10, ?_⟩
            go_simp
            have hR10 := (HR9.out.ext E9).app HO9.out hg10 HD9.out
            have hD10 := HD9.out.moved (HR9.out.ext E9) hm10
            have hC10 : Chg [b] w4 w10 := (hC9.trans' (Chg.of_ext E9)).trans2 (Chg.of_grownO hg10) (fun q hq => .inr (own_block HO9.out q (Option.mem_toList.1 hq)).1)
            refine wpZ_l rfl rfl (wp_store_row _ _ _ rfl b #[.int .i64 room, .slice a9 n9 c9] rfl rfl _ _ hhb10 (by kernel_rfl) rfl (by simp [Value.oneCell']) ?_)
            refine ⟨fun _ => heap_kept hh10 (grown_setRow w10 b #[.int .i64 room, .slice a9 n9 c9]) (Ne.symm hbb2), ?_⟩
            have hcs : Chg [b] w10 (w10.setRow b #[.int .i64 room, .slice a9 n9 c9]) := Chg.of_grown (grown_setRow w10 _ _) (List.mem_singleton.2 rfl)
            have hJ : RcJ w4 B room kn b H (L.map Re.en) K (.slice a10 (on + bn9) c10) (w10.setRow b #[.int .i64 room, .slice a9 n9 c9]) (j + 1) := by
              refine ⟨a9, n9, c9, L9, a10, on + bn9, c10, bl ++ xl, hjn, rfl, setRow_heap _ _ _ _ _ _ hhb10, ?_, ?_, ?_, by omega, hD10, hC10.trans' hcs⟩
              · exact ⟨own_chgT hR10.own hcs (one_type hhb10 (by decide)), fun q hq => own_chgT (hR10.data q hq) hcs (one_type hhb10 (by decide)), hR10.ok, hR10.max⟩
              · rw [HE5.out, HDR.out, HE9.out]
              · rw [List.map_append]
                exact own_chgT ho10 hcs (one_type hhb10 (by decide))
            have HJ := Lib.hid hJ
            clear hJ hcs hC10 hD10 hR10 hhb10 hh10 ho10 hg10 hm10 hC9 hh9 ho9
            ((refine wpZ_q rfl rfl _ (fun w' hx' => by go_simp; try rfl) ?_; go_simp))
            refine wpZ_nil ?_
            go_wp2
            go_roundw
            case rel => exact ⟨j + 1, by go_num, HJ.out⟩
            case measure => simp [intOf]; omega
          · have hdd : decide ((i : Int) < (ln : Int)) = false := decide_eq_false (by omega)
            go_upto_region 19 with fail
            have hC9 := HC8.out.trans2 HC9.out (fun q hq => .inr (by rw [List.mem_singleton.1 hq]; have h1 := HC5.out.size; omega))
            have hh9 := HC9.out.heap HH8.out (fun h => hbb2 (List.mem_singleton.1 h))
            have ho9 := own_chgT HO8.out HC9.out (one_type HHB2.out (by decide))
            have hz9 := hC9.size
            have HO9 := Lib.hid (own_ext ho9 (Ext.drew' w9))
            have HH9b := Lib.hid hh9
            have HHR := Lib.hid (fun w' (h : BoxR b2 room a9 n9 c9 w') => range_of_heap2 h)
            have E9 := Ext.drew' w9
            have hbw9 := (HB9.out.ext E9).row
            have hone := u8_oneCell xl
            refine wp_region_z (BoxR b2 room a9 n9 c9) (E9.heap' HH9.out) [] (.qs [0, 1, 2] (.l 3 (.l 4 (.qs [5] .nil)))) (by kernel_rfl) (by kernel_rfl) ?_
            refine wpZ_ld rfl rfl (.tmp 14) rfl b2 0 rfl [.int .i64 room, .slice a9 n9 c9] _ HHR.out Try.underlying28 rfl (by kernel_rfl) ?_
            go_simp
            iterate 2 ((refine wpZ_q rfl rfl _ (fun w' hx' => by go_simp; try rfl) ?_; go_simp))
            refine wpZ_l rfl rfl (owp_app_at _ _ rfl Try.elB rfl HO9.out rfl hbw9 hone (by omega) (by unfold maxLen; omega) hz9 ?_)
            intro a10 c10 w10 ho10 hg10 hm10
            have hh10 : BoxR b2 room a9 n9 c9 w10 := grown_box hg10 HO9.out (E9.heap' HH9.out) (by decide)
            have hhb10 := grown_box hg10 HO9.out (E9.heap' HH9b.out) (by decide)
            refine ⟨fun _ => hh10, ?_⟩
            go_simp
            have hR10 := (HR9.out.ext E9).app HO9.out hg10 HD9.out
            have hD10 := HD9.out.moved (HR9.out.ext E9) hm10
            have hC10 : Chg [b] w4 w10 := (hC9.trans' (Chg.of_ext E9)).trans2 (Chg.of_grownO hg10) (fun q hq => .inr (own_block HO9.out q (Option.mem_toList.1 hq)).1)
            refine wpZ_l rfl rfl (wp_store_row _ _ _ rfl b #[.int .i64 room, .slice a9 n9 c9] rfl rfl _ _ hhb10 (by kernel_rfl) rfl (by simp [Value.oneCell']) ?_)
            refine ⟨fun _ => heap_kept hh10 (grown_setRow w10 b #[.int .i64 room, .slice a9 n9 c9]) (Ne.symm hbb2), ?_⟩
            have hcs : Chg [b] w10 (w10.setRow b #[.int .i64 room, .slice a9 n9 c9]) := Chg.of_grown (grown_setRow w10 _ _) (List.mem_singleton.2 rfl)
            have hJ : RcJ w4 B room kn b H (L.map Re.en) K (.slice a10 (on + bn9) c10) (w10.setRow b #[.int .i64 room, .slice a9 n9 c9]) (j + 1) := by
              refine ⟨a9, n9, c9, L9, a10, on + bn9, c10, bl ++ xl, hjn, rfl, setRow_heap _ _ _ _ _ _ hhb10, ?_, ?_, ?_, by omega, hD10, hC10.trans' hcs⟩
              · exact ⟨own_chgT hR10.own hcs (one_type hhb10 (by decide)), fun q hq => own_chgT (hR10.data q hq) hcs (one_type hhb10 (by decide)), hR10.ok, hR10.max⟩
              · rw [HE5.out, HDR.out, HE9.out]
              · rw [List.map_append]
                exact own_chgT ho10 hcs (one_type hhb10 (by decide))
            have HJ := Lib.hid hJ
            clear hJ hcs hC10 hD10 hR10 hhb10 hh10 ho10 hg10 hm10 hC9 hh9 ho9
            ((refine wpZ_q rfl rfl _ (fun w' hx' => by go_simp; try rfl) ?_; go_simp))
            refine wpZ_nil ?_
            go_wp2
            go_roundw
            case rel => exact ⟨j + 1, by go_num, HJ.out⟩
            case measure => simp [intOf]; omega
        · rename World => w9
          obtain ⟨hat, hil, hno, hx9⟩ := hNj
          have HAT := Lib.hid hat
          have HNO := Lib.hid hno
          have hi2 : i ≤ ln := by rw [← HH.out.len]; exact hil
          clear hat hno hil
          by_cases hin : i < ln
          · obtain ⟨y, hy⟩ : ∃ y, H[i]? = some y := ⟨_, List.getElem?_eq_getElem (by have := HH.out.len; omega)⟩
            have HY := Lib.hid hy
            have HHW := Lib.hid (fun w' (h : Ext w9 w') => HH.out.ext (HXW8.out.trans' (hx9.trans' h)))
            obtain ⟨hyb, hyn, hys, hyz⟩ := HH.out.data y (List.mem_of_getElem? hy)
            have hyl := hyb.len
            have HYB := Lib.hid (fun w' (h : Ext w9 w') => ((HHW.out w' h).data y (List.mem_of_getElem? HY.out)).1)
            have HIB := Lib.hid (fun w' (h : Ext w9 w') => (HI8.out.ext (hx9.trans' h)).rd)
            have hdd : decide ((i : Int) < (ln : Int)) = true := decide_eq_true (by omega)
            clear hy hyb
            by_cases hid : y.id = k
            rotate_left
            · have hor := id_cmp (s := k.1) (z := k.2) (s' := y.s) (z' := y.z) hid
              have HN2 := Lib.hid (show ∀ t < i + 1, ∀ x, H[t]? = some x → ¬ (x.id = k ∧ idOf x.l = k) from fun t ht x hx => by
                rcases Nat.lt_succ_iff_lt_or_eq.1 ht with h1 | h1
                · exact HNO.out t h1 x hx
                · subst h1
                  rw [HY.out] at hx
                  cases hx
                  exact fun h => hid h.1)
              clear hid
              rcases hor with h3 | ⟨h3, h4⟩
              · skip
                go_upto_region 14 with fail
                refine wp_region_e [] (.qs [0, 1, 2, 3, 4, 5, 6, 7, 8, 9, 10, 11, 12, 14] (.l 13 (.qs [15, 16] .nil))) (by kernel_rfl) (by kernel_rfl) ?_
                have E9 := Ext.drew' w9
                have HHR := Lib.hid (fun w' (h : Ext w9 w') => (HHW.out w' h).row)
                iterate 2 ((refine wpY_q rfl rfl _ (fun w' hx' => by go_simp; try rfl) ?_; go_simp))
                refine wpY_ix rfl rfl (.tmp 54) (.tmp 55) rfl Try.elCh rfl HHR.out i rfl rfl hin ?_
                intro b3 o3 hc3
                have HC3 := Lib.hid hc3
                clear hc3
                ((refine wpY_q rfl rfl _ (fun w' hx' => by go_simp; try rfl) ?_; go_simp))
                refine wpY_ld rfl rfl (.tmp 57) rfl b3 o3 rfl [.int .u64 y.s, .int .i64 y.z] _ (fun w' h => ch_id HY.out (fun q hq => HC3.out q hq w' h)) Try.underlying45 rfl (by kernel_rfl) ?_
                refine wpY_ld rfl rfl (.tmp 13) rfl w5.heap.size 0 rfl [.int .u64 k.1, .int .i64 k.2] _ HIB.out Try.underlying45 rfl (by kernel_rfl) ?_
                iterate 2 ((refine wpY_q rfl rfl _ (fun w' hx' => by go_simp; try rfl) ?_; go_simp))
                iterate 5 ((refine wpY_skip rfl rfl ?_; go_simp))
                ((refine wpY_skip rfl rfl ?_; go_simp))
                refine wpY_lskip rfl rfl ?_
                go_simp
                iterate 2 (first | ((refine wpY_q rfl rfl _ (fun w' hx' => by go_simp; try rfl) ?_; go_simp)) | ((refine wpY_skip rfl rfl ?_; go_simp)))
                refine wpY_nil ?_
                have HX9 := Lib.hid (hx9.trans' E9)
                go_wp2
                go_roundw
                case rel => exact ⟨i + 1, by go_num, .inr ⟨rfl, HAT.out, by rw [HH.out.len]; exact hin, HN2.out, HX9.out⟩⟩
                case measure => simp [okM, intOf]; omega
              · skip
                go_upto_region 14 with fail
                refine wp_region_e [] (.qs [0, 1, 2, 3, 4, 5, 6, 7, 8, 9, 10, 11, 12, 14] (.l 13 (.qs [15, 16] .nil))) (by kernel_rfl) (by kernel_rfl) ?_
                have E9 := Ext.drew' w9
                have HHR := Lib.hid (fun w' (h : Ext w9 w') => (HHW.out w' h).row)
                iterate 2 ((refine wpY_q rfl rfl _ (fun w' hx' => by go_simp; try rfl) ?_; go_simp))
                refine wpY_ix rfl rfl (.tmp 54) (.tmp 55) rfl Try.elCh rfl HHR.out i rfl rfl hin ?_
                intro b3 o3 hc3
                have HC3 := Lib.hid hc3
                clear hc3
                ((refine wpY_q rfl rfl _ (fun w' hx' => by go_simp; try rfl) ?_; go_simp))
                refine wpY_ld rfl rfl (.tmp 57) rfl b3 o3 rfl [.int .u64 y.s, .int .i64 y.z] _ (fun w' h => ch_id HY.out (fun q hq => HC3.out q hq w' h)) Try.underlying45 rfl (by kernel_rfl) ?_
                refine wpY_ld rfl rfl (.tmp 13) rfl w5.heap.size 0 rfl [.int .u64 k.1, .int .i64 k.2] _ HIB.out Try.underlying45 rfl (by kernel_rfl) ?_
                iterate 2 ((refine wpY_q rfl rfl _ (fun w' hx' => by go_simp; try rfl) ?_; go_simp))
                iterate 5 ((refine wpY_skip rfl rfl ?_; go_simp))
                ((refine wpY_skip rfl rfl ?_; go_simp))
                refine wpY_lskip rfl rfl ?_
                go_simp
                iterate 2 (first | ((refine wpY_q rfl rfl _ (fun w' hx' => by go_simp; try rfl) ?_; go_simp)) | ((refine wpY_skip rfl rfl ?_; go_simp)))
                refine wpY_nil ?_
                have HX9 := Lib.hid (hx9.trans' E9)
                go_wp2
                go_roundw
                case rel => exact ⟨i + 1, by go_num, .inr ⟨rfl, HAT.out, by rw [HH.out.len]; exact hin, HN2.out, HX9.out⟩⟩
                case measure => simp [okM, intOf]; omega
            obtain ⟨e1, e2⟩ : y.s = k.1 ∧ y.z = k.2 := ⟨congrArg Prod.fst hid, congrArg Prod.snd hid⟩
            have h3 : ((y.s : Int) == (k.1 : Int)) = true := by simp [e1]
            have h4 : (y.z == k.2) = true := by simp [e2]
            by_cases he : idOf y.l = k
            rotate_left
            · have hor := id_cmp (s := k.1) (z := k.2) (s' := fp y.l) (z' := (y.n : Int)) (fun h => he (by rw [← hyl] at h; exact h))
              have HN2 := Lib.hid (show ∀ t < i + 1, ∀ x, H[t]? = some x → ¬ (x.id = k ∧ idOf x.l = k) from fun t ht x hx => by
                rcases Nat.lt_succ_iff_lt_or_eq.1 ht with h1 | h1
                · exact HNO.out t h1 x hx
                · subst h1
                  rw [HY.out] at hx
                  cases hx
                  exact fun h => he h.2)
              clear he hid e1 e2
              rcases hor with h5 | ⟨h5, h6⟩
              · skip
                go_upto_region 14 with fail
                refine wp_region_e [] (.qs [0, 1, 2, 3, 4, 5, 6, 7, 8, 9, 10, 11, 12, 14] (.l 13 (.qs [15, 16] .nil))) (by kernel_rfl) (by kernel_rfl) ?_
                have E9 := Ext.drew' w9
                have HHR := Lib.hid (fun w' (h : Ext w9 w') => (HHW.out w' h).row)
                iterate 2 ((refine wpY_q rfl rfl _ (fun w' hx' => by go_simp; try rfl) ?_; go_simp))
                refine wpY_ix rfl rfl (.tmp 54) (.tmp 55) rfl Try.elCh rfl HHR.out i rfl rfl hin ?_
                intro b3 o3 hc3
                have HC3 := Lib.hid hc3
                clear hc3
                ((refine wpY_q rfl rfl _ (fun w' hx' => by go_simp; try rfl) ?_; go_simp))
                refine wpY_ld rfl rfl (.tmp 57) rfl b3 o3 rfl [.int .u64 y.s, .int .i64 y.z] _ (fun w' h => ch_id HY.out (fun q hq => HC3.out q hq w' h)) Try.underlying45 rfl (by kernel_rfl) ?_
                refine wpY_ld rfl rfl (.tmp 13) rfl w5.heap.size 0 rfl [.int .u64 k.1, .int .i64 k.2] _ HIB.out Try.underlying45 rfl (by kernel_rfl) ?_
                iterate 2 ((refine wpY_q rfl rfl _ (fun w' hx' => by go_simp; try rfl) ?_; go_simp))
                iterate 2 ((refine wpY_q rfl rfl _ (fun w' hx' => by go_simp; try rfl) ?_; go_simp))
                refine wpY_ix rfl rfl (.tmp 62) (.tmp 63) rfl Try.elCh rfl HHR.out i rfl rfl hin ?_
                intro b4 o4 hc4
                have HC4 := Lib.hid hc4
                clear hc4
                ((refine wpY_q rfl rfl _ (fun w' hx' => by go_simp; try rfl) ?_; go_simp))
                refine wpY_q rfl rfl (.slice y.a y.n y.c) (fun w' hx' => by have hb' := ch_dat HY.out (fun q hq => HC4.out q hq w' hx'); go_simp; try rfl) ?_
                go_simp
                refine wpY_ld rfl rfl (.tmp 13) rfl w5.heap.size 0 rfl [.int .u64 k.1, .int .i64 k.2] _ HIB.out Try.underlying45 rfl (by kernel_rfl) ?_
                refine wpY_l rfl rfl ?_
                go_simp
                refine (refOf_any y.a y.n y.c y.l _ (HYB.out _ E9) (by omega)).mono ?_
                rintro en w10 ⟨rfl, hx10⟩
                have E10 := E9.trans' hx10
                refine ⟨E10, ?_⟩
                iterate 2 ((refine wpY_q rfl rfl _ (fun w' hx' => by go_simp; try rfl) ?_; go_simp))
                refine wpY_nil ?_
                have HX9 := Lib.hid (hx9.trans' E10)
                go_wp2
                go_roundw
                case rel => exact ⟨i + 1, by go_num, .inr ⟨rfl, HAT.out, by rw [HH.out.len]; exact hin, HN2.out, HX9.out⟩⟩
                case measure => simp [okM, intOf]; omega
              · skip
                go_upto_region 14 with fail
                refine wp_region_e [] (.qs [0, 1, 2, 3, 4, 5, 6, 7, 8, 9, 10, 11, 12, 14] (.l 13 (.qs [15, 16] .nil))) (by kernel_rfl) (by kernel_rfl) ?_
                have E9 := Ext.drew' w9
                have HHR := Lib.hid (fun w' (h : Ext w9 w') => (HHW.out w' h).row)
                iterate 2 ((refine wpY_q rfl rfl _ (fun w' hx' => by go_simp; try rfl) ?_; go_simp))
                refine wpY_ix rfl rfl (.tmp 54) (.tmp 55) rfl Try.elCh rfl HHR.out i rfl rfl hin ?_
                intro b3 o3 hc3
                have HC3 := Lib.hid hc3
                clear hc3
                ((refine wpY_q rfl rfl _ (fun w' hx' => by go_simp; try rfl) ?_; go_simp))
                refine wpY_ld rfl rfl (.tmp 57) rfl b3 o3 rfl [.int .u64 y.s, .int .i64 y.z] _ (fun w' h => ch_id HY.out (fun q hq => HC3.out q hq w' h)) Try.underlying45 rfl (by kernel_rfl) ?_
                refine wpY_ld rfl rfl (.tmp 13) rfl w5.heap.size 0 rfl [.int .u64 k.1, .int .i64 k.2] _ HIB.out Try.underlying45 rfl (by kernel_rfl) ?_
                iterate 2 ((refine wpY_q rfl rfl _ (fun w' hx' => by go_simp; try rfl) ?_; go_simp))
                iterate 2 ((refine wpY_q rfl rfl _ (fun w' hx' => by go_simp; try rfl) ?_; go_simp))
                refine wpY_ix rfl rfl (.tmp 62) (.tmp 63) rfl Try.elCh rfl HHR.out i rfl rfl hin ?_
                intro b4 o4 hc4
                have HC4 := Lib.hid hc4
                clear hc4
                ((refine wpY_q rfl rfl _ (fun w' hx' => by go_simp; try rfl) ?_; go_simp))
                refine wpY_q rfl rfl (.slice y.a y.n y.c) (fun w' hx' => by have hb' := ch_dat HY.out (fun q hq => HC4.out q hq w' hx'); go_simp; try rfl) ?_
                go_simp
                refine wpY_ld rfl rfl (.tmp 13) rfl w5.heap.size 0 rfl [.int .u64 k.1, .int .i64 k.2] _ HIB.out Try.underlying45 rfl (by kernel_rfl) ?_
                refine wpY_l rfl rfl ?_
                go_simp
                refine (refOf_any y.a y.n y.c y.l _ (HYB.out _ E9) (by omega)).mono ?_
                rintro en w10 ⟨rfl, hx10⟩
                have E10 := E9.trans' hx10
                refine ⟨E10, ?_⟩
                iterate 2 ((refine wpY_q rfl rfl _ (fun w' hx' => by go_simp; try rfl) ?_; go_simp))
                refine wpY_nil ?_
                have HX9 := Lib.hid (hx9.trans' E10)
                go_wp2
                go_roundw
                case rel => exact ⟨i + 1, by go_num, .inr ⟨rfl, HAT.out, by rw [HH.out.len]; exact hin, HN2.out, HX9.out⟩⟩
                case measure => simp [okM, intOf]; omega
            have h5 : ((fp y.l : Int) == (k.1 : Int)) = true := by have h := congrArg Prod.fst he; simp only [idOf] at h; simp [h]
            have h6 : ((y.n : Int) == k.2) = true := by have h := congrArg Prod.snd he; simp only [idOf, hyl] at h; simp [h]
            have HCF := Lib.hid (conF_put (room := room) (K := K.drop (j + 1)) (out := bl) HAT.out (fnd_at HNO.out HY.out hid he))
            have HPC := Lib.hid (show putC room (L5.map Re.en) (k.1, k.2) y.l = putF room (L5.map Re.en) k y.l from by
              unfold putC
              rw [if_neg]
              rintro (h | h)
              · have := congrArg Prod.snd he
                simp only [idOf] at this
                omega
              · exact h he)
            have hy0 : 0 < y.n := by have h := congrArg Prod.snd he; simp only [idOf, hyl] at h; omega
            have hy8 : y.n ≤ 8192 := by have h := congrArg Prod.snd he; simp only [idOf, hyl] at h; omega
            clear he hid e1 e2
            go_upto_region 14 with fail
            refine wp_region_e [] (.qs [0, 1, 2, 3, 4, 5, 6, 7, 8, 9, 10, 11, 12, 14] (.l 13 (.qs [15, 16] .nil))) (by kernel_rfl) (by kernel_rfl) ?_
            have E9 := Ext.drew' w9
            have HHR := Lib.hid (fun w' (h : Ext w9 w') => (HHW.out w' h).row)
            iterate 2 ((refine wpY_q rfl rfl _ (fun w' hx' => by go_simp; try rfl) ?_; go_simp))
            refine wpY_ix rfl rfl (.tmp 54) (.tmp 55) rfl Try.elCh rfl HHR.out i rfl rfl hin ?_
            intro b3 o3 hc3
            have HC3 := Lib.hid hc3
            clear hc3
            ((refine wpY_q rfl rfl _ (fun w' hx' => by go_simp; try rfl) ?_; go_simp))
            refine wpY_ld rfl rfl (.tmp 57) rfl b3 o3 rfl [.int .u64 y.s, .int .i64 y.z] _ (fun w' h => ch_id HY.out (fun q hq => HC3.out q hq w' h)) Try.underlying45 rfl (by kernel_rfl) ?_
            refine wpY_ld rfl rfl (.tmp 13) rfl w5.heap.size 0 rfl [.int .u64 k.1, .int .i64 k.2] _ HIB.out Try.underlying45 rfl (by kernel_rfl) ?_
            iterate 2 ((refine wpY_q rfl rfl _ (fun w' hx' => by go_simp; try rfl) ?_; go_simp))
            iterate 2 ((refine wpY_q rfl rfl _ (fun w' hx' => by go_simp; try rfl) ?_; go_simp))
            refine wpY_ix rfl rfl (.tmp 62) (.tmp 63) rfl Try.elCh rfl HHR.out i rfl rfl hin ?_
            intro b4 o4 hc4
            have HC4 := Lib.hid hc4
            clear hc4
            ((refine wpY_q rfl rfl _ (fun w' hx' => by go_simp; try rfl) ?_; go_simp))
            refine wpY_q rfl rfl (.slice y.a y.n y.c) (fun w' hx' => by have hb' := ch_dat HY.out (fun q hq => HC4.out q hq w' hx'); go_simp; try rfl) ?_
            go_simp
            refine wpY_ld rfl rfl (.tmp 13) rfl w5.heap.size 0 rfl [.int .u64 k.1, .int .i64 k.2] _ HIB.out Try.underlying45 rfl (by kernel_rfl) ?_
            refine wpY_l rfl rfl ?_
            go_simp
            refine (refOf_any y.a y.n y.c y.l _ (HYB.out _ E9) (by omega)).mono ?_
            rintro en w10 ⟨rfl, hx10⟩
            have E10 := E9.trans' hx10
            refine ⟨E10, ?_⟩
            iterate 2 ((refine wpY_q rfl rfl _ (fun w' hx' => by go_simp; try rfl) ?_; go_simp))
            refine wpY_nil ?_
            have hrw10 := (HHW.out w10 E10).row
            have hrb10 := range_of_heap2 (E10.heap' (hx9.heap' HH8.out))
            have hid10 := HIB.out w10 E10
            have HX10 := Lib.hid (hx9.trans' E10)
            have HPU := Lib.hid (refPut38_any B room a5 n5 c5 L5 k.1 k.2 y.a y.n y.c y.l w10 (HR8.out.ext HX10.out) (by have h1 := HB.out; have h2 := HXW8.out.size; have h3 := HX10.out.size; omega) (HYB.out w10 E10) (by omega))
            have HYW := Lib.hid (HYB.out w10 E10)
            clear h3 h4 h5 h6 hx10 E10 E9
            go_wp2_with (first
              | ((with_reducible refine atSlot 73 ?_); refine wpList_of_wp rfl (owp_ix (o := ⟨some 73, _, _, _, _, _⟩) _ _ rfl Try.elCh rfl hrw10 i rfl rfl hin ?_); intro b4 o4 hc4; have hd4 := ch_dat HY.out hc4; clear hc4)
              | ((with_reducible refine atSlot 77 ?_); refine wpList_of_wp rfl (wp_load_mid (op := ⟨some 77, _, _, _, _, _⟩) 28 _ rfl b 0 rfl [.int .i64 room, .slice a5 n5 c5] _ hrb10 Try.underlying28 rfl (by kernel_rfl) ?_); clear hrb10)
              | ((with_reducible refine atSlot 78 ?_); refine wpList_of_wp rfl (wp_load_mid (op := ⟨some 78, _, _, _, _, _⟩) 45 _ rfl w5.heap.size 0 rfl [.int .u64 k.1, .int .i64 k.2] _ hid10 Try.underlying45 rfl (by kernel_rfl) ?_); clear hid10)
              | (go_at_call 47; (with_reducible refine HPU.out.mono ?_); rintro en w11 ⟨a11, n11, c11, L11, ga, gn, gc, rfl, hR11, hE11, -, -, hx11, hd11⟩; have HR11 := Lib.hid hR11; have HE11 := Lib.hid hE11; have HX11 := Lib.hid hx11; have HD11 := Lib.hid hd11; have HQ := Lib.hid ((HX10.out.trans' hx11).heap' HHB2.out); clear hR11 hE11 hx11 hd11)
              | ((with_reducible refine atStore 14 ?_); refine wpList_of_wp rfl (wp_store_row (o := ⟨none, _, _, _, _, _⟩) _ _ _ rfl b2 #[.int .i64 room, .slice a11 n11 c11] rfl rfl _ _ HQ.out (by kernel_rfl) rfl (by simp [Value.oneCell']) ?_))
              | fail)
            have hcs : Chg [b2] w11 (w11.setRow b2 #[.int .i64 room, .slice a11 n11 c11]) := Chg.of_grown (grown_setRow w11 _ _) (List.mem_singleton.2 rfl)
            have hF12 : FndJ w8 B room b2 H (L5.map Re.en) k (K.drop (j + 1)) bl oa (.slice y.a y.n y.c) (w11.setRow b2 #[.int .i64 room, .slice a11 n11 c11]) := by
              have hX := HX10.out.trans' HX11.out
              have hyw := HYB.out
              refine ⟨y.a, y.n, y.c, y.l, a11, n11, c11, L11, rfl, ?_, hy8, setRow_heap _ _ _ _ _ _ HQ.out, ?_, ?_, ?_, (Chg.of_ext hX).trans' hcs⟩
              · have hlow : ∀ p, y.a = some p → p.block < w.heap.size := row_low ((HH.out.data y (List.mem_of_getElem? HY.out)).1.row) (by omega) (by decide)
                have hb11 := HYW.out.ext HX11.out
                exact ⟨hb11.len, hb11.row.below1 (hcs.below (B := w.heap.size) (fun q hq => by rw [List.mem_singleton.1 hq]; have h1 := HXW.out.size; omega) (by have h1 := HXW8.out.size; have h2 := hX.size; omega)) fun p hp _ => hlow p hp⟩
              · exact ⟨own_chgT HR11.out.own hcs (one_type HQ.out (by decide)), fun q hq => own_chgT (HR11.out.data q hq) hcs (one_type HQ.out (by decide)), HR11.out.ok, HR11.out.max⟩
              · rw [HCF.out, HE11.out, HPC.out]
              · exact HD5.out.to (own_ext HO8.out HX10.out) HD11.out
            have HF12 := Lib.hid hF12
            clear hF12 hcs hd4
            go_roundw
            case rel => exact ⟨i + 1, by go_num, .inl ⟨rfl, HF12.out⟩⟩
            case measure => simp [okM, intOf]; omega
          · obtain rfl : i = ln := by omega
            have HV := Lib.hid (show conC room H (L.map Re.en) K S = (L.map Re.en, [], 383) by
              unfold conC
              rw [if_neg (by rw [HCK.out]; simp), HE5.out, HDR.out, conF_miss HAT.out (fnd_no HNO.out (by rw [HH.out.len]; exact Nat.le_refl _))])
            have hC9 := HC8.out.trans' (Chg.of_ext hx9)
            have hrg9 := range_of_heap2 (hC9.heap HH14.out HN1.out)
            have hh9 := hC9.heap HH34.out HN3.out
            have HF := Lib.hid (setRow_heap w9 (w.heap.size + 1 + 1) _ #[.int .i64 room, .slice a n c] _ _ hh9)
            have HXF := Lib.hid ((HXW8.out.trans' hx9).setRow (g := w.heap.size + 1 + 1) (cs := #[.int .i64 room, .slice a n c]) (by omega))
            clear hC9
            go_wp2_with (first
              | ((with_reducible refine atSlot 86 ?_); refine wpList_of_wp rfl (wp_load_mid (op := ⟨some 86, _, _, _, _, _⟩) 28 _ rfl w.heap.size 0 rfl [.int .i64 room, .slice a n c] _ hrg9 Try.underlying28 rfl (by kernel_rfl) ?_); clear hrg9)
              | ((with_reducible refine atStore 6 ?_); refine wpList_of_wp rfl (wp_store_row (o := ⟨none, _, _, _, _, _⟩) _ _ _ rfl (w.heap.size + 1 + 1) #[.int .i64 room, .slice a n c] rfl rfl _ _ hh9 (by kernel_rfl) rfl (by simp [Value.oneCell']) ?_))
              | fail)
            refine bodyPost_ret (results_c2 (ty := 28) rfl _ (w.heap.size + 1 + 1) [.int .i64 room, .slice a n c] _ rfl (range_of_heap2 HF.out) Try.underlying28 rfl (by kernel_rfl)) rfl ?_
            rw [HV.out]
            exact ⟨a, n, c, L, none, 0, 0, rfl, HR.out.ext HXF.out, rfl, own_nil _ _ _ _, HXF.out⟩
    · obtain rfl : j = kn := by omega
      have HV := Lib.hid (show conC room H (L.map Re.en) K S = (L5.map Re.en, bl, 0) by
        unfold conC
        rw [if_neg (by rw [HCK.out]; simp), HE5.out, List.drop_eq_nil_of_le (by have := HKL.out; omega)]
        rfl)
      have hrg5 := range_of_heap2 HH5.out
      have hh5 := HC5.out.heap HH34.out HN3.out
      have HF := Lib.hid (setRow_heap w5 (w.heap.size + 1 + 1) _ #[.int .i64 room, .slice a5 n5 c5] _ _ hh5)
      have hcs : Chg [w.heap.size + 1 + 1] w5 (w5.setRow (w.heap.size + 1 + 1) #[.int .i64 room, .slice a5 n5 c5]) := Chg.of_grown (grown_setRow w5 _ _) (List.mem_singleton.2 rfl)
      have HRF := Lib.hid (show Rc (w5.setRow (w.heap.size + 1 + 1) #[.int .i64 room, .slice a5 n5 c5]) B room a5 n5 c5 L5 from ⟨own_chgT HR5.out.own hcs (one_type hh5 (by decide)), fun q hq => own_chgT (HR5.out.data q hq) hcs (one_type hh5 (by decide)), HR5.out.ok, HR5.out.max⟩)
      have HOF := Lib.hid (own_base (own_chgT HO5.out hcs (one_type hh5 (by decide))) HX4.out.size)
      have HXF := Lib.hid (HXW.out.setRow (g := w.heap.size + 1 + 1) (cs := #[.int .i64 room, .slice a5 n5 c5]) (by omega))
      clear hcs hj hjn
      go_wp2_with (first
        | ((with_reducible refine atSlot 91 ?_); refine wpList_of_wp rfl (wp_load_mid (op := ⟨some 91, _, _, _, _, _⟩) 28 _ rfl b 0 rfl [.int .i64 room, .slice a5 n5 c5] _ hrg5 Try.underlying28 rfl (by kernel_rfl) ?_); clear hrg5)
        | ((with_reducible refine atStore 6 ?_); refine wpList_of_wp rfl (wp_store_row (o := ⟨none, _, _, _, _, _⟩) _ _ _ rfl (w.heap.size + 1 + 1) #[.int .i64 room, .slice a5 n5 c5] rfl rfl _ _ hh5 (by kernel_rfl) rfl (by simp [Value.oneCell']) ?_))
        | fail)
      refine bodyPost_ret (results_c2 (ty := 28) rfl _ (w.heap.size + 1 + 1) [.int .i64 room, .slice a5 n5 c5] _ rfl (range_of_heap2 HF.out) Try.underlying28 rfl (by kernel_rfl)) rfl ?_
      rw [HV.out]
      exact ⟨a5, n5, c5, L5, oa, on, oc, rfl, HRF.out, rfl, HOF.out, HXF.out⟩
end Go.Proofs.Ytpiodpljiklfkaa
