/-
  The law CacheCopies.
-/
import Derived.Test.YtpiodpljiklfkaaCacX
import Derived.Test.YtpiodpljiklfkaaCacPl
import Derived.Test.YtpiodpljiklfkaaCacS
namespace Go.Proofs.Ytpiodpljiklfkaa
open Go.RowKit

theorem Cac.boxT {w w' : World} {B c room b : Nat} {E : List En} {F : List Nat} {cs : Array Value} {t : TypeId} {fr : Nat × Nat} (h : Cac w B c room E F) (hh : w.heap[b]? = some (.cells cs t fr)) (hg : w.grownBy w' (some b))
    (t1 : t ≠ 81) (t2 : t ≠ 79) (t3 : t ≠ 5) : Cac w' B c room E F := by
  have hc : Chg [b] w w' := Chg.of_grown hg (List.mem_singleton.2 rfl)
  have hn : ∀ j ∈ F, j ∉ [b] := fun j hj hm => by
    rw [List.mem_singleton] at hm
    subst hm
    rcases h.typed _ hj _ _ _ hh with e | e
    · exact t1 e
    · exact t2 e
  obtain ⟨m, e, N, LN, hC, hE, rfl⟩ := h
  refine ⟨m, e, N, LN, ?_, hE, rfl⟩
  exact { box := hC.box.chg hc (hn c (by simp))
          nodes := fun j hj => (hC.nodes j hj).chg hc (hn j (by rcases List.mem_cons.1 hj with rfl | hj <;> simp [*]))
          ring := hC.ring
          nodup := hC.nodup
          map := hC.map.chg hc (hn m (by simp))
          data := fun j hj => own_chgT (hC.data j hj) hc (one_type hh t3)
          base := hC.base
          ok := hC.ok
          max := hC.max }
theorem Rc.boxT {w w' : World} {B room n c b : Nat} {a : Option Addr} {L : List Re} {cs : Array Value} {t : TypeId} {fr : Nat × Nat} (h : Rc w B room a n c L) (hh : w.heap[b]? = some (.cells cs t fr)) (hg : w.grownBy w' (some b))
    (t3 : t ≠ 5) (t4 : t ≠ 106) : Rc w' B room a n c L :=
  have hc : Chg [b] w w' := Chg.of_grown hg (List.mem_singleton.2 rfl)
  ⟨own_chgT h.own hc (one_type hh t4), fun q hq => own_chgT (h.data q hq) hc (one_type hh t3), h.ok, h.max⟩
/-- The other cache and its twin, beside what a step may change. -/
def SepJ (g B1 B2 c room : Nat) (a : Option Addr) (n cp : Nat) (L : List Re) (F : List Nat) (b5 : Nat) (F' : List Nat) (wr : World) : Prop :=
  Cac wr B1 c room (L.map Re.en) F ∧ Rc wr B2 room a n cp L ∧ RcB wr b5 room a n cp ∧ (∀ j ∈ F', j ∉ F) ∧ g < B1 ∧ g < B2 ∧ g < b5
section
variable {w wr w' : World} {g k B1 B2 c room n cp b5 : Nat} {a : Option Addr} {L : List Re} {F F' F'' : List Nat}
theorem SepJ.ext (h : SepJ g B1 B2 c room a n cp L F b5 F' wr) (hx : Ext wr w') : SepJ g B1 B2 c room a n cp L F b5 F' w' :=
  ⟨h.1.ext hx, h.2.1.ext hx, hx.heap' h.2.2.1, h.2.2.2⟩
theorem SepJ.tick (h : SepJ g B1 B2 c room a n cp L F b5 F' wr) (hg : wr.grownBy w' (some g)) : SepJ g B1 B2 c room a n cp L F b5 F' w' :=
  ⟨h.1.tick hg h.2.2.2.2.1, h.2.1.tick hg h.2.2.2.2.2.1, heap_other h.2.2.1 hg (fun e => by have := h.2.2.2.2.2.2; cases e; omega), h.2.2.2⟩
theorem SepJ.step (h : SepJ g B1 B2 c room a n cp L F b5 F' wr) (hT : TypedG wr (g :: F')) (hc : Chg (g :: F') wr w') (hF : ∀ j ∈ F'', j ∈ F' ∨ wr.heap.size ≤ j) : SepJ g B1 B2 c room a n cp L F b5 F'' w' := by
  obtain ⟨h1, h2, h3, h4, h5, h6⟩ := h
  refine ⟨h1.chgG hc hT fun j hj hm => ?_, h2.chgG hc hT, hc.heap h3 (RcB.not h3 hT), fun j hj hm => ?_, h5, h6⟩
  · rcases List.mem_cons.1 hm with rfl | hm
    · have := h1.base _ hj; omega
    · exact h4 j hm hj
  · rcases hF j hj with h | h
    · exact h4 j h hm
    · have := h1.lt j hm; omega
theorem SepJ.box {b : Nat} {cs : Array Value} (h : SepJ g B1 B2 c room a n cp L F b5 F' wr) (hh : wr.heap[b]? = some (.cells cs 28 (0, 0))) (hg : wr.grownBy w' (some b)) (hb : b ≠ b5) : SepJ g B1 B2 c room a n cp L F b5 F' w' :=
  ⟨h.1.boxT hh hg (by decide) (by decide) (by decide), h.2.1.boxT hh hg (by decide) (by decide), heap_other h.2.2.1 hg (fun e => hb (by cases e; rfl)), h.2.2.2⟩
end
def CyRel (w : World) (g B1 B2 c room : Nat) (a : Option Addr) (n cp : Nat) (L : List Re) (F : List Nat) (b5 d b8 : Nat) (i : Value) (wr : World) : Prop :=
  ∃ (j k : Nat) (a' : Option Addr) (n' cp' : Nat) (E' : List En) (F' : List Nat), i = .int .i64 j ∧ k + 80 * j ≤ 100000 ∧ PlJ w g d room b8 k a' n' cp' E' F' wr ∧ SepJ g B1 B2 c room a n cp L F b5 F' wr

set_option maxRecDepth 100000 in
set_option maxHeartbeats 8000000 in
theorem CacheCopies_walk (a1 : Option Addr) (n1 c1 : Nat) (L1 : List Int) (w : World)
    (hl : Row w a1 n1 c1 1 (L1.map (Value.int .i64))) (hli : ∀ x ∈ L1, -9223372036854775808 ≤ x ∧ x ≤ 9223372036854775807) (ha1 : ∀ p, a1 = some p → 0 < n1 → p.block < w.heap.size) :
    Calls Try.prog 11 #[.slice a1 n1 c1] w (LawPost w) := by
  have ht : Tape (w.alloc (.cells #[.slice a1 n1 c1, .int .i64 0] 39)) w.heap.size 0 :=
    ⟨a1, n1, c1, L1, heap_alloc_new w _, hl.ext (Ext.alloc' _ _), ha1, hli⟩
  have hx1 : Ext w (w.alloc (.cells #[.slice a1 n1 c1, .int .i64 0] 39)) := Ext.alloc' _ _
  have HT := Lib.hid ht
  have HX1 := Lib.hid hx1
  clear ht hx1 hl hli ha1
  go_enter Try.func11, Try.ntmps11
  go_upto_region 2 with fail
  obtain ⟨g, hge⟩ : ∃ g, g = w.heap.size := ⟨_, rfl⟩
  rw [← hge] at HT ⊢
  have HGE := Lib.hid hge
  generalize w.alloc (.cells #[.slice a1 n1 c1, .int .i64 0] 39) = w1 at HT HX1 ⊢
  have hgz : w.heap.size ≤ g := Nat.le_of_eq hge.symm
  clear hge
  have HLV := Lib.hid (show Calls Try.prog 27 #[.pointer (some ⟨g, 0, none⟩), .int .i64 14] w1 (LivO w1 g 0) from lived38_any g 0 14 w1 HT.out (by omega) (by omega))
  go_upto_region 3 with (first
    | (go_at_call 27; (with_reducible refine HLV.out.mono ?_); rintro en w2 ⟨c, room, a, n, cp, E, F, k2, rfl, hD2, hr1, hr14, hk2, hg2, hF2⟩; have HD2 := Lib.hid hD2; have HX2 := Lib.hid (show Ext w w2 from HX1.out.grown hg2 HX1.out.size (fun q hq => by cases hq; exact hgz)); have HF2 := Lib.hid (show ∀ q ∈ F, w.heap.size ≤ q from fun q hq => Nat.le_trans HX1.out.size (hF2 q hq)); clear hD2 hg2 hF2; have HP := Lib.hid (put_new w2 #[.int .i64 0, .slice none 0 0] #[.int .i64 room, .slice a n cp] 28); have HN := Lib.hid (heap_alloc_new w2 (.cells #[.int .i64 0, .slice none 0 0] 28)))
    | ((with_reducible refine atStore 5 ?_); refine wpList_of_wp rfl (wp_store_row (o := ⟨none, _, _, _, _, _⟩) _ _ _ rfl w2.heap.size #[.int .i64 room, .slice a n cp] rfl rfl _ _ HN.out (by kernel_rfl) rfl (by simp [Value.oneCell']) ?_))
    | fail)
  obtain ⟨hx3, hh3⟩ := HP.out
  obtain ⟨b5, hb5⟩ : ∃ b5, b5 = w2.heap.size := ⟨_, rfl⟩
  generalize (w2.alloc (.cells #[.int .i64 0, .slice none 0 0] 28)).setRow w2.heap.size #[.int .i64 room, .slice a n cp] = w3 at hx3 hh3 ⊢
  rw [← hb5] at hh3 ⊢
  have hgb : g < b5 := by rw [hb5]; exact HD2.out.tape.lt
  have HD3 := Lib.hid (HD2.out.ext hx3)
  have HX3 := Lib.hid (HX2.out.trans' hx3)
  have HB3 := Lib.hid (show RcB w3 b5 room a n cp from hh3)
  have HF3 := HF2
  clear hx3 hh3 hb5 HP HN HLV HD2 HX2 HX1 HT
  have HKN := Lib.hid (known38_any w3)
  go_upto_region 5 with (first
    | (go_at_call 14; (with_reducible refine HKN.out.mono ?_); rintro en w4 ⟨rfl, hx4'⟩; have hx4 : Ext w3 w4 := hx4'; clear hx4'; have HD4 := Lib.hid (HD3.out.ext hx4); have HX4 := Lib.hid (HX3.out.trans' hx4); have HB4 := Lib.hid (show RcB w4 b5 room a n cp from hx4.heap' HB3.out); clear hx4)
    | fail)
  have hd4 := HD4.out
  obtain ⟨B1, B2, L, ht4, hb1, hb2, hb3, hC4, hR4, rfl, hS4⟩ := hd4
  have HC4 := Lib.hid hC4
  have HR4 := Lib.hid hR4
  have HT4 := Lib.hid ht4
  have HS4 := Lib.hid hS4
  have hd4 := HD4.out
  have HCY := Lib.hid (Copy38_any B1 c room (L.map Re.en) F w4 hC4)
  clear ht4 hC4 hR4 hS4 hd4 HD3 HX3 HB3 HKN HF2
  go_upto_region 6 with (first
    | (go_at_call 36; (with_reducible refine HCY.out.mono ?_); rintro en w5 ⟨d, Fd, rfl, hC5, hF5, hx5⟩)
    | fail)
  have hsep : SepJ g B1 B2 c room a n cp L F b5 Fd w5 := ⟨HC4.out.ext hx5, HR4.out.ext hx5, hx5.heap' HB4.out, fun j hj hm => by have h1 := hF5 j hj; have h2 := HC4.out.lt j hm; omega, hb1, hb2, hgb⟩
  have hduo : Duo w5 g k2 d room a n cp (L.map Re.en) Fd := ⟨B1, B2, L, HT4.out.ext hx5, hb1, hb2, Nat.le_trans hb3 hx5.size, hC5, HR4.out.ext hx5, rfl, HS4.out⟩
  have HSEP5 := Lib.hid hsep
  have HDU5 := Lib.hid hduo
  have HX5 := Lib.hid (HX4.out.trans' hx5)
  have HF5 := Lib.hid (show ∀ q ∈ Fd, w.heap.size ≤ q from fun q hq => Nat.le_trans HX4.out.size (hF5 q hq))
  have HIS := Lib.hid (duo_is hduo)
  have hrd5 := range_of_heap2 (hsep.2.2.1)
  clear hsep hduo hC5 hF5 hx5 HCY HC4 HR4 HT4 HS4 HD4 HX4 HB4 HF3
  go_upto_region 8 with (first
    | ((with_reducible refine atSlot 31 ?_); refine wpList_of_wp rfl (wp_load_mid (op := ⟨some 31, _, _, _, _, _⟩) 28 _ rfl b5 0 rfl [.int .i64 room, .slice a n cp] _ hrd5 Try.underlying28 rfl (by kernel_rfl) ?_); clear hrd5)
    | (go_at_call 33; (with_reducible refine HIS.out.mono ?_); rintro en w6 ⟨rfl, hx6⟩)
    | fail)
  have HSEP6 := Lib.hid (HSEP5.out.ext hx6)
  have HDU6 := Lib.hid (HDU5.out.ext hx6)
  have HX6 := Lib.hid (HX5.out.trans' hx6)
  have hrd6 := range_of_heap2 HSEP6.out.2.2.1
  have HP := Lib.hid (put_new w6 #[.int .i64 0, .slice none 0 0] #[.int .i64 room, .slice a n cp] 28)
  have HN := Lib.hid (heap_alloc_new w6 (.cells #[.int .i64 0, .slice none 0 0] 28))
  clear hx6 HIS HSEP5 HDU5 HX5
  go_upto_region 9 with (first
    | ((with_reducible refine atSlot 35 ?_); refine wpList_of_wp rfl (wp_load_mid (op := ⟨some 35, _, _, _, _, _⟩) 28 _ rfl b5 0 rfl [.int .i64 room, .slice a n cp] _ hrd6 Try.underlying28 rfl (by kernel_rfl) ?_); clear hrd6)
    | ((with_reducible refine atStore 8 ?_); refine wpList_of_wp rfl (wp_store_row (o := ⟨none, _, _, _, _, _⟩) _ _ _ rfl w6.heap.size #[.int .i64 room, .slice a n cp] rfl rfl _ _ HN.out (by kernel_rfl) rfl (by simp [Value.oneCell']) ?_))
    | fail)
  obtain ⟨hx7, hh7⟩ := HP.out
  obtain ⟨b8, hb8⟩ : ∃ b8, b8 = w6.heap.size := ⟨_, rfl⟩
  generalize (w6.alloc (.cells #[.int .i64 0, .slice none 0 0] 28)).setRow w6.heap.size #[.int .i64 room, .slice a n cp] = w7 at hx7 hh7 ⊢
  rw [← hb8] at hh7 ⊢
  have hb58 : b5 < b8 := by rw [hb8]; exact (Array.getElem?_eq_some_iff.1 HSEP6.out.2.2.1).1
  have hpj : PlJ w g d room b8 k2 a n cp (L.map Re.en) Fd w7 := ⟨HDU6.out.ext hx7, hh7, HX6.out.trans' hx7, HF5.out, hgz, by omega⟩
  have HTN := Lib.hid (Next_any g k2 9 w7 hpj.1.tape (by omega) (by omega))
  have HPJ := Lib.hid hpj
  have HSEP7 := Lib.hid (HSEP6.out.ext hx7)
  clear hpj hx7 hh7 hb8 HP HN HSEP6 HDU6 HX6
  go_wp2_with (first
    | (go_at_call 18; (with_reducible refine HTN.out.mono ?_); rintro e w8 ⟨cn, rfl, hcn, ht8, hg8⟩; have hcn' : cn ≤ 8 := (by unfold Below1 at hcn; omega); have HP8 := Lib.hid (HPJ.out.tick hg8 ht8); have HSEP8 := Lib.hid (HSEP7.out.tick hg8); clear hcn ht8 hg8)
    | fail)
  go_loopw [6, 9] (fun _ i w' => CyRel w g B1 B2 c room a n cp L F b5 d b8 i w') (fun _ i _ => (intOf i).toNat)
  case atStart => exact ⟨cn, k2 + 1, a, n, cp, L.map Re.en, Fd, rfl, by omega, HP8.out, HSEP8.out⟩
  case round =>
    obtain ⟨j, k, a', n', cp', E', F', rfl, hk, hpj, hsep⟩ := hrel
    rename World => w9
    have HPJ9 := Lib.hid hpj
    have HSEP9 := Lib.hid hsep
    have hrd := range_of_heap2 hpj.2.1
    have hrd0 := range_of_heap2 hsep.2.2.1
    clear hpj hsep HP8 HSEP8 HPJ HSEP7 HTN
    by_cases hj : 0 < j
    · have HST := Lib.hid (step38_any g k d room a' n' cp' E' F' w9 HPJ9.out.1 (by omega))
      go_upto_region 13 with (first
        | ((with_reducible refine atSlot 45 ?_); refine wpList_of_wp rfl (wp_load_mid (op := ⟨some 45, _, _, _, _, _⟩) 28 _ rfl b8 0 rfl [.int .i64 room, .slice a' n' cp'] _ hrd Try.underlying28 rfl (by kernel_rfl) ?_); clear hrd)
        | (go_at_call 32; (with_reducible refine HST.out.mono ?_); rintro en wa ⟨aa, na, cpa, Ea, Fa, ka, rfl, hDa, hka, -, hCa, hFa⟩; obtain ⟨hba, hpa⟩ := HPJ9.out.step hDa hCa hFa; have HBA := Lib.hid hba; have HPA := Lib.hid hpa; have HSA := Lib.hid ((HSEP9.out.step HPJ9.out.1.typed hCa hFa).box hba (grown_setRow wa b8 #[.int .i64 room, .slice aa na cpa]) (by omega)); clear hDa hCa hFa hba hpa)
        | ((with_reducible refine atStore 8 ?_); refine wpList_of_wp rfl (wp_store_row (o := ⟨none, _, _, _, _, _⟩) _ _ _ rfl b8 #[.int .i64 room, .slice aa na cpa] rfl rfl _ _ HBA.out (by kernel_rfl) rfl (by simp [Value.oneCell']) ?_))
        | fail)
      generalize wa.setRow b8 #[.int .i64 room, .slice aa na cpa] = wb at HPA HSA ⊢
      clear hrd0
      go_wp2
      go_roundw
      case rel => exact ⟨j - 1, ka, aa, na, cpa, Ea, Fa, by go_num, by omega, HPA.out, HSA.out⟩
      case measure => simp [intOf]; omega
    · obtain rfl : j = 0 := by omega
      have HIS := Lib.hid (is38_any B1 B2 c room a n cp L F w9 HSEP9.out.1 HSEP9.out.2.1)
      have HIT := Lib.hid (fun w' (h : Ext w9 w') => duo_is (HPJ9.out.1.ext h))
      have t1 : True := trivial
      clear hj
      go_wp2_with (first
        | ((with_reducible refine atSlot 52 ?_); refine wpList_of_wp rfl (wp_load_mid (op := ⟨some 52, _, _, _, _, _⟩) 28 _ rfl b5 0 rfl [.int .i64 room, .slice a n cp] _ hrd0 Try.underlying28 rfl (by kernel_rfl) ?_); clear hrd0)
        | (go_at_call 33; have _t := t1; (with_reducible refine HIS.out.mono ?_); rintro en wa ⟨rfl, hxa⟩; clear t1; have HXA := Lib.hid hxa; have hrda := range_of_heap2 (hxa.heap' HPJ9.out.2.1); clear hxa)
        | ((with_reducible refine atSlot 56 ?_); refine wpList_of_wp rfl (wp_load_mid (op := ⟨some 56, _, _, _, _, _⟩) 28 _ rfl b8 0 rfl [.int .i64 room, .slice a' n' cp'] _ hrda Try.underlying28 rfl (by kernel_rfl) ?_); clear hrda)
        | (go_at_call 33; (with_reducible refine (HIT.out _ HXA.out).mono ?_); rintro en wb ⟨rfl, hxb⟩; have HX := Lib.hid (HPJ9.out.2.2.1.trans' (HXA.out.trans' hxb)); clear hxb)
        | fail)
      go_ret
      exact ⟨rfl, HX.out⟩
end Go.Proofs.Ytpiodpljiklfkaa
