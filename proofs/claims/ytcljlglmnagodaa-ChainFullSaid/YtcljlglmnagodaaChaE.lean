/-
  Chains: slices.Clone of links, copied.
-/
import Derived.Test.YtcljlglmnagodaaChaC
import Derived.Test.YtcljlglmnagodaaDelS
namespace Go.Proofs.Ytcljlglmnagodaa
open Go.RowKit

def ClR (w : World) (n : Nat) (xs : List Value) (e : Ending) (w' : World) : Prop :=
  ∃ a c, e = .returned (.slice a n c) ∧ w'.ownsRow w.heap.size 73 2 (.slice a n c) n xs ∧ Ext w w'
set_option maxRecDepth 100000 in
theorem CloneLk_any (a : Option Addr) (n c : Nat) (L : List Lk) (w : World) (hL : Links w a n c L) (hn : n ≤ 1000000) :
    Calls Try.prog 105 #[.slice a n c] w (ClR w n (L.flatMap Lk.cells)) := by
  cases a with
  | none =>
    have h1 := hL.2.1.nil rfl
    have h2 := hL.2.1.le
    obtain rfl : c = 0 := h1
    obtain rfl : n = 0 := by omega
    obtain rfl : L = [] := List.eq_nil_of_length_eq_zero hL.1
    have hq := Lib.run_eql_slice_nil (P := Try.prog) w 59 73 none 0 0 0 0 Try.underlying59
    go_enter Try.func105, Try.ntmps105
    go_wp2
    go_ret
    exact ⟨none, 0, rfl, own_nil _ _ _ _, Below.refl _ _⟩
  | some p =>
    have hrw : ∀ w', Ext w w' → Row w' (some p) n c 2 (L.flatMap Lk.cells) := fun w' h => (hL.ext h).2.1
    have hq := Lib.run_eql_slice_nil (P := Try.prog) w 59 73 (some p) n c 0 0 Try.underlying59
    go_enter Try.func105, Try.ntmps105
    go_wp2_with (at_builtin; with_reducible refine wpList_app rfl _ _ rfl Try.elLk rfl (own_lit w #[] w.heap.size 73 0 2 (Nat.le_refl _) (by decide) rfl) rfl (hrw _ (Ext.alloc' _ _)) (lk_oneCell _) (by omega) (by unfold maxLen; omega) (by simp) ?_; intro a1 c1 w1 ho1 hg1)
    go_ret
    refine ⟨a1, c1, ?_, ?_, ?_⟩
    · simp
    · simpa using ho1
    · exact below_app (Ext.alloc' w _) (own_lit w #[] w.heap.size 73 0 2 (Nat.le_refl _) (by decide) rfl) hg1 (by simp)
theorem lk_set_one {y : Lk} {v : Value} {j : Nat} : ∀ {L : List Lk} {i : Nat} {x : Lk}, L[i]? = some x → j < 2 → y.cells = x.cells.set j v → (L.flatMap Lk.cells).set (i * 2 + j) v = (L.set i y).flatMap Lk.cells
  | [], _, _, h, _, _ => by cases h
  | x :: L, 0, x', h, hj, hy => by
    have : x = x' := by simpa using h
    subst this
    rw [List.flatMap_cons, Nat.zero_mul, Nat.zero_add, List.set_cons_zero, List.flatMap_cons, hy, List.set_append_left _ _ (by show j < 2; exact hj)]
  | x :: L, i + 1, x', h, hj, hy => by
    have hc : x.cells.length = 2 := rfl
    rw [List.flatMap_cons, List.set_cons_succ, List.flatMap_cons, ← lk_set_one (by simpa using h) hj hy, List.set_append_right _ _ (by omega), hc, show (i + 1) * 2 + j - 2 = i * 2 + j by omega]
def CopR (w : World) (L : List Ln) (e : Ending) (w' : World) : Prop :=
  ∃ (a : Option Addr) (n c : Nat) (LL : List Lk), e = .returned (.slice a n c) ∧ OwnLks w' w.heap.size a n c LL ∧ LL.map Lk.d = L ∧ Ext w w'
def CpRel (w : World) (a : Option Addr) (n c : Nat) (L : List Lk) (i : Value) (wr : World) : Prop :=
  ∃ (j : Nat) (LL : List Lk), i = .int .i64 j ∧ j ≤ n ∧ LL.length = n ∧ LL.map Lk.d = L.map Lk.d ∧ wr.ownsRow w.heap.size 73 2 (.slice a n c) n (LL.flatMap Lk.cells) ∧
    (∀ k y, k < j → LL[k]? = some y → wr.ownsRow w.heap.size 5 1 (.slice y.a y.n y.c) y.n (y.l.map u8)) ∧ (∀ k, j ≤ k → LL[k]? = L[k]?) ∧ Ext w wr

set_option maxRecDepth 100000 in
set_option maxHeartbeats 4000000 in
theorem copied_any (a : Option Addr) (n c : Nat) (L : List Lk) (w : World) (hL : Links w a n c L) (hn : n ≤ 1000000) :
    Calls Try.prog 93 #[.slice a n c] w (CopR w (L.map Lk.d)) := by
  have HCL := Lib.hid (CloneLk_any a n c L w hL hn)
  have HLN := Lib.hid hL.1
  go_enter Try.func93, Try.ntmps93
  go_wp2_with (first
    | (go_at_call 105; (with_reducible refine HCL.out.mono ?_); rintro e w2 ⟨a2, c2, rfl, ho2, hx2⟩)
    | fail)
  go_loopw [10] (CpRel w a2 n c2 L) (fun i _ => n - (intOf i).toNat)
  case atStart => exact ⟨0, L, rfl, Nat.zero_le _, HLN.out, rfl, ho2, (fun k y h => absurd h (Nat.not_lt_zero _)), (fun k _ => rfl), hx2⟩
  case round =>
    obtain ⟨j, LL, rfl, hj, hLn, hLd, hO, hD, hK, hx3⟩ := hrel
    rename World => w3
    by_cases hjn : j < n
    rotate_left
    · obtain rfl : j = n := by omega
      go_wp2
      go_ret
      refine ⟨a2, j, c2, LL, rfl, ⟨hLn, hO, fun y hy => ?_⟩, hLd, hx3⟩
      obtain ⟨k, hk⟩ := List.mem_iff_getElem?.1 hy
      have hkj : k < j := by have := (List.getElem?_eq_some_iff.1 hk).1; omega
      obtain ⟨x, hx⟩ : ∃ x, L[k]? = some x := ⟨_, List.getElem?_eq_getElem (by rw [HLN.out]; exact hkj)⟩
      have hxI := hL.2.2 x (List.mem_of_getElem? hx)
      have hdd : y.d = x.d := by
        have h := congrArg (fun l => l[k]?) hLd
        simp only [List.getElem?_map, hk, hx, Option.map_some, Option.some.injEq] at h
        exact h
      have hb : y.b = x.b := congrArg Ln.b hdd
      have hl : y.l = x.l := congrArg Ln.l hdd
      have hyo := hD k y hkj hk
      refine ⟨hyo, ?_, by rw [hb]; exact hxI.2.2⟩
      have h1 := own_len hyo
      have h2 := hxI.1.len
      rw [hl, h2] at h1
      have := hxI.2.1
      omega
    obtain ⟨A, cur, rfl, hA, hcur, -, -⟩ := own_some hO (by omega)
    have hkL := hK j (Nat.le_refl _)
    obtain ⟨k, hk⟩ : ∃ k, L[j]? = some k := ⟨_, List.getElem?_eq_getElem (by rw [HLN.out]; exact hjn)⟩
    rw [hk] at hkL
    have hkI := hL.2.2 k (List.mem_of_getElem? hk)
    have hkb := hkI.1.ext hx3
    have hkn := hkI.2.1
    have hkl := hkb.len
    have hr3 := Row.of_own hO
    have hE4 := Ext.alloc' w3 (.cells #[.int .i64 k.b, .slice k.a k.n k.c] 73)
    have HK := Lib.hid hkL
    have HO := Lib.hid hO
    have HD := Lib.hid hD
    have HKK := Lib.hid hK
    have HLD := Lib.hid hLd
    have HKO := Lib.hid hk
    have hLn' : j < LL.length := by omega
    have HA := Lib.hid hA
    clear hkL hk hkI hO hD hK hLd hcur ho2 hA
    go_wp2_with (first
      | ((with_reducible refine atSlot 13 ?_); refine wpList_of_wp rfl (owp_ix (o := ⟨some 13, _, _, _, _, _⟩) _ _ rfl Try.elLk rfl hr3 j rfl rfl hjn ?_); intro b3 o3 hc3; have hrg3 := lk_range HK.out hc3; clear hc3)
      | ((with_reducible refine atSlot 14 ?_); refine wpList_of_wp rfl (wp_load_mid (op := ⟨some 14, _, _, _, _, _⟩) 73 _ rfl b3 o3 rfl _ _ hrg3 Try.underlying73 rfl (by kernel_rfl) ?_); simp only [Lk.cells]; clear hrg3)
      | (go_at_call 92; (with_reducible refine (Clone_any k.a k.n k.c k.l _ (hkb.ext hE4) hkn).mono ?_); rintro e w5 ⟨a5, n5, c5, rfl, ho5, hx5⟩; have hE5 := hE4.trans' hx5; have HO5 := Lib.hid (own_ext HO.out hE5))
      | ((with_reducible refine atSlot 20 ?_); refine wpList_of_wp rfl (owp_ixp3 (o := ⟨some 20, _, _, _, _, _⟩) _ _ rfl Try.elLk rfl j rfl rfl hjn ?_))
      | ((with_reducible refine atStore 21 ?_); refine wpList_of_wp rfl (owp_st1 (o := ⟨none, _, _, _, _, _⟩) 26 _ _ rfl A (j * 2 + 1) (.slice a5 n5 c5) rfl rfl rfl (own_there HO5.out (by omega)) (by kernel_rfl) rfl ?_))
      | fail)
    have hl5 := own_len ho5
    have hn5 : n5 = k.n := by omega
    subst hn5
    have hs : (LL.flatMap Lk.cells).set (j * 2 + 1) (.slice a5 k.n c5) = (LL.set j { k with a := a5, c := c5 }).flatMap Lk.cells := lk_set_one HK.out (by decide) rfl
    have hO6 := own_setCell (j := j * 2 + 1) (v := .slice a5 k.n c5) HO5.out (by omega)
    rw [hs] at hO6
    have hg6 := grown_setCell' w5 A (j * 2 + 1) (.slice a5 k.n c5)
    obtain ⟨cur5, hcur5⟩ := own_heap HO5.out (b := A) rfl
    have keep : ∀ {m c' : Nat} {a' : Option Addr} {xs : List Value} {B : Nat}, w5.ownsRow B 5 1 (.slice a' m c') m xs → (w5.setCell ⟨A, j * 2 + 1, none⟩ (.slice a5 k.n c5)).ownsRow B 5 1 (.slice a' m c') m xs := fun h => own_other h hg6 (fun e => own_apart h hcur5 (by decide) e.symm)
    go_roundw
    case rel =>
      refine ⟨j + 1, LL.set j { k with a := a5, c := c5 }, by go_num, hjn, by rw [List.length_set]; exact hLn, ?_, hO6, fun i y hi hy => ?_, fun i hi => ?_, (hx3.trans' hE5).st HA.out _ _⟩
      · rw [← HLD.out, List.map_set]
        refine List.ext_getElem? fun i => ?_
        rw [List.getElem?_set]
        split
        · rename_i h; subst h
          rw [List.getElem?_map, HK.out]
          simp [hLn', Lk.d]
        · rfl
      · rcases get_set_or hy with ⟨rfl, rfl⟩ | ⟨hne, hy⟩
        · exact keep (own_base ho5 (hx3.trans' hE4).size)
        · exact keep (own_ext (HD.out i y (by omega) hy) hE5)
      · rw [List.getElem?_set_ne (by omega)]
        exact HKK.out i (by omega)
    case measure => simp [intOf]; omega
end Go.Proofs.Ytcljlglmnagodaa
