/-
  Layer region: the holes with their texts: SortFunc, ContainsFunc.
-/
import Derived.Test.YtejljmikammcdaaGreatDoorReF
import Derived.Test.YtejljmikammcdaaGreatDoorShelfB
import Derived.Test.YtejljmikammcdaaGreatDoorShelfA
namespace Go.Proofs.YtejljmikammcdaaGreatDoor
open Go.RowKit

def encH (q : Pt) : List Value := [.slice q.a q.n q.c, .bool q.P.rest, .string (bs (textP q.P))]
theorem encH_three (q : Pt) : (encH q).length = 3 := rfl
theorem encH_one (q : Pt) : ∀ v ∈ encH q, v.oneCell' = true := fun v hv => by
  simp [encH] at hv
  rcases hv with rfl | rfl | rfl <;> rfl
def cmpH (x y : Pt) : Int := Lib.compareBytes (textP x.P) (textP y.P)
theorem ltH (x y : Pt) : ltOf cmpH x y = decide (textP x.P < textP y.P) := by
  unfold ltOf cmpH
  exact Bool.eq_iff_iff.2 (by rw [decide_eq_true_eq, decide_eq_true_eq]; exact cmpB_lt _ _)
theorem swoH : Go.Sort.SWO (ltOf cmpH) where
  irrefl x := by rw [ltH]; exact decide_eq_false (List.lt_irrefl _)
  trans x y z h1 h2 := by
    rw [ltH, decide_eq_true_eq] at *
    exact List.lt_trans h1 h2
  ntrans x y z h1 h2 := by
    rw [ltH, decide_eq_false_iff_not, List.not_lt] at *
    exact List.le_trans h2 h1
set_option maxHeartbeats 2000000 in
theorem Reduce1_any (x y : Pt) (W : World) : Calls Tryz.prog 46 #[.agg #[.slice x.a x.n x.c, .bool x.P.rest, .string (bs (textP x.P))], .agg #[.slice y.a y.n y.c, .bool y.P.rest, .string (bs (textP y.P))]] W fun e w' => e = .returned (.int .i64 (cmpH x y)) ∧ ∃ q os', w' = Go.Sort.grow (W.drewN q) os' := by
  have hcon := fun W' => Tryz.strings_Compare (bs (textP x.P)) (bs (textP y.P)) W'
  have hb : ∀ l : Str, (bs l).data.toList = l := fun l => rfl
  simp only [hb] at hcon
  obtain ⟨r, hr⟩ : ∃ r, r = cmpH x y := ⟨_, rfl⟩
  rw [show Lib.compareBytes (textP x.P) (textP y.P) = cmpH x y from rfl, ← hr] at hcon
  rw [← hr]
  have HC := Lib.hid hcon
  clear hr hcon
  go_enter Tryz.func46, Tryz.ntmps46
  go_wp2_with (first
    | (go_at_call 47; (with_reducible refine (HC.out _).mono ?_); rintro e w' ⟨rfl, rfl⟩)
    | fail)
  go_ret
  exact ⟨rfl, 0, _, by rw [Go.Sort.alloc_eq_grow, Go.Sort.alloc_eq_grow, Go.Sort.grow_grow]; rfl⟩
/-- A sorted row. -/
def SrtO (L : List Pt) (B g c : Nat) (w : World) (en : Ending) (w' : World) : Prop :=
  en = .returned (.tuple #[]) ∧ ∃ M : List Pt, M.Perm L ∧ (∀ (i j : Nat) x y, i < j → M[i]? = some x → M[j]? = some y → ¬ textP y.P < textP x.P) ∧ w'.ownsRow B 103 3 (.slice (some ⟨g, 0, none⟩) M.length c) M.length (M.flatMap encH) ∧ w.grownBy w' (some g)
theorem SortHoles_any (L : List Pt) (B g c : Nat) (w : World) (h : w.ownsRow B 103 3 (.slice (some ⟨g, 0, none⟩) L.length c) L.length (L.flatMap encH)) (hl : L.length < 4611686018427387904) :
    Calls Tryz.prog 45 #[.slice (some ⟨g, 0, none⟩) L.length c, .func (.func 46) #[] #[]] w (SrtO L B g c w) := by
  have eg : ∀ args w, (callFunc 46 args).run Tryz.prog w = .ok (.enter 46 args) w := enters_of Tryz.func46 (by kernel_rfl) rfl
  have hgs : g < w.heap.size := (own_block h g rfl).2
  have hcon := AnyQ.slices_SortFunc Tryz.sortHole 3 Tryz.isAgg103 Tryz.sizeOf103 encH encH_three encH_one cmpH swoH 46 #[] g 0 c L.toArray w eg (fun _ _ _ _ x y => Reduce1_any x y _) (holdsK_own encH_three h) hgs (by simpa using hl)
  rw [show L.toArray.size = L.length by simp] at hcon
  change Calls Tryz.prog 45 _ _ _ at hcon
  refine hcon.mono ?_
  rintro en w' ⟨rfl, d', n, os, hp, hs, rfl⟩
  obtain ⟨hsz, -, hperm⟩ := hp
  have hsz' : d'.toList.length = L.length := by simpa using hsz
  have hd : d'.toList.toArray = d' := by simp
  refine ⟨rfl, d'.toList, ?_, ?_, ?_, ?_⟩
  · have e1 : (d'.extract 0 L.length).toList = d'.toList := by simp [← hsz']
    have e2 : (L.toArray.extract 0 L.length).toList = L := by simp
    rw [e1, e2] at hperm
    exact hperm
  · intro i j x y hij hx hy
    have hj := (List.getElem?_eq_some_iff.1 hy).1
    have h1 := hs i j (Nat.zero_le _) hij (by omega)
    have hx' : d'[i]! = x := by rw [Array.getElem?_toList] at hx; rw [getElem!_def, hx]
    have hy' : d'[j]! = y := by rw [Array.getElem?_toList] at hy; rw [getElem!_def, hy]
    rw [hx', hy', ltH, decide_eq_false_iff_not] at h1
    exact h1
  · have := own_sortK encH_three (m := n) (os := os) hsz' h
    rwa [hd] at this
  · exact grown_sortK encH 3 w g n d' os
end Go.Proofs.YtejljmikammcdaaGreatDoor
