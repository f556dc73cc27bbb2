/-
  Regions that draw their order, by a plan, where a free operation may stand behind the others through many others (as in Ord1, at depth 9).
-/
import Derived.Test.YtejljmikammcdaaGreatDoorOrd1
namespace Go.Proofs.YtejljmikammcdaaGreatDoor
open Go.RowKit
section
variable {P : Program} {md : Region.Mode} {ops : Array Oper} {R : World → Prop}

def freesU (md : Region.Mode) (ops : Array Oper) (fr : List Nat) : Bool :=
  fr.all fun j => (List.range ops.size).all fun i => fr.contains i || behind md ops i 9 j
theorem freesU_spec {fr : List Nat} (h : freesU md ops fr = true) {i j : Nat} (hj : j ∈ fr) (hi : i < ops.size) (hif : fr.contains i = false) : behind md ops i 9 j = true := by
  have h1 := List.all_eq_true.1 (List.all_eq_true.1 h j hj) i (List.mem_range.2 hi)
  simpa only [hif, Bool.false_or] using h1
theorem uAny_first {fr : List Nat} (hfr : freesU md ops fr = true) {Q : Act → World → Prop} {i : Nat} {oi : Oper} {v : Value} (hi : ops[i]? = some oi) (hsel : ∀ (j : Nat) (o : Oper) cs b, ops[j]? = some o → o.op ≠ .select cs b)
    (hif : fr.contains i = false) :
    ∀ (fuel : Nat) (listed : Array Bool) (a : Act) (w : World),
      (∀ j oj, ops[j]? = some oj → j ≠ i → listed.getD j true = false → (∀ e ∈ oj.after, Region.binds md e = true → e.on ≠ i) → oi.apart ops oj = true) →
      Closed md ops listed → i ∈ Region.ready md ops listed → R w → FirmZ P ops R oi v a →
      zAny P md ops R fr Q fuel (listed.setIfInBounds i true) (a.put oi.dst v) w → zAny P md ops R fr Q (fuel + 1) listed a w := by
  intro fuel
  induction fuel with
  | zero =>
    intro listed a w _ _ hr hw0 hy H
    refine ⟨fun h => (by rw [h] at hr; cases hr), fun j hj => ?_⟩
    by_cases hji : j = i
    · subst hji; exact hy.zOp hi hw0 H
    · have := ready_mono hj hji
      rw [H.1] at this
      cases this
  | succ fuel ih =>
    intro listed a w hfree hcl hr hw0 hy H
    refine ⟨fun h => (by rw [h] at hr; cases hr), fun j hj => ?_⟩
    by_cases hji : j = i
    · subst hji; exact hy.zOp hi hw0 H
    · have h1 := H.2 j (ready_mono hj hji)
      obtain ⟨hjun, oj, hoj, hall⟩ := mem_ready.1 hj
      have hnot : ∀ e ∈ oj.after, Region.binds md e = true → e.on ≠ i := fun e he hb heq => by
        have h1 := hall e he hb
        have h0 := (mem_ready.1 hr).1
        rw [heq] at h1
        rcases Nat.lt_or_ge i listed.size with h' | h'
        · simp [h'] at h0 h1; rw [h0] at h1; cases h1
        · simp [Array.getElem?_eq_none h'] at h1
      have hjf : fr.contains j = false := by
        rw [Bool.eq_false_iff]
        intro hc
        have h3 := hcl.behind 9 j oj hoj (ready_after hj hoj) (freesU_spec hfr (List.contains_iff_mem.1 hc) (Array.getElem?_eq_some_iff.1 hi).1 hif)
        rw [(mem_ready.1 hr).1] at h3
        cases h3
      have hap := hfree j oj hoj hji hjun hnot
      have hfree' : ∀ k ok, ops[k]? = some ok → k ≠ i → (listed.setIfInBounds j true).getD k true = false →
          (∀ e ∈ ok.after, Region.binds md e = true → e.on ≠ i) → oi.apart ops ok = true := fun k ok hk hki hun hno => by
        refine hfree k ok hk hki ?_ hno
        by_cases hjk : j = k
        · subst hjk; exact hjun
        · rw [getD_set_ne true hjk] at hun; exact hun
      have h2 := zOp_put hoj hap (fun cs b => hsel i oi cs b hi) (fun cs b => hsel j oj cs b hoj) hy h1
      refine zOp_mono' hw0 (fun a' w' hb h3 => ih (listed.setIfInBounds j true) a' w' hfree' (hcl.next hj) (ready_mono hr (Ne.symm hji)) (hb hjf) h3.1 ?_) h2
      rw [Array.setIfInBounds_comm _ _ hji]
      exact h3.2

theorem StillU.next {fr : List Nat} (hfr : freesU md ops fr = true) {listed : Array Bool} {w' : World} {i : Nat} (hcl : Closed md ops listed) (hr : i ∈ Region.ready md ops listed) (hb : fr.contains i = false → R w') :
    StillZ ops R fr (listed.setIfInBounds i true) w' := by
  by_cases hf : fr.contains i = true
  · right
    intro k hk hkf
    obtain ⟨hun, oi, hoi, hall⟩ := mem_ready.1 hr
    have h3 := hcl.behind 9 i oi hoi (ready_after hr hoi) (freesU_spec hfr (List.contains_iff_mem.1 hf) hk hkf)
    by_cases hik : i = k
    · subst hik
      rcases Nat.lt_or_ge i listed.size with h' | h'
      · simp [h']
      · simp
    · rw [getD_set_ne true hik]; exact h3
  · exact .inl (hb (by simpa using hf))

theorem alts_of_wpU {fr : List Nat} (hfr : freesU md ops fr = true) {Q : Act → World → Prop} (n : Nat) (H : ∀ (p : XP) (listed : Array Bool) (a : Act) (w : World), Closed md ops listed → StillZ ops R fr listed w → eagerY md ops fr p true listed = true → p.even n = true → wpZ P ops R fr Q p a w → zAny P md ops R fr Q n listed a w) :
    ∀ (r : XP) (top : Bool) (listed : Array Bool) (a : Act) (w : World), Closed md ops listed → StillZ ops R fr listed w → eagerY md ops fr r top listed = true → r.even (n + 1) = true → wpZ P ops R fr Q r a w → ∀ i ∈ r.keys, i ∈ Region.ready md ops listed → zOp P ops R (fr.contains i) i (zAny P md ops R fr Q n (listed.setIfInBounds i true)) a w
  | .nil, _, _, _, _, _, _, _, _, _, _, hi, _ => by cases hi
  | .q _ _, _, _, _, _, _, _, _, _, _, _, hi, _ => by cases hi
  | .stop, _, _, _, _, _, _, _, _, _, _, hi, _ => by cases hi
  | .alt k p r, top, listed, a, w, hcl, hS, hB, hE, h, i, hi, hr => by
    simp only [eagerY, Bool.and_eq_true] at hB
    simp only [XP.even, Bool.and_eq_true] at hE
    simp only [XP.keys, List.mem_cons] at hi
    rcases hi with rfl | hi
    · have hh := h.1
      unfold zOp at hh ⊢
      split
      · rename_i ho; simp only [ho] at hh
        obtain ⟨-, oi, hoi, -⟩ := mem_ready.1 hr
        rw [hoi] at ho; cases ho
      · rename_i o ho
        simp only [ho] at hh
        split
        · rename_i hw; simp only [hw, if_true] at hh; exact wp_weaken (fun a' w' hk => ⟨hk.1, H p _ a' w' (hcl.next hr) (StillU.next hfr hcl hr hk.1) hB.1.2 hE.1 hk.2⟩) (fun _ _ _ h => h) hh
        · rename_i hw; simp only [hw] at hh
          refine H p _ _ _ (hcl.next hr) ?_ hB.1.2 hE.1 hh
          rcases hS with h | h
          · exact .inl h
          · refine .inr fun k hk hkf => ?_
            have := h k hk hkf
            by_cases hik : i = k
            · subst hik
              rcases Nat.lt_or_ge i listed.size with h' | h'
              · simp [h']
              · simp
            · rw [getD_set_ne true hik]; exact this
    · exact alts_of_wpU hfr n H r false listed a w hcl hS hB.2 hE.2 h.2 i hi hr

theorem zAny_of_wpU {fr : List Nat} (hfr : freesU md ops fr = true) {Q : Act → World → Prop} (hs : Region.noSelect ops = true) : ∀ (n : Nat) (p : XP) (listed : Array Bool) (a : Act) (w : World), Closed md ops listed → StillZ ops R fr listed w →
    eagerY md ops fr p true listed = true → p.even n = true → wpZ P ops R fr Q p a w → zAny P md ops R fr Q n listed a w
  | 0, .nil, _, _, _, _, _, hB, _, h => ⟨by simpa [eagerY] using hB, h⟩
  | 0, .q _ _, _, _, _, _, _, _, hE, _ => by simp [XP.even] at hE
  | 0, .alt _ _ _, _, _, _, _, _, _, hE, _ => by simp [XP.even] at hE
  | _, .stop, _, _, _, _, _, hB, _, _ => by simp [eagerY] at hB
  | n + 1, .nil, _, _, _, _, _, _, hE, _ => by simp [XP.even] at hE
  | n + 1, .alt k p r, listed, a, w, hcl, hS, hB, hE, h => by
    have hB' := hB
    simp only [eagerY, Bool.and_eq_true, Bool.not_true, Bool.false_or, beq_iff_eq] at hB'
    refine ⟨fun h0 => (by rw [h0] at hB'; cases hB'.1.1), fun i hi => ?_⟩
    have hi' := hi
    rw [hB'.1.1] at hi
    exact alts_of_wpU hfr n (fun p listed a w => zAny_of_wpU hfr hs n p listed a w) (.alt k p r) true listed a w hcl hS hB hE h i hi hi'
  | n + 1, .q k p, listed, a, w, hcl, hS, hB, hE, h => by
    simp only [eagerY, Bool.and_eq_true, Bool.not_eq_true', Bool.true_and] at hB
    obtain ⟨⟨⟨hr, hf⟩, hfk⟩, hB'⟩ := hB
    obtain ⟨o, ho, v, hy, hK⟩ := h
    have hr' : k ∈ Region.ready md ops listed := by simpa using hr
    have hw0 : R w := by
      rcases hS with h | h
      · exact h
      · have h1 := h k (Array.getElem?_eq_some_iff.1 ho).1 hfk
        rw [(mem_ready.1 hr').1] at h1
        cases h1
    exact uAny_first hfr ho (Region.noSelect_spec hs) hfk n listed a w (Region.free_spec ho hf) hcl hr' hw0 hy (zAny_of_wpU hfr hs n p _ _ _ (hcl.next hr') (.inl hw0) hB' (by simpa [XP.even] using hE) hK)

def eagerUB (ops : Array Oper) (fr : List Nat) (p : XP) : Bool := Region.noSelect ops && p.even ops.size && freesU .any ops fr && eagerY .any ops fr p true (Array.replicate ops.size false)
theorem wp_region_u {id : Nat} {Q : Exit → Act → World → Prop} {a : Act} {w : World} {ol : List Oper} (R : World → Prop) (hR : R w.drew) (fr : List Nat) (p : XP) (hm : P.follows .mixedOrders = true) (hB : eagerUB ol.toArray fr p = true)
    (h : wpZ P ol.toArray R fr (fun a' w' => Q .normal a' w') p a w.drew) : (Code.region id ol.toArray true).wp P Q a w := by
  simp only [eagerUB, Bool.and_eq_true] at hB
  obtain ⟨⟨⟨hs, he⟩, hfr⟩, hB⟩ := hB
  exact wp_region_any hm (wpAny_of_zAny (fr := fr) (Q := fun a' w' => Q .normal a' w') (fun _ _ h => h) _ _ _ _ (zAny_of_wpU hfr hs _ p _ a _ closed_start (.inl hR) hB he h))
end
end Go.Proofs.YtejljmikammcdaaGreatDoor
