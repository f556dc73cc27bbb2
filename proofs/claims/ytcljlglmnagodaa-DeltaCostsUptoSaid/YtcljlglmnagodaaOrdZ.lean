/-
  The walk of a region by a plan, over any notion of a later world (R).
-/
import Derived.Test.YtcljlglmnagodaaOrdY
namespace Go.Proofs.Ytcljlglmnagodaa
open Go.RowKit

section
variable {P : Program} {ops : Array Oper} {md : Region.Mode}

/-- One operation; what stood below block B in the world w0 stays, unless the operation is free to change it. -/
def zOp (P : Program) (ops : Array Oper) (R : World → Prop) (fr : Bool) (i : Nat) (K : Act → World → Prop) (a : Act) (w : World) : Prop :=
  match ops[i]? with
  | none => K a w
  | some o => if Region.wanted o (yielded ops a.tmps) then o.wp P a w (fun a' w' => (fr = false → R w') ∧ K a' w') (fun _ _ _ => False) else K (a.put o.dst undef) w

variable {R : World → Prop}
theorem zOp_mono {fr : Bool} {i : Nat} {a : Act} {w : World} {K K' : Act → World → Prop} (h : ∀ a w, K a w → K' a w) (hh : zOp P ops R fr i K a w) : zOp P ops R fr i K' a w := by
  unfold zOp at *
  split
  · rename_i ho; simp only [ho] at hh; exact h _ _ hh
  · rename_i o ho
    simp only [ho] at hh
    split
    · rename_i hw; simp only [hw, if_true] at hh; exact wp_weaken (fun a w hk => ⟨hk.1, h _ _ hk.2⟩) (fun _ _ _ h => h) hh
    · rename_i hw; simp only [hw] at hh; exact h _ _ hh
theorem zOp_mono' {fr : Bool} {i : Nat} {a : Act} {w : World} {K K' : Act → World → Prop} (hw0 : R w) (h : ∀ a w, (fr = false → R w) → K a w → K' a w) (hh : zOp P ops R fr i K a w) : zOp P ops R fr i K' a w := by
  unfold zOp at *
  split
  · rename_i ho; simp only [ho] at hh; exact h _ _ (fun _ => hw0) hh
  · rename_i o ho
    simp only [ho] at hh
    split
    · rename_i hw; simp only [hw, if_true] at hh; exact wp_weaken (fun a w hk => ⟨hk.1, h _ _ hk.1 hk.2⟩) (fun _ _ _ h => h) hh
    · rename_i hw; simp only [hw] at hh; exact h _ _ (fun _ => hw0) hh
theorem wpOp_of_zOp {fr : Bool} {i : Nat} {a : Act} {w : World} {K K' : Act → World → Prop} {Q : Exit → Act → World → Prop} (h : ∀ a w, K a w → K' a w) (hh : zOp P ops R fr i K a w) : wpOp P ops Q i K' a w := by
  unfold zOp at hh
  unfold wpOp
  split
  · rename_i ho; simp only [ho] at hh; exact h _ _ hh
  · rename_i o ho
    simp only [ho] at hh
    split
    · rename_i hw; simp only [hw, if_true] at hh; exact .inl (wp_weaken (fun a w hk => h _ _ hk.2) (fun _ _ _ h => h.elim) hh)
    · rename_i hw; simp only [hw] at hh; exact h _ _ hh

/-- The operation answers v at every world like w0 below B. -/
def FirmZ (P : Program) (ops : Array Oper) (R : World → Prop) (o : Oper) (v : Value) (a : Act) : Prop :=
  (Region.wanted o (yielded ops a.tmps) = true ∧ ∀ w', R w' → Gives P o a w' v) ∨ (Region.wanted o (yielded ops a.tmps) = false ∧ v = undef)

theorem FirmZ.zOp {w : World} {b : Bool} {i : Nat} {o : Oper} {v : Value} {a : Act} (hi : ops[i]? = some o) (hy : FirmZ P ops R o v a) (hw0 : R w) {K : Act → World → Prop} (h : K (a.put o.dst v) w) : zOp P ops R b i K a w := by
  unfold Proofs.Ytcljlglmnagodaa.zOp
  simp only [hi]
  rcases hy with ⟨hw, hv⟩ | ⟨hw, rfl⟩
  · rw [if_pos hw]
    unfold Oper.wp
    rcases hv w hw0 with h1 | ⟨h1, h2⟩ | ⟨f, args, h1, hc⟩
    · rw [h1]; exact ⟨fun _ => hw0, h⟩
    · rw [h1]; subst h2; exact ⟨fun _ => hw0, h⟩
    · rw [h1]
      exact hc.mono fun e w'' ⟨he, hww⟩ => by subst he; subst hww; exact ⟨fun _ => hw0, h⟩
  · simp only [hw, Bool.false_eq_true, if_false]; exact h

theorem FirmZ.of_same {o : Oper} {v : Value} {a a' : Act} (hy : FirmZ P ops R o v a) (he : execOp a'.eval o = execOp a.eval o)
    (hw : Region.wanted o (yielded ops a'.tmps) = Region.wanted o (yielded ops a.tmps)) : FirmZ P ops R o v a' := by
  unfold FirmZ Gives at *
  rw [he, hw]
  exact hy

theorem zOp_put {w : World} {b : Bool} {j : Nat} {oi oj : Oper} {v : Value} (hj : ops[j]? = some oj) (hap : oi.apart ops oj = true)
    (hsi : ∀ cs b, oi.op ≠ .select cs b) (hsj : ∀ cs b, oj.op ≠ .select cs b) {K : Act → World → Prop} {a : Act}
    (hy : FirmZ P ops R oi v a) (h : zOp P ops R b j K (a.put oi.dst v) w) :
    zOp P ops R b j (fun a' w' => FirmZ P ops R oi v a' ∧ K (a'.put oi.dst v) w') a w := by
  obtain ⟨h1, h2, h3⟩ := Oper.apart_spec hap
  have keep : ∀ u, FirmZ P ops R oi v (a.put oj.dst u) := fun u =>
    hy.of_same (execOp_put oi hsi a oj.dst u h3) (wanted_put oi a oj.dst u h3)
  have keepD : ∀ d u, FirmZ P ops R oi v (({ a with defers := d :: a.defers } : Act).put oj.dst u) := fun d u =>
    (show FirmZ P ops R oi v { a with defers := d :: a.defers } from hy).of_same (execOp_put oi hsi _ oj.dst u h3) (wanted_put oi _ oj.dst u h3)
  unfold zOp at *
  simp only [hj] at *
  rw [wanted_put oj a oi.dst v h1] at h
  split
  · rename_i hw
    simp only [hw, if_true] at h
    unfold Oper.wp at *
    rw [execOp_put oj hsj a oi.dst v h1] at h
    generalize (execOp a.eval oj).run P w = r at *
    cases r with
    | ok n w' =>
      cases n <;> simp only [Oper.upon] at h ⊢
      case value u => exact ⟨h.1, keep u, by rw [← Act.put_comm a v u h2]; exact h.2⟩
      case skip => exact ⟨h.1, keep _, by rw [← Act.put_comm a v undef h2]; exact h.2⟩
      case defer d =>
        rw [Act.put_defers, Act.put_comm _ v undef h2] at h
        exact ⟨h.1, keepD d _, h.2⟩
      case enter f args =>
        refine h.mono fun e w'' he => ?_
        cases e with
        | returned u => exact ⟨he.1, keep u, by rw [← Act.put_comm a v u h2]; exact he.2⟩
        | panicked c => exact he
        | outgrown => exact he
      case row r args =>
        exact h.mono fun u w'' he => ⟨he.1, keep u, by rw [← Act.put_comm a v u h2]; exact he.2⟩
    | halt x w' => cases x <;> simp only [Oper.upon] at h ⊢ <;> exact h
  · rename_i hw
    simp only [hw] at h
    exact ⟨keep _, by rw [← Act.put_comm a v undef h2]; exact h⟩

/-- Any order; the operations of fr are free to change what they like. -/
def zAny (P : Program) (md : Region.Mode) (ops : Array Oper) (R : World → Prop) (fr : List Nat) (Q : Act → World → Prop) : Nat → Array Bool → Act → World → Prop
  | 0, listed, a, w => Region.ready md ops listed = [] ∧ Q a w
  | fuel + 1, listed, a, w => (Region.ready md ops listed = [] → Q a w) ∧ ∀ i ∈ Region.ready md ops listed, zOp P ops R (fr.contains i) i (zAny P md ops R fr Q fuel (listed.setIfInBounds i true)) a w

theorem wpAny_of_zAny {fr : List Nat} {Q : Act → World → Prop} {Q' : Exit → Act → World → Prop} (hQ : ∀ a w, Q a w → Q' .normal a w) : ∀ (fuel : Nat) (listed : Array Bool) (a : Act) (w : World),
    zAny P md ops R fr Q fuel listed a w → wpAny P md ops Q' fuel listed a w
  | 0, _, _, _, h => ⟨h.1, hQ _ _ h.2⟩
  | fuel + 1, _, _, _, h => ⟨fun h0 => hQ _ _ (h.1 h0), fun i hi => wpOp_of_zOp (fun a' w' => wpAny_of_zAny hQ fuel _ a' w') (h.2 i hi)⟩

theorem zAny_first {fr : List Nat} (hfr : frees md ops fr = true) {Q : Act → World → Prop} {i : Nat} {oi : Oper} {v : Value} (hi : ops[i]? = some oi) (hsel : ∀ (j : Nat) (o : Oper) cs b, ops[j]? = some o → o.op ≠ .select cs b)
    (hif : fr.contains i = false) :
    ∀ (fuel : Nat) (listed : Array Bool) (a : Act) (w : World),
      (∀ j oj, ops[j]? = some oj → j ≠ i → listed.getD j true = false → (∀ e ∈ oj.after, Region.binds md e = true → e.on ≠ i) → oi.apart ops oj = true) →
      i ∈ Region.ready md ops listed → R w → FirmZ P ops R oi v a →
      zAny P md ops R fr Q fuel (listed.setIfInBounds i true) (a.put oi.dst v) w → zAny P md ops R fr Q (fuel + 1) listed a w := by
  intro fuel
  induction fuel with
  | zero =>
    intro listed a w _ hr hw0 hy H
    refine ⟨fun h => (by rw [h] at hr; cases hr), fun j hj => ?_⟩
    by_cases hji : j = i
    · subst hji; exact hy.zOp hi hw0 H
    · have := ready_mono hj hji
      rw [H.1] at this
      cases this
  | succ fuel ih =>
    intro listed a w hfree hr hw0 hy H
    refine ⟨fun h => (by rw [h] at hr; cases hr), fun j hj => ?_⟩
    by_cases hji : j = i
    · subst hji; exact hy.zOp hi hw0 H
    · have h1 := H.2 j (ready_mono hj hji)
      obtain ⟨hjun, oj, hoj, hall⟩ := mem_ready.1 hj
      have hnot : ∀ e ∈ oj.after, Region.binds md e = true → e.on ≠ i := fun e he hb heq => by
        have h1 := hall e he hb
        have h0 := (mem_ready.1 hr).1
        rw [heq] at h1
        rcases Nat.lt_or_ge i listed.size with h' | h'
        · simp [h'] at h0 h1; rw [h0] at h1; cases h1
        · simp [Array.getElem?_eq_none h'] at h1
      have hjf : fr.contains j = false := by
        rw [Bool.eq_false_iff]
        intro hc
        obtain ⟨e, he, hb, heq⟩ := frees_spec hfr (List.contains_iff_mem.1 hc) (Array.getElem?_eq_some_iff.1 hi).1 hif hoj
        exact hnot e he hb heq
      have hap := hfree j oj hoj hji hjun hnot
      have hfree' : ∀ k ok, ops[k]? = some ok → k ≠ i → (listed.setIfInBounds j true).getD k true = false →
          (∀ e ∈ ok.after, Region.binds md e = true → e.on ≠ i) → oi.apart ops ok = true := fun k ok hk hki hun hno => by
        refine hfree k ok hk hki ?_ hno
        by_cases hjk : j = k
        · subst hjk; exact hjun
        · rw [getD_set_ne true hjk] at hun; exact hun
      have h2 := zOp_put hoj hap (fun cs b => hsel i oi cs b hi) (fun cs b => hsel j oj cs b hoj) hy h1
      refine zOp_mono' hw0 (fun a' w' hb h3 => ih (listed.setIfInBounds j true) a' w' hfree' (ready_mono hr (Ne.symm hji)) (hb hjf) h3.1 ?_) h2
      rw [Array.setIfInBounds_comm _ _ hji]
      exact h3.2

/-- The walk by that plan. -/
def wpZ (P : Program) (ops : Array Oper) (R : World → Prop) (fr : List Nat) (Q : Act → World → Prop) : XP → Act → World → Prop
  | .nil, a, w => Q a w
  | .q k p, a, w => ∃ o, ops[k]? = some o ∧ ∃ v, FirmZ P ops R o v a ∧ wpZ P ops R fr Q p (a.put o.dst v) w
  | .alt k p r, a, w => zOp P ops R (fr.contains k) k (wpZ P ops R fr Q p) a w ∧ wpZ P ops R fr Q r a w
  | .stop, _, _ => True

/-- The world is like w0 below B, or nothing is left that cares. -/
def StillZ (ops : Array Oper) (R : World → Prop) (fr : List Nat) (listed : Array Bool) (w : World) : Prop :=
  R w ∨ ∀ i, i < ops.size → fr.contains i = false → listed.getD i true = true
theorem StillZ.next {fr : List Nat} (hfr : frees md ops fr = true) {listed : Array Bool} {w' : World} {i : Nat} (hr : i ∈ Region.ready md ops listed) (hb : fr.contains i = false → R w') :
    StillZ ops R fr (listed.setIfInBounds i true) w' := by
  by_cases hf : fr.contains i = true
  · right
    intro k hk hkf
    obtain ⟨hun, oi, hoi, hall⟩ := mem_ready.1 hr
    obtain ⟨e, he, hb, rfl⟩ := frees_spec hfr (List.contains_iff_mem.1 hf) hk hkf hoi
    have h1 := hall e he hb
    rcases Nat.lt_or_ge e.on listed.size with h' | h'
    · by_cases hei : i = e.on
      · subst hei; simp [h']
      · rw [getD_set_ne true hei]; simp [h'] at h1 ⊢; exact h1
    · simp [Array.getElem?_eq_none h'] at h1
  · exact .inl (hb (by simpa using hf))

theorem alts_of_wpZ {fr : List Nat} (hfr : frees md ops fr = true) {Q : Act → World → Prop} (n : Nat) (H : ∀ (p : XP) (listed : Array Bool) (a : Act) (w : World), StillZ ops R fr listed w → eagerY md ops fr p true listed = true → p.even n = true → wpZ P ops R fr Q p a w → zAny P md ops R fr Q n listed a w) :
    ∀ (r : XP) (top : Bool) (listed : Array Bool) (a : Act) (w : World), StillZ ops R fr listed w → eagerY md ops fr r top listed = true → r.even (n + 1) = true → wpZ P ops R fr Q r a w → ∀ i ∈ r.keys, i ∈ Region.ready md ops listed → zOp P ops R (fr.contains i) i (zAny P md ops R fr Q n (listed.setIfInBounds i true)) a w
  | .nil, _, _, _, _, _, _, _, _, _, hi, _ => by cases hi
  | .q _ _, _, _, _, _, _, _, _, _, _, hi, _ => by cases hi
  | .stop, _, _, _, _, _, _, _, _, _, hi, _ => by cases hi
  | .alt k p r, top, listed, a, w, hS, hB, hE, h, i, hi, hr => by
    simp only [eagerY, Bool.and_eq_true] at hB
    simp only [XP.even, Bool.and_eq_true] at hE
    simp only [XP.keys, List.mem_cons] at hi
    rcases hi with rfl | hi
    · have hh := h.1
      unfold zOp at hh ⊢
      split
      · rename_i ho; simp only [ho] at hh
        obtain ⟨-, oi, hoi, -⟩ := mem_ready.1 hr
        rw [hoi] at ho; cases ho
      · rename_i o ho
        simp only [ho] at hh
        split
        · rename_i hw; simp only [hw, if_true] at hh; exact wp_weaken (fun a' w' hk => ⟨hk.1, H p _ a' w' (StillZ.next hfr hr hk.1) hB.1.2 hE.1 hk.2⟩) (fun _ _ _ h => h) hh
        · rename_i hw; simp only [hw] at hh
          refine H p _ _ _ ?_ hB.1.2 hE.1 hh
          rcases hS with h | h
          · exact .inl h
          · refine .inr fun k hk hkf => ?_
            have := h k hk hkf
            by_cases hik : i = k
            · subst hik
              rcases Nat.lt_or_ge i listed.size with h' | h'
              · simp [h']
              · simp
            · rw [getD_set_ne true hik]; exact this
    · exact alts_of_wpZ hfr n H r false listed a w hS hB.2 hE.2 h.2 i hi hr

theorem zAny_of_wpZ {fr : List Nat} (hfr : frees md ops fr = true) {Q : Act → World → Prop} (hs : Region.noSelect ops = true) : ∀ (n : Nat) (p : XP) (listed : Array Bool) (a : Act) (w : World), StillZ ops R fr listed w →
    eagerY md ops fr p true listed = true → p.even n = true → wpZ P ops R fr Q p a w → zAny P md ops R fr Q n listed a w
  | 0, .nil, _, _, _, _, hB, _, h => ⟨by simpa [eagerY] using hB, h⟩
  | 0, .q _ _, _, _, _, _, _, hE, _ => by simp [XP.even] at hE
  | 0, .alt _ _ _, _, _, _, _, _, hE, _ => by simp [XP.even] at hE
  | _, .stop, _, _, _, _, hB, _, _ => by simp [eagerY] at hB
  | n + 1, .nil, _, _, _, _, _, hE, _ => by simp [XP.even] at hE
  | n + 1, .alt k p r, listed, a, w, hS, hB, hE, h => by
    have hB' := hB
    simp only [eagerY, Bool.and_eq_true, Bool.not_true, Bool.false_or, beq_iff_eq] at hB'
    refine ⟨fun h0 => (by rw [h0] at hB'; cases hB'.1.1), fun i hi => ?_⟩
    have hi' := hi
    rw [hB'.1.1] at hi
    exact alts_of_wpZ hfr n (fun p listed a w => zAny_of_wpZ hfr hs n p listed a w) (.alt k p r) true listed a w hS hB hE h i hi hi'
  | n + 1, .q k p, listed, a, w, hS, hB, hE, h => by
    simp only [eagerY, Bool.and_eq_true, Bool.not_eq_true', Bool.true_and] at hB
    obtain ⟨⟨⟨hr, hf⟩, hfk⟩, hB'⟩ := hB
    obtain ⟨o, ho, v, hy, hK⟩ := h
    have hr' : k ∈ Region.ready md ops listed := by simpa using hr
    have hw0 : R w := by
      rcases hS with h | h
      · exact h
      · have h1 := h k (Array.getElem?_eq_some_iff.1 ho).1 hfk
        rw [(mem_ready.1 hr').1] at h1
        cases h1
    exact zAny_first hfr ho (Region.noSelect_spec hs) hfk n listed a w (Region.free_spec ho hf) hr' hw0 hy (zAny_of_wpZ hfr hs n p _ _ _ (.inl hw0) hB' (by simpa [XP.even] using hE) hK)

theorem wp_region_z {id : Nat} {Q : Exit → Act → World → Prop} {a : Act} {w : World} {ol : List Oper} (R : World → Prop) (hR : R w.drew) (fr : List Nat) (p : XP) (hm : P.follows .mixedOrders = true) (hB : eagerYB ol.toArray fr p = true)
    (h : wpZ P ol.toArray R fr (fun a' w' => Q .normal a' w') p a w.drew) : (Code.region id ol.toArray true).wp P Q a w := by
  simp only [eagerYB, Bool.and_eq_true] at hB
  obtain ⟨⟨⟨hs, he⟩, hfr⟩, hB⟩ := hB
  exact wp_region_any hm (wpAny_of_zAny (fr := fr) (Q := fun a' w' => Q .normal a' w') (fun _ _ h => h) _ _ _ _ (zAny_of_wpZ hfr hs _ p _ a _ (.inl hR) hB he h))

/-! ### The steps -/
variable {fr : List Nat}
theorem wpZ_mono {Q Q' : Act → World → Prop} (hQ : ∀ a w, Q a w → Q' a w) : ∀ (p : XP) (a : Act) (w : World), wpZ P ops R fr Q p a w → wpZ P ops R fr Q' p a w
  | .nil, _, _, h => hQ _ _ h
  | .q _ p, _, _, ⟨o, ho, v, hy, h⟩ => ⟨o, ho, v, hy, wpZ_mono hQ p _ _ h⟩
  | .alt _ p r, _, _, h => ⟨zOp_mono (fun a w h => wpZ_mono hQ p a w h) h.1, wpZ_mono hQ r _ _ h.2⟩
  | .stop, _, _, _ => trivial
/-- The ways meet: what holds behind the region. -/
theorem wpZ_mid {Q : Act → World → Prop} {p : XP} {a : Act} {w : World} (M : Act → World → Prop) (h : wpZ P ops R fr M p a w) (hQ : ∀ a w, M a w → Q a w) : wpZ P ops R fr Q p a w := wpZ_mono hQ p a w h

theorem wpZ_midA {Q : Act → World → Prop} {p : XP} {a : Act} {w : World} (M : Act → Act → World → Prop) (h : wpZ P ops R fr (M a) p a w) (hQ : ∀ a' w', M a a' w' → Q a' w') : wpZ P ops R fr Q p a w := wpZ_mono hQ p a w h

theorem wpZ_nil {Q : Act → World → Prop} {a : Act} {w : World} (h : Q a w) : wpZ P ops R fr Q .nil a w := h
theorem wpZ_stop {Q : Act → World → Prop} {a : Act} {w : World} : wpZ P ops R fr Q .stop a w := trivial
/-- A quiet operation that is not wanted. -/
theorem wpZ_skip {Q : Act → World → Prop} {k : Nat} {p : XP} {a : Act} {w : World} {o : Oper} (ho : ops[k]? = some o) (hw : Region.wanted o (yielded ops a.tmps) = false)
    (h : wpZ P ops R fr Q p (a.put o.dst undef) w) : wpZ P ops R fr Q (.q k p) a w := ⟨o, ho, undef, .inr ⟨hw, rfl⟩, h⟩
/-- A firm operation: what it answers at every later world. -/
theorem wpZ_q {Q : Act → World → Prop} {k : Nat} {p : XP} {a : Act} {w : World} {o : Oper} (ho : ops[k]? = some o) (hw : Region.wanted o (yielded ops a.tmps) = true) (v : Value)
    (hv : ∀ w', R w' → (execOp a.eval o).run P w' = .ok (.value v) w') (h : wpZ P ops R fr Q p (a.put o.dst v) w) : wpZ P ops R fr Q (.q k p) a w := ⟨o, ho, v, .inl ⟨hw, fun w' hx => .inl (hv w' hx)⟩, h⟩
/-- A call that leaves the world alone. -/
theorem wpZ_call {Q : Act → World → Prop} {k : Nat} {p : XP} {a : Act} {w : World} {o : Oper} (ho : ops[k]? = some o) (hw : Region.wanted o (yielded ops a.tmps) = true) (v : Value) (f : FuncId) (args : Array Value)
    (hv : ∀ w', (execOp a.eval o).run P w' = .ok (.enter f args) w') (hc : ∀ w', R w' → Calls P f args w' (Ret v w')) (h : wpZ P ops R fr Q p (a.put o.dst v) w) : wpZ P ops R fr Q (.q k p) a w :=
  ⟨o, ho, v, .inl ⟨hw, fun w' hx => .inr (.inr ⟨f, args, hv w', hc w' hx⟩)⟩, h⟩
theorem zOp_l {Q : Act → World → Prop} {b : Bool} {k : Nat} {a : Act} {w : World} {o : Oper} (ho : ops[k]? = some o) (hw : Region.wanted o (yielded ops a.tmps) = true)
    (h : o.wp P a w (fun a' w' => (b = false → R w') ∧ Q a' w') (fun _ _ _ => False)) : zOp P ops R b k Q a w := by
  unfold zOp
  simp only [ho, hw, if_true]
  exact h
theorem zOp_skip {Q : Act → World → Prop} {b : Bool} {k : Nat} {a : Act} {w : World} {o : Oper} (ho : ops[k]? = some o) (hw : Region.wanted o (yielded ops a.tmps) = false) (h : Q (a.put o.dst undef) w) : zOp P ops R b k Q a w := by
  unfold zOp
  simp only [ho, hw, Bool.false_eq_true, if_false]
  exact h
/-- The one loud operation. -/
theorem wpZ_l {Q : Act → World → Prop} {k : Nat} {p : XP} {a : Act} {w : World} {o : Oper} (ho : ops[k]? = some o) (hw : Region.wanted o (yielded ops a.tmps) = true)
    (h : o.wp P a w (fun a' w' => (fr.contains k = false → R w') ∧ wpZ P ops R fr Q p a' w') (fun _ _ _ => False)) : wpZ P ops R fr Q (.l k p) a w := ⟨zOp_l ho hw h, trivial⟩
theorem wpZ_lskip {Q : Act → World → Prop} {k : Nat} {p : XP} {a : Act} {w : World} {o : Oper} (ho : ops[k]? = some o) (hw : Region.wanted o (yielded ops a.tmps) = false)
    (h : wpZ P ops R fr Q p (a.put o.dst undef) w) : wpZ P ops R fr Q (.l k p) a w := ⟨zOp_skip ho hw h, trivial⟩
/-- One of several loud operations. -/
theorem wpZ_alt {Q : Act → World → Prop} {k : Nat} {p r : XP} {a : Act} {w : World} {o : Oper} (ho : ops[k]? = some o) (hw : Region.wanted o (yielded ops a.tmps) = true)
    (h : o.wp P a w (fun a' w' => (fr.contains k = false → R w') ∧ wpZ P ops R fr Q p a' w') (fun _ _ _ => False)) (hr : wpZ P ops R fr Q r a w) : wpZ P ops R fr Q (.alt k p r) a w := ⟨zOp_l ho hw h, hr⟩

/-- &x[i] in a region: the cells of the element lie there. -/
theorem wpZ_ix {Q : Act → World → Prop} {k : Nat} {l : XP} {a : Act} {w : World} {o : Oper} (ho : ops[k]? = some o) (hw : Region.wanted o (yielded ops a.tmps) = true) (xO iO : Operand) {t : TypeId}
    (hop : o.op = .indexAddr t xO iO) {e s b : Nat} {z : Value} (E : Elem P t e s b z) {p : Option Addr} {n c : Nat} {xs : List Value} (hx : a.eval xO = .slice p n c) (hr : ∀ w', R w' → Row w' p n c s xs) {u : World} (hu : R u)
    (i : Nat) {kd : IntKind} {I : Int} (hi : a.eval iO = .int kd I) (hI : I = (i : Int)) (hin : i < n)
    (h : ∀ b' o', (∀ j, j < s → ∀ w', R w' → w'.cell? ⟨b', o' + j, none⟩ = xs[i * s + j]?) → wpZ P ops R fr Q l (a.put o.dst (.pointer (some ⟨b', o', none⟩))) w) : wpZ P ops R fr Q (.q k l) a w := by
  have hr0 := hr u hu
  obtain ⟨b', o', rfl⟩ : ∃ b' o', p = some ⟨b', o', none⟩ := by
    cases p with
    | none => exact absurd (hr0.nil rfl) (by have := hr0.le; omega)
    | some q =>
      rcases hr0.at_ q rfl with h0 | ⟨b', o', rfl⟩
      · have := hr0.le; omega
      · exact ⟨b', o', rfl⟩
  refine wpZ_q ho hw (.pointer (some ⟨b', o' + i * s, none⟩)) (fun w' hx' => ?_) (h b' (o' + i * s) ?_)
  · subst hI
    have hrun := run_indexAt_slice (P := P) (w := w') t ⟨b', o', none⟩ n c kd (i : Int) E.und'
    rw [if_pos (by omega), E.size] at hrun
    simp only [Result.andThen, Int.toNat_natCast, Addr.add_lit] at hrun
    simp [execOp, hop, hx, hi, hrun, Result.andThen]
  · intro j hj w' hx'
    have hlt : i * s + j < xs.length := by
      rw [hr0.len]
      have h1 : (i + 1) * s ≤ n * s := Nat.mul_le_mul_right s hin
      rw [Nat.add_mul, Nat.one_mul] at h1
      omega
    have := (hr w' hx').cell _ rfl (i * s + j) _ (List.getElem?_eq_getElem hlt)
    rw [Addr.add_lit, ← Nat.add_assoc] at this
    rw [this, List.getElem?_eq_getElem hlt]
/-- &x[i], the address alone: it is the same in every world. -/
theorem wpZ_ixp {Q : Act → World → Prop} {k : Nat} {l : XP} {a : Act} {w : World} {o : Oper} (ho : ops[k]? = some o) (hw : Region.wanted o (yielded ops a.tmps) = true) (xO iO : Operand) {t : TypeId}
    (hop : o.op = .indexAddr t xO iO) {e s b : Nat} {z : Value} (E : Elem P t e s b z) {g n c : Nat} (hx : a.eval xO = .slice (some ⟨g, 0, none⟩) n c)
    (i : Nat) {kd : IntKind} {I : Int} (hi : a.eval iO = .int kd I) (hI : I = (i : Int)) (hin : i < n)
    (h : wpZ P ops R fr Q l (a.put o.dst (.pointer (some ⟨g, i * s, none⟩))) w) : wpZ P ops R fr Q (.q k l) a w := by
  refine wpZ_q ho hw (.pointer (some ⟨g, i * s, none⟩)) (fun w' hx' => ?_) h
  subst hI
  have hrun := run_indexAt_slice (P := P) (w := w') t ⟨g, 0, none⟩ n c kd (i : Int) E.und'
  rw [if_pos (by omega), E.size] at hrun
  simp only [Result.andThen, Int.toNat_natCast, Addr.add_lit, Nat.zero_add] at hrun
  simp [execOp, hop, hx, hi, hrun, Result.andThen]
/-- A load of a struct. -/
theorem wpZ_ld {Q : Act → World → Prop} {k : Nat} {l : XP} {a : Act} {w : World} {o : Oper} (ho : ops[k]? = some o) (hw : Region.wanted o (yielded ops a.tmps) = true) (xO : Operand) {ty : TypeId}
    (hop : o.op = .load ty xO) (b o' : Nat) (hx : a.eval xO = .pointer (some ⟨b, o', none⟩)) (cs : List Value) (d : TypeDesc) (hc : ∀ w', R w' → w'.rangeAt b o' cs)
    (hu : P.underlying ty = some d) (hd : d.isRow = true) (hi : (P.info? ty).map (·.size) = some cs.length)
    (h : wpZ P ops R fr Q l (a.put o.dst (.agg cs.toArray)) w) : wpZ P ops R fr Q (.q k l) a w :=
  wpZ_q ho hw (.agg cs.toArray) (fun w' hx' => by
    unfold execOp
    simp only [hop, hx, Instr.loadAt, Instr.sureAddr, Sem.run_bind, Sem.run_pure, Result.andThen_ok, run_loadVar_mid w' b o' ty cs d (hc w' hx') hu hd hi]) h

/-- x[l:l+m], x[l:], x[:h] in a region. -/
theorem wpZ_sl {Q : Act → World → Prop} {k : Nat} {L : XP} {f : Act} {w : World} {o : Oper} (ho : ops[k]? = some o) (hw : Region.wanted o (yielded ops f.tmps) = true) (xO lO hO : Operand) {t : TypeId}
    (hop : o.op = .slice t xO (some lO) (some hO) none) {e s b : Nat} {z : Value} (E : Elem P t e s b z) {a : Option Addr} {n c : Nat} {xs : List Value} (hx : f.eval xO = .slice a n c) (hr : ∀ w', R w' → Row w' a n c s xs) {u : World} (hu : R u)
    (l m : Nat) {kl kh : IntKind} {I H : Int} (hl : f.eval lO = .int kl I) (hh : f.eval hO = .int kh H) (hL : I = (l : Int)) (hH : H = (l : Int) + (m : Int)) (hhn : l + m ≤ n)
    (h : ∀ a', (∀ w', R w' → Row w' a' m (c - l) s ((xs.drop (l * s)).take (m * s))) → wpZ P ops R fr Q L (f.put o.dst (.slice a' m (c - l))) w) : wpZ P ops R fr Q (.q k L) f w := by
  have hH' : H = ((l + m : Nat) : Int) := by omega
  subst hL hH'
  have hle := (hr u hu).le
  refine wpZ_q ho hw (.slice (subA a l c s) m (c - l)) (fun w' _ => ?_) (h _ fun w' hw' => ?_)
  · have e := run_sl (w := w') E a n c kl kh l (l + m) (by omega) (by omega)
    rw [show l + m - l = m by omega] at e
    simp only [execOp, hop, hx, hl, hh, Instr.sliceAt, Option.map_some, Option.map_none, Sem.run_bind, run_underlying E.und, Result.andThen_ok, e, Sem.run_pure]
  · have hs := (hr w' hw').sub l (l + m) (by omega) hhn
    rwa [show l + m - l = m by omega] at hs
theorem wpZ_sl_lo {Q : Act → World → Prop} {k : Nat} {L : XP} {f : Act} {w : World} {o : Oper} (ho : ops[k]? = some o) (hw : Region.wanted o (yielded ops f.tmps) = true) (xO lO : Operand) {t : TypeId}
    (hop : o.op = .slice t xO (some lO) none none) {e s b : Nat} {z : Value} (E : Elem P t e s b z) {a : Option Addr} {n c : Nat} {xs : List Value} (hx : f.eval xO = .slice a n c) (hr : ∀ w', R w' → Row w' a n c s xs)
    (l : Nat) {kl : IntKind} {I : Int} (hl : f.eval lO = .int kl I) (hL : I = (l : Int)) (hlh : l ≤ n)
    (h : ∀ a', (∀ w', R w' → Row w' a' (n - l) (c - l) s (xs.drop (l * s))) → wpZ P ops R fr Q L (f.put o.dst (.slice a' (n - l) (c - l))) w) : wpZ P ops R fr Q (.q k L) f w := by
  subst hL
  refine wpZ_q ho hw (.slice (subA a l c s) (n - l) (c - l)) (fun w' _ => ?_) (h _ fun w' hw' => ?_)
  · simp [execOp, hop, hx, hl, Instr.sliceAt, run_underlying E.und, run_sl_lo E a n c kl l hlh, Result.andThen]
  · have h := (hr w' hw').sub l n hlh (Nat.le_refl _)
    rwa [List.take_of_length_le (by rw [List.length_drop, (hr w' hw').len, Nat.sub_mul]; omega)] at h
theorem wpZ_sl_hi {Q : Act → World → Prop} {k : Nat} {L : XP} {f : Act} {w : World} {o : Oper} (ho : ops[k]? = some o) (hw : Region.wanted o (yielded ops f.tmps) = true) (xO hO : Operand) {t : TypeId}
    (hop : o.op = .slice t xO none (some hO) none) {e s b : Nat} {z : Value} (E : Elem P t e s b z) {a : Option Addr} {n c : Nat} {xs : List Value} (hx : f.eval xO = .slice a n c) (hr : ∀ w', R w' → Row w' a n c s xs) {u : World} (hu : R u)
    (h : Nat) {kh : IntKind} {H : Int} (hh : f.eval hO = .int kh H) (hH : H = (h : Int)) (hhn : h ≤ n)
    (hk : ∀ a', (∀ w', R w' → Row w' a' h c s (xs.take (h * s))) → wpZ P ops R fr Q L (f.put o.dst (.slice a' h c)) w) : wpZ P ops R fr Q (.q k L) f w := by
  subst hH
  have hle := (hr u hu).le
  refine wpZ_q ho hw (.slice (subA a 0 c s) h c) (fun w' _ => ?_) (hk _ fun w' hw' => ?_)
  · simp [execOp, hop, hx, hh, Instr.sliceAt, run_underlying E.und, run_sl_hi E a n c kh h (by omega), Result.andThen]
  · have h := (hr w' hw').sub 0 h (Nat.zero_le _) hhn
    simpa using h

end
end Go.Proofs.Ytcljlglmnagodaa
