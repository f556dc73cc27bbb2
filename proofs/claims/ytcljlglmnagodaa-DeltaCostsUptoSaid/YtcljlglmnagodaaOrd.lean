/-
  A region that draws its order, walked in one order: operations that answer alike in every later world ('firm') are taken as soon as they are ready; an operation that changes the world is taken when it alone is ready.
-/
import Derived.Test.YtcljlglmnagodaaBase
import Derived.Still
import Derived.StillTail
namespace Go.Proofs.Ytcljlglmnagodaa
open Go.RowKit

section
variable {P : Program} {ops : Array Oper} {md : Region.Mode}

/-- One operation, which leaves all old blocks as they are. -/
def xOp (P : Program) (ops : Array Oper) (i : Nat) (K : Act → World → Prop) (a : Act) (w : World) : Prop :=
  match ops[i]? with
  | none => K a w
  | some o => if Region.wanted o (yielded ops a.tmps) then o.wp P a w (fun a' w' => Ext w w' ∧ K a' w') (fun _ _ _ => False) else K (a.put o.dst undef) w

theorem wp_weaken {o : Oper} {a : Act} {w : World} {K K' : Act → World → Prop} {Q Q' : Exit → Act → World → Prop} (h : ∀ a w, K a w → K' a w) (hq : ∀ e a w, Q e a w → Q' e a w)
    (hh : o.wp P a w K Q) : o.wp P a w K' Q' := by
  unfold Oper.wp at *
  generalize (execOp a.eval o).run P w = r at *
  cases r with
  | ok n w' =>
    cases n <;> simp only [Oper.upon] at hh ⊢ <;>
      first
        | exact h _ _ hh
        | exact Calls.mono hh (fun e w'' he => by
            cases e <;> first | exact h _ _ he | exact hq _ _ _ he | (obtain ⟨a0, w0, h0⟩ := he; exact ⟨a0, w0, hq _ _ _ h0⟩))
        | exact Rows.mono hh (fun _ _ he => h _ _ he)
  | halt x w' => cases x <;> simp only [Oper.upon] at hh ⊢ <;> first | exact hq _ _ _ hh | exact hh

theorem xOp_mono {i : Nat} {a : Act} {w : World} {K K' : Act → World → Prop} (h : ∀ a w, K a w → K' a w) (hh : xOp P ops i K a w) : xOp P ops i K' a w := by
  unfold xOp at *
  split
  · rename_i ho; simp only [ho] at hh; exact h _ _ hh
  · rename_i o ho
    simp only [ho] at hh
    split
    · rename_i hw; simp only [hw, if_true] at hh; exact wp_weaken (fun a w hk => ⟨hk.1, h _ _ hk.2⟩) (fun _ _ _ h => h) hh
    · rename_i hw; simp only [hw] at hh; exact h _ _ hh

theorem wpOp_of_xOp {i : Nat} {a : Act} {w : World} {K K' : Act → World → Prop} {Q : Exit → Act → World → Prop} (h : ∀ a w, K a w → K' a w) (hh : xOp P ops i K a w) : wpOp P ops Q i K' a w := by
  unfold xOp at hh
  unfold wpOp
  split
  · rename_i ho; simp only [ho] at hh; exact h _ _ hh
  · rename_i o ho
    simp only [ho] at hh
    split
    · rename_i hw; simp only [hw, if_true] at hh; exact .inl (wp_weaken (fun a w hk => h _ _ hk.2) (fun _ _ _ h => h.elim) hh)
    · rename_i hw; simp only [hw] at hh; exact h _ _ hh

/-- Any order. -/
def xAny (P : Program) (md : Region.Mode) (ops : Array Oper) (Q : Act → World → Prop) : Nat → Array Bool → Act → World → Prop
  | 0, listed, a, w => Region.ready md ops listed = [] ∧ Q a w
  | fuel + 1, listed, a, w => (Region.ready md ops listed = [] → Q a w) ∧ ∀ i ∈ Region.ready md ops listed, xOp P ops i (xAny P md ops Q fuel (listed.setIfInBounds i true)) a w

theorem wpAny_of_xAny {Q : Act → World → Prop} {Q' : Exit → Act → World → Prop} (hQ : ∀ a w, Q a w → Q' .normal a w) : ∀ (fuel : Nat) (listed : Array Bool) (a : Act) (w : World),
    xAny P md ops Q fuel listed a w → wpAny P md ops Q' fuel listed a w
  | 0, _, _, _, h => ⟨h.1, hQ _ _ h.2⟩
  | fuel + 1, _, _, _, h => ⟨fun h0 => hQ _ _ (h.1 h0), fun i hi => wpOp_of_xOp (fun a' w' => wpAny_of_xAny hQ fuel _ a' w') (h.2 i hi)⟩

/-- The operation answers v in the world w', and leaves it alone. -/
def Gives (P : Program) (o : Oper) (a : Act) (w' : World) (v : Value) : Prop :=
  (execOp a.eval o).run P w' = .ok (.value v) w' ∨ ((execOp a.eval o).run P w' = .ok .skip w' ∧ v = undef) ∨
    ∃ f args, (execOp a.eval o).run P w' = .ok (.enter f args) w' ∧ Calls P f args w' (fun e w'' => e = .returned v ∧ w' = w'')

def Firm (P : Program) (ops : Array Oper) (w : World) (o : Oper) (v : Value) (a : Act) : Prop :=
  (Region.wanted o (yielded ops a.tmps) = true ∧ ∀ w', Ext w w' → Gives P o a w' v) ∨ (Region.wanted o (yielded ops a.tmps) = false ∧ v = undef)

theorem Firm.xOp {w : World} {i : Nat} {o : Oper} {v : Value} {a : Act} (hi : ops[i]? = some o) (hy : Firm P ops w o v a) {K : Act → World → Prop} (h : K (a.put o.dst v) w) : xOp P ops i K a w := by
  unfold Proofs.Ytcljlglmnagodaa.xOp
  simp only [hi]
  rcases hy with ⟨hw, hv⟩ | ⟨hw, rfl⟩
  · have hx : Ext w w := Below.refl _ _
    rw [if_pos hw]
    unfold Oper.wp
    rcases hv w hx with h1 | ⟨h1, h2⟩ | ⟨f, args, h1, hc⟩
    · rw [h1]; exact ⟨hx, h⟩
    · rw [h1]; subst h2; exact ⟨hx, h⟩
    · rw [h1]
      exact hc.mono fun e w'' ⟨he, hww⟩ => by subst he; subst hww; exact ⟨hx, h⟩
  · simp only [hw, Bool.false_eq_true, if_false]; exact h

theorem Firm.of_same {w w' : World} {o : Oper} {v : Value} {a a' : Act} (hy : Firm P ops w o v a) (he : execOp a'.eval o = execOp a.eval o)
    (hw : Region.wanted o (yielded ops a'.tmps) = Region.wanted o (yielded ops a.tmps)) (hx : Ext w w') : Firm P ops w' o v a' := by
  unfold Firm Gives at *
  rw [he, hw]
  rcases hy with ⟨h1, h2⟩ | h
  · exact .inl ⟨h1, fun w'' hx' => h2 w'' (hx.trans' hx')⟩
  · exact .inr h

theorem xOp_put {w : World} {j : Nat} {oi oj : Oper} {v : Value} (hj : ops[j]? = some oj) (hap : oi.apart ops oj = true)
    (hsi : ∀ cs b, oi.op ≠ .select cs b) (hsj : ∀ cs b, oj.op ≠ .select cs b) {K : Act → World → Prop} {a : Act}
    (hy : Firm P ops w oi v a) (h : xOp P ops j K (a.put oi.dst v) w) :
    xOp P ops j (fun a' w' => Firm P ops w' oi v a' ∧ K (a'.put oi.dst v) w') a w := by
  obtain ⟨h1, h2, h3⟩ := Oper.apart_spec hap
  have keep : ∀ (w' : World), Ext w w' → ∀ u, Firm P ops w' oi v (a.put oj.dst u) := fun w' hx u =>
    hy.of_same (execOp_put oi hsi a oj.dst u h3) (wanted_put oi a oj.dst u h3) hx
  have keepD : ∀ (w' : World), Ext w w' → ∀ d u, Firm P ops w' oi v (({ a with defers := d :: a.defers } : Act).put oj.dst u) := fun w' hx d u =>
    (show Firm P ops w oi v { a with defers := d :: a.defers } from hy).of_same (execOp_put oi hsi _ oj.dst u h3) (wanted_put oi _ oj.dst u h3) hx
  unfold xOp at *
  simp only [hj] at *
  rw [wanted_put oj a oi.dst v h1] at h
  split
  · rename_i hw
    simp only [hw, if_true] at h
    unfold Oper.wp at *
    rw [execOp_put oj hsj a oi.dst v h1] at h
    generalize (execOp a.eval oj).run P w = r at *
    cases r with
    | ok n w' =>
      cases n <;> simp only [Oper.upon] at h ⊢
      case value u => exact ⟨h.1, keep w' h.1 u, by rw [← Act.put_comm a v u h2]; exact h.2⟩
      case skip => exact ⟨h.1, keep w' h.1 _, by rw [← Act.put_comm a v undef h2]; exact h.2⟩
      case defer d =>
        rw [Act.put_defers, Act.put_comm _ v undef h2] at h
        exact ⟨h.1, keepD w' h.1 d _, h.2⟩
      case enter f args =>
        refine h.mono fun e w'' he => ?_
        cases e with
        | returned u => exact ⟨he.1, keep w'' he.1 u, by rw [← Act.put_comm a v u h2]; exact he.2⟩
        | panicked c => exact he
        | outgrown => exact he
      case row r args =>
        exact h.mono fun u w'' he => ⟨he.1, keep w'' he.1 u, by rw [← Act.put_comm a v u h2]; exact he.2⟩
    | halt x w' => cases x <;> simp only [Oper.upon] at h ⊢ <;> exact h
  · rename_i hw
    simp only [hw] at h
    exact ⟨keep w (Below.refl _ _) _, by rw [← Act.put_comm a v undef h2]; exact h⟩

theorem xAny_first {Q : Act → World → Prop} {i : Nat} {oi : Oper} {v : Value} (hi : ops[i]? = some oi) (hsel : ∀ (j : Nat) (o : Oper) cs b, ops[j]? = some o → o.op ≠ .select cs b) :
    ∀ (fuel : Nat) (listed : Array Bool) (a : Act) (w : World),
      (∀ j oj, ops[j]? = some oj → j ≠ i → listed.getD j true = false → (∀ e ∈ oj.after, Region.binds md e = true → e.on ≠ i) → oi.apart ops oj = true) →
      i ∈ Region.ready md ops listed → Firm P ops w oi v a →
      xAny P md ops Q fuel (listed.setIfInBounds i true) (a.put oi.dst v) w → xAny P md ops Q (fuel + 1) listed a w := by
  intro fuel
  induction fuel with
  | zero =>
    intro listed a w _ hr hy H
    refine ⟨fun h => (by rw [h] at hr; cases hr), fun j hj => ?_⟩
    by_cases hji : j = i
    · subst hji; exact hy.xOp hi H
    · have := ready_mono hj hji
      rw [H.1] at this
      cases this
  | succ fuel ih =>
    intro listed a w hfree hr hy H
    refine ⟨fun h => (by rw [h] at hr; cases hr), fun j hj => ?_⟩
    by_cases hji : j = i
    · subst hji; exact hy.xOp hi H
    · have h1 := H.2 j (ready_mono hj hji)
      obtain ⟨hjun, oj, hoj, hall⟩ := mem_ready.1 hj
      have hnot : ∀ e ∈ oj.after, Region.binds md e = true → e.on ≠ i := fun e he hb heq => by
        have h1 := hall e he hb
        have h0 := (mem_ready.1 hr).1
        rw [heq] at h1
        rcases Nat.lt_or_ge i listed.size with h' | h'
        · simp [h'] at h0 h1; rw [h0] at h1; cases h1
        · simp [Array.getElem?_eq_none h'] at h1
      have h2 := xOp_put hoj (hfree j oj hoj hji hjun hnot) (fun cs b => hsel i oi cs b hi) (fun cs b => hsel j oj cs b hoj) hy h1
      have hfree' : ∀ k ok, ops[k]? = some ok → k ≠ i → (listed.setIfInBounds j true).getD k true = false →
          (∀ e ∈ ok.after, Region.binds md e = true → e.on ≠ i) → oi.apart ops ok = true := fun k ok hk hki hun hno => by
        refine hfree k ok hk hki ?_ hno
        by_cases hjk : j = k
        · subst hjk; exact hjun
        · rw [getD_set_ne true hjk] at hun; exact hun
      refine xOp_mono (fun a' w' h3 => ih (listed.setIfInBounds j true) a' w' hfree' (ready_mono hr (Ne.symm hji)) h3.1 ?_) h2
      rw [Array.setIfInBounds_comm _ _ hji]
      exact h3.2

/-- The order 'l' of the walk; the operations marked true change the world. -/
def eager (md : Region.Mode) (ops : Array Oper) : List (Nat × Bool) → Array Bool → Bool
  | [], listed => (Region.ready md ops listed).isEmpty
  | (k, true) :: l, listed => (Region.ready md ops listed == [k]) && eager md ops l (listed.setIfInBounds k true)
  | (k, false) :: l, listed => (Region.ready md ops listed).contains k && Region.free md ops listed k && eager md ops l (listed.setIfInBounds k true)

/-- The walk in that order. -/
def wpX (P : Program) (ops : Array Oper) (Q : Act → World → Prop) : List (Nat × Bool) → Act → World → Prop
  | [], a, w => Q a w
  | (k, true) :: l, a, w => xOp P ops k (wpX P ops Q l) a w
  | (k, false) :: l, a, w => ∃ o, ops[k]? = some o ∧ ∃ v, Firm P ops w o v a ∧ wpX P ops Q l (a.put o.dst v) w

theorem xAny_of_wpX {Q : Act → World → Prop} (hs : Region.noSelect ops = true) : ∀ (l : List (Nat × Bool)) (listed : Array Bool) (a : Act) (w : World),
    eager md ops l listed = true → wpX P ops Q l a w → xAny P md ops Q l.length listed a w
  | [], _, _, _, hB, h => ⟨by simpa [eager] using hB, h⟩
  | (k, true) :: l, listed, a, w, hB, h => by
    simp only [eager, Bool.and_eq_true, beq_iff_eq] at hB
    refine ⟨fun h0 => (by rw [h0] at hB; cases hB.1), fun i hi => ?_⟩
    rw [hB.1] at hi
    obtain rfl : i = k := by simpa using hi
    exact xOp_mono (fun a' w' h' => xAny_of_wpX hs l _ a' w' hB.2 h') h
  | (k, false) :: l, listed, a, w, hB, h => by
    simp only [eager, Bool.and_eq_true] at hB
    obtain ⟨⟨hr, hf⟩, hB'⟩ := hB
    obtain ⟨o, ho, v, hy, hK⟩ := h
    exact xAny_first ho (Region.noSelect_spec hs) l.length listed a w (Region.free_spec ho hf) (by simpa using hr) hy (xAny_of_wpX hs l _ _ _ hB' hK)

/-- The check of an order, closed: by kernel_rfl. -/
def eagerB (ops : Array Oper) (l : List (Nat × Bool)) : Bool := Region.noSelect ops && (l.length == ops.size) && eager .any ops l (Array.replicate ops.size false)

theorem wp_region_x {id : Nat} {Q : Exit → Act → World → Prop} {a : Act} {w : World} {ol : List Oper} (l : List (Nat × Bool)) (hm : P.follows .mixedOrders = true) (hB : eagerB ol.toArray l = true)
    (h : wpX P ol.toArray (fun a' w' => Q .normal a' w') l a w.drew) : (Code.region id ol.toArray true).wp P Q a w := by
  simp only [eagerB, Bool.and_eq_true, beq_iff_eq] at hB
  obtain ⟨⟨hs, hl⟩, hB⟩ := hB
  refine wp_region_any hm (wpAny_of_xAny (Q := fun a' w' => Q .normal a' w') (fun _ _ h => h) _ _ _ _ ?_)
  have H := xAny_of_wpX hs l _ a _ hB h
  rw [hl] at H
  exact H

/-! ### The steps -/
theorem wpX_nil {Q : Act → World → Prop} {a : Act} {w : World} (h : Q a w) : wpX P ops Q [] a w := h

/-- A firm operation: what it answers at every later world. -/
theorem wpX_q {Q : Act → World → Prop} {k : Nat} {l : List (Nat × Bool)} {a : Act} {w : World} {o : Oper} (ho : ops[k]? = some o) (hw : Region.wanted o (yielded ops a.tmps) = true) (v : Value)
    (hv : ∀ w', Ext w w' → (execOp a.eval o).run P w' = .ok (.value v) w') (h : wpX P ops Q l (a.put o.dst v) w) : wpX P ops Q ((k, false) :: l) a w :=
  ⟨o, ho, v, .inl ⟨hw, fun w' hx => .inl (hv w' hx)⟩, h⟩
theorem wpX_skip {Q : Act → World → Prop} {k : Nat} {l : List (Nat × Bool)} {a : Act} {w : World} {o : Oper} (ho : ops[k]? = some o) (hw : Region.wanted o (yielded ops a.tmps) = false)
    (h : wpX P ops Q l (a.put o.dst undef) w) : wpX P ops Q ((k, false) :: l) a w :=
  ⟨o, ho, undef, .inr ⟨hw, rfl⟩, h⟩
theorem wpX_call {Q : Act → World → Prop} {k : Nat} {l : List (Nat × Bool)} {a : Act} {w : World} {o : Oper} (ho : ops[k]? = some o) (hw : Region.wanted o (yielded ops a.tmps) = true) (v : Value) (f : FuncId) (args : Array Value)
    (hv : ∀ w', (execOp a.eval o).run P w' = .ok (.enter f args) w') (hc : ∀ w', Ext w w' → Calls P f args w' (Ret v w')) (h : wpX P ops Q l (a.put o.dst v) w) : wpX P ops Q ((k, false) :: l) a w :=
  ⟨o, ho, v, .inl ⟨hw, fun w' hx => .inr (.inr ⟨f, args, hv w', hc w' hx⟩)⟩, h⟩
theorem wpX_l {Q : Act → World → Prop} {k : Nat} {l : List (Nat × Bool)} {a : Act} {w : World} {o : Oper} (ho : ops[k]? = some o) (hw : Region.wanted o (yielded ops a.tmps) = true)
    (h : o.wp P a w (fun a' w' => Ext w w' ∧ wpX P ops Q l a' w') (fun _ _ _ => False)) : wpX P ops Q ((k, true) :: l) a w := by
  show xOp P ops k _ a w
  unfold xOp
  simp only [ho, hw, if_true]
  exact h
theorem wpX_lskip {Q : Act → World → Prop} {k : Nat} {l : List (Nat × Bool)} {a : Act} {w : World} {o : Oper} (ho : ops[k]? = some o) (hw : Region.wanted o (yielded ops a.tmps) = false)
    (h : wpX P ops Q l (a.put o.dst undef) w) : wpX P ops Q ((k, true) :: l) a w := by
  show xOp P ops k _ a w
  unfold xOp
  simp only [ho, hw, Bool.false_eq_true, if_false]
  exact h

/-- A load of one cell. -/
theorem wpX_ix {Q : Act → World → Prop} {k : Nat} {l : List (Nat × Bool)} {a : Act} {w : World} {o : Oper} (ho : ops[k]? = some o) (hw : Region.wanted o (yielded ops a.tmps) = true) (xO iO : Operand) {t : TypeId}
    (hop : o.op = .indexAddr t xO iO) {e s b : Nat} {z : Value} (E : Elem P t e s b z) {p : Option Addr} {n c : Nat} {xs : List Value} (hx : a.eval xO = .slice p n c) (hr : Row w p n c s xs)
    (i : Nat) {kd : IntKind} {I : Int} (hi : a.eval iO = .int kd I) (hI : I = (i : Int)) (hin : i < n)
    (h : ∀ b' o', (∀ j, j < s → ∀ w', Ext w w' → w'.cell? ⟨b', o' + j, none⟩ = xs[i * s + j]?) → wpX P ops Q l (a.put o.dst (.pointer (some ⟨b', o', none⟩))) w) : wpX P ops Q ((k, false) :: l) a w := by
  obtain ⟨b', o', rfl⟩ : ∃ b' o', p = some ⟨b', o', none⟩ := by
    cases p with
    | none => exact absurd (hr.nil rfl) (by have := hr.le; omega)
    | some q =>
      rcases hr.at_ q rfl with h0 | ⟨b', o', rfl⟩
      · have := hr.le; omega
      · exact ⟨b', o', rfl⟩
  refine wpX_q ho hw (.pointer (some ⟨b', o' + i * s, none⟩)) (fun w' hx' => ?_) (h b' (o' + i * s) ?_)
  · subst hI
    have hrun := run_indexAt_slice (P := P) (w := w') t ⟨b', o', none⟩ n c kd (i : Int) E.und'
    rw [if_pos (by omega), E.size] at hrun
    simp only [Result.andThen, Int.toNat_natCast, Addr.add_lit] at hrun
    simp [execOp, hop, hx, hi, hrun, Result.andThen]
  · intro j hj w' hx'
    have hlt : i * s + j < xs.length := by
      rw [hr.len]
      have h1 : (i + 1) * s ≤ n * s := Nat.mul_le_mul_right s hin
      rw [Nat.add_mul, Nat.one_mul] at h1
      omega
    have := (hr.ext hx').cell _ rfl (i * s + j) _ (List.getElem?_eq_getElem hlt)
    rw [Addr.add_lit, ← Nat.add_assoc] at this
    rw [this, List.getElem?_eq_getElem hlt]
theorem wpX_ixB {Q : Act → World → Prop} {k : Nat} {l : List (Nat × Bool)} {a : Act} {w : World} {o : Oper} (ho : ops[k]? = some o) (hw : Region.wanted o (yielded ops a.tmps) = true) (xO iO : Operand) {t : TypeId}
    (hop : o.op = .indexAddr t xO iO) {e b : Nat} {z : Value} (E : Elem P t e 1 b z) {p : Option Addr} {n c : Nat} {xs : List UInt8} (hx : a.eval xO = .slice p n c) (hr : Bytes w p n c xs)
    (i : Nat) {kd : IntKind} {I : Int} (hi : a.eval iO = .int kd I) (hI : I = (i : Int)) (x : UInt8) (hin : xs[i]? = some x)
    (h : ∀ q, (∀ w', Ext w w' → w'.cell? q = some (.int .u8 (x.toNat : Int))) → wpX P ops Q l (a.put o.dst (.pointer (some q))) w) : wpX P ops Q ((k, false) :: l) a w := by
  obtain ⟨hil, hix⟩ := List.getElem?_eq_some_iff.1 hin
  refine wpX_ix ho hw xO iO hop E hx hr.row i hi hI (by have := hr.len; omega) fun b' o' hc => h _ fun w' hx' => ?_
  have := hc 0 (by decide) w' hx'
  rw [Nat.add_zero] at this
  rw [this, Nat.mul_one, Nat.add_zero, List.getElem?_map, hin]
  rfl
end
end Go.Proofs.Ytcljlglmnagodaa
