/-
  Several texts in one: Ord, OrdY, OrdZ, OrdT.
-/
import Derived.Test.YtejljmikammcdaaGreatDoorBase
import Derived.Still
import Derived.StillTail
import Derived.Deep.MidRow
/-
  A region that draws its order, walked in one order: operations that answer alike in every later world ('firm') are taken as soon as they are ready; an operation that changes the world is taken when it alone is ready.
-/
namespace Go.Proofs.YtejljmikammcdaaGreatDoor
open Go.RowKit

section
variable {P : Program} {ops : Array Oper} {md : Region.Mode}

/-- One operation, which leaves all old blocks as they are. -/
def xOp (P : Program) (ops : Array Oper) (i : Nat) (K : Act → World → Prop) (a : Act) (w : World) : Prop :=
  match ops[i]? with
  | none => K a w
  | some o => if Region.wanted o (yielded ops a.tmps) then o.wp P a w (fun a' w' => Ext w w' ∧ K a' w') (fun _ _ _ => False) else K (a.put o.dst undef) w

theorem wp_weaken {o : Oper} {a : Act} {w : World} {K K' : Act → World → Prop} {Q Q' : Exit → Act → World → Prop} (h : ∀ a w, K a w → K' a w) (hq : ∀ e a w, Q e a w → Q' e a w)
    (hh : o.wp P a w K Q) : o.wp P a w K' Q' := by
  unfold Oper.wp at *
  generalize (execOp a.eval o).run P w = r at *
  cases r with
  | ok n w' =>
    cases n <;> simp only [Oper.upon] at hh ⊢ <;>
      first
        | exact h _ _ hh
        | exact Calls.mono hh (fun e w'' he => by
            cases e <;> first | exact h _ _ he | exact hq _ _ _ he | (obtain ⟨a0, w0, h0⟩ := he; exact ⟨a0, w0, hq _ _ _ h0⟩))
        | exact Rows.mono hh (fun _ _ he => h _ _ he)
  | halt x w' => cases x <;> simp only [Oper.upon] at hh ⊢ <;> first | exact hq _ _ _ hh | exact hh

theorem xOp_mono {i : Nat} {a : Act} {w : World} {K K' : Act → World → Prop} (h : ∀ a w, K a w → K' a w) (hh : xOp P ops i K a w) : xOp P ops i K' a w := by
  unfold xOp at *
  split
  · rename_i ho; simp only [ho] at hh; exact h _ _ hh
  · rename_i o ho
    simp only [ho] at hh
    split
    · rename_i hw; simp only [hw, if_true] at hh; exact wp_weaken (fun a w hk => ⟨hk.1, h _ _ hk.2⟩) (fun _ _ _ h => h) hh
    · rename_i hw; simp only [hw] at hh; exact h _ _ hh

theorem wpOp_of_xOp {i : Nat} {a : Act} {w : World} {K K' : Act → World → Prop} {Q : Exit → Act → World → Prop} (h : ∀ a w, K a w → K' a w) (hh : xOp P ops i K a w) : wpOp P ops Q i K' a w := by
  unfold xOp at hh
  unfold wpOp
  split
  · rename_i ho; simp only [ho] at hh; exact h _ _ hh
  · rename_i o ho
    simp only [ho] at hh
    split
    · rename_i hw; simp only [hw, if_true] at hh; exact .inl (wp_weaken (fun a w hk => h _ _ hk.2) (fun _ _ _ h => h.elim) hh)
    · rename_i hw; simp only [hw] at hh; exact h _ _ hh

/-- Any order. -/
def xAny (P : Program) (md : Region.Mode) (ops : Array Oper) (Q : Act → World → Prop) : Nat → Array Bool → Act → World → Prop
  | 0, listed, a, w => Region.ready md ops listed = [] ∧ Q a w
  | fuel + 1, listed, a, w => (Region.ready md ops listed = [] → Q a w) ∧ ∀ i ∈ Region.ready md ops listed, xOp P ops i (xAny P md ops Q fuel (listed.setIfInBounds i true)) a w

theorem wpAny_of_xAny {Q : Act → World → Prop} {Q' : Exit → Act → World → Prop} (hQ : ∀ a w, Q a w → Q' .normal a w) : ∀ (fuel : Nat) (listed : Array Bool) (a : Act) (w : World),
    xAny P md ops Q fuel listed a w → wpAny P md ops Q' fuel listed a w
  | 0, _, _, _, h => ⟨h.1, hQ _ _ h.2⟩
  | fuel + 1, _, _, _, h => ⟨fun h0 => hQ _ _ (h.1 h0), fun i hi => wpOp_of_xOp (fun a' w' => wpAny_of_xAny hQ fuel _ a' w') (h.2 i hi)⟩

/-- The operation answers v in the world w', and leaves it alone. -/
def Gives (P : Program) (o : Oper) (a : Act) (w' : World) (v : Value) : Prop :=
  (execOp a.eval o).run P w' = .ok (.value v) w' ∨ ((execOp a.eval o).run P w' = .ok .skip w' ∧ v = undef) ∨
    ∃ f args, (execOp a.eval o).run P w' = .ok (.enter f args) w' ∧ Calls P f args w' (fun e w'' => e = .returned v ∧ w' = w'')

def Firm (P : Program) (ops : Array Oper) (w : World) (o : Oper) (v : Value) (a : Act) : Prop :=
  (Region.wanted o (yielded ops a.tmps) = true ∧ ∀ w', Ext w w' → Gives P o a w' v) ∨ (Region.wanted o (yielded ops a.tmps) = false ∧ v = undef)

theorem Firm.xOp {w : World} {i : Nat} {o : Oper} {v : Value} {a : Act} (hi : ops[i]? = some o) (hy : Firm P ops w o v a) {K : Act → World → Prop} (h : K (a.put o.dst v) w) : xOp P ops i K a w := by
  unfold Proofs.YtejljmikammcdaaGreatDoor.xOp
  simp only [hi]
  rcases hy with ⟨hw, hv⟩ | ⟨hw, rfl⟩
  · have hx : Ext w w := Below.refl _ _
    rw [if_pos hw]
    unfold Oper.wp
    rcases hv w hx with h1 | ⟨h1, h2⟩ | ⟨f, args, h1, hc⟩
    · rw [h1]; exact ⟨hx, h⟩
    · rw [h1]; subst h2; exact ⟨hx, h⟩
    · rw [h1]
      exact hc.mono fun e w'' ⟨he, hww⟩ => by subst he; subst hww; exact ⟨hx, h⟩
  · simp only [hw, Bool.false_eq_true, if_false]; exact h

theorem Firm.of_same {w w' : World} {o : Oper} {v : Value} {a a' : Act} (hy : Firm P ops w o v a) (he : execOp a'.eval o = execOp a.eval o)
    (hw : Region.wanted o (yielded ops a'.tmps) = Region.wanted o (yielded ops a.tmps)) (hx : Ext w w') : Firm P ops w' o v a' := by
  unfold Firm Gives at *
  rw [he, hw]
  rcases hy with ⟨h1, h2⟩ | h
  · exact .inl ⟨h1, fun w'' hx' => h2 w'' (hx.trans' hx')⟩
  · exact .inr h

theorem xOp_put {w : World} {j : Nat} {oi oj : Oper} {v : Value} (hj : ops[j]? = some oj) (hap : oi.apart ops oj = true)
    (hsi : ∀ cs b, oi.op ≠ .select cs b) (hsj : ∀ cs b, oj.op ≠ .select cs b) {K : Act → World → Prop} {a : Act}
    (hy : Firm P ops w oi v a) (h : xOp P ops j K (a.put oi.dst v) w) :
    xOp P ops j (fun a' w' => Firm P ops w' oi v a' ∧ K (a'.put oi.dst v) w') a w := by
  obtain ⟨h1, h2, h3⟩ := Oper.apart_spec hap
  have keep : ∀ (w' : World), Ext w w' → ∀ u, Firm P ops w' oi v (a.put oj.dst u) := fun w' hx u =>
    hy.of_same (execOp_put oi hsi a oj.dst u h3) (wanted_put oi a oj.dst u h3) hx
  have keepD : ∀ (w' : World), Ext w w' → ∀ d u, Firm P ops w' oi v (({ a with defers := d :: a.defers } : Act).put oj.dst u) := fun w' hx d u =>
    (show Firm P ops w oi v { a with defers := d :: a.defers } from hy).of_same (execOp_put oi hsi _ oj.dst u h3) (wanted_put oi _ oj.dst u h3) hx
  unfold xOp at *
  simp only [hj] at *
  rw [wanted_put oj a oi.dst v h1] at h
  split
  · rename_i hw
    simp only [hw, if_true] at h
    unfold Oper.wp at *
    rw [execOp_put oj hsj a oi.dst v h1] at h
    generalize (execOp a.eval oj).run P w = r at *
    cases r with
    | ok n w' =>
      cases n <;> simp only [Oper.upon] at h ⊢
      case value u => exact ⟨h.1, keep w' h.1 u, by rw [← Act.put_comm a v u h2]; exact h.2⟩
      case skip => exact ⟨h.1, keep w' h.1 _, by rw [← Act.put_comm a v undef h2]; exact h.2⟩
      case defer d =>
        rw [Act.put_defers, Act.put_comm _ v undef h2] at h
        exact ⟨h.1, keepD w' h.1 d _, h.2⟩
      case enter f args =>
        refine h.mono fun e w'' he => ?_
        cases e with
        | returned u => exact ⟨he.1, keep w'' he.1 u, by rw [← Act.put_comm a v u h2]; exact he.2⟩
        | panicked c => exact he
        | outgrown => exact he
      case row r args =>
        exact h.mono fun u w'' he => ⟨he.1, keep w'' he.1 u, by rw [← Act.put_comm a v u h2]; exact he.2⟩
    | halt x w' => cases x <;> simp only [Oper.upon] at h ⊢ <;> exact h
  · rename_i hw
    simp only [hw] at h
    exact ⟨keep w (Below.refl _ _) _, by rw [← Act.put_comm a v undef h2]; exact h⟩

theorem xAny_first {Q : Act → World → Prop} {i : Nat} {oi : Oper} {v : Value} (hi : ops[i]? = some oi) (hsel : ∀ (j : Nat) (o : Oper) cs b, ops[j]? = some o → o.op ≠ .select cs b) :
    ∀ (fuel : Nat) (listed : Array Bool) (a : Act) (w : World),
      (∀ j oj, ops[j]? = some oj → j ≠ i → listed.getD j true = false → (∀ e ∈ oj.after, Region.binds md e = true → e.on ≠ i) → oi.apart ops oj = true) →
      i ∈ Region.ready md ops listed → Firm P ops w oi v a →
      xAny P md ops Q fuel (listed.setIfInBounds i true) (a.put oi.dst v) w → xAny P md ops Q (fuel + 1) listed a w := by
  intro fuel
  induction fuel with
  | zero =>
    intro listed a w _ hr hy H
    refine ⟨fun h => (by rw [h] at hr; cases hr), fun j hj => ?_⟩
    by_cases hji : j = i
    · subst hji; exact hy.xOp hi H
    · have := ready_mono hj hji
      rw [H.1] at this
      cases this
  | succ fuel ih =>
    intro listed a w hfree hr hy H
    refine ⟨fun h => (by rw [h] at hr; cases hr), fun j hj => ?_⟩
    by_cases hji : j = i
    · subst hji; exact hy.xOp hi H
    · have h1 := H.2 j (ready_mono hj hji)
      obtain ⟨hjun, oj, hoj, hall⟩ := mem_ready.1 hj
      have hnot : ∀ e ∈ oj.after, Region.binds md e = true → e.on ≠ i := fun e he hb heq => by
        have h1 := hall e he hb
        have h0 := (mem_ready.1 hr).1
        rw [heq] at h1
        rcases Nat.lt_or_ge i listed.size with h' | h'
        · simp [h'] at h0 h1; rw [h0] at h1; cases h1
        · simp [Array.getElem?_eq_none h'] at h1
      have h2 := xOp_put hoj (hfree j oj hoj hji hjun hnot) (fun cs b => hsel i oi cs b hi) (fun cs b => hsel j oj cs b hoj) hy h1
      have hfree' : ∀ k ok, ops[k]? = some ok → k ≠ i → (listed.setIfInBounds j true).getD k true = false →
          (∀ e ∈ ok.after, Region.binds md e = true → e.on ≠ i) → oi.apart ops ok = true := fun k ok hk hki hun hno => by
        refine hfree k ok hk hki ?_ hno
        by_cases hjk : j = k
        · subst hjk; exact hjun
        · rw [getD_set_ne true hjk] at hun; exact hun
      refine xOp_mono (fun a' w' h3 => ih (listed.setIfInBounds j true) a' w' hfree' (ready_mono hr (Ne.symm hji)) h3.1 ?_) h2
      rw [Array.setIfInBounds_comm _ _ hji]
      exact h3.2

/-- The order 'l' of the walk; the operations marked true change the world. -/
def eager (md : Region.Mode) (ops : Array Oper) : List (Nat × Bool) → Array Bool → Bool
  | [], listed => (Region.ready md ops listed).isEmpty
  | (k, true) :: l, listed => (Region.ready md ops listed == [k]) && eager md ops l (listed.setIfInBounds k true)
  | (k, false) :: l, listed => (Region.ready md ops listed).contains k && Region.free md ops listed k && eager md ops l (listed.setIfInBounds k true)

/-- The walk in that order. -/
def wpX (P : Program) (ops : Array Oper) (Q : Act → World → Prop) : List (Nat × Bool) → Act → World → Prop
  | [], a, w => Q a w
  | (k, true) :: l, a, w => xOp P ops k (wpX P ops Q l) a w
  | (k, false) :: l, a, w => ∃ o, ops[k]? = some o ∧ ∃ v, Firm P ops w o v a ∧ wpX P ops Q l (a.put o.dst v) w

theorem xAny_of_wpX {Q : Act → World → Prop} (hs : Region.noSelect ops = true) : ∀ (l : List (Nat × Bool)) (listed : Array Bool) (a : Act) (w : World),
    eager md ops l listed = true → wpX P ops Q l a w → xAny P md ops Q l.length listed a w
  | [], _, _, _, hB, h => ⟨by simpa [eager] using hB, h⟩
  | (k, true) :: l, listed, a, w, hB, h => by
    simp only [eager, Bool.and_eq_true, beq_iff_eq] at hB
    refine ⟨fun h0 => (by rw [h0] at hB; cases hB.1), fun i hi => ?_⟩
    rw [hB.1] at hi
    obtain rfl : i = k := by simpa using hi
    exact xOp_mono (fun a' w' h' => xAny_of_wpX hs l _ a' w' hB.2 h') h
  | (k, false) :: l, listed, a, w, hB, h => by
    simp only [eager, Bool.and_eq_true] at hB
    obtain ⟨⟨hr, hf⟩, hB'⟩ := hB
    obtain ⟨o, ho, v, hy, hK⟩ := h
    exact xAny_first ho (Region.noSelect_spec hs) l.length listed a w (Region.free_spec ho hf) (by simpa using hr) hy (xAny_of_wpX hs l _ _ _ hB' hK)

/-- The check of an order, closed: by kernel_rfl. -/
def eagerB (ops : Array Oper) (l : List (Nat × Bool)) : Bool := Region.noSelect ops && (l.length == ops.size) && eager .any ops l (Array.replicate ops.size false)

theorem wp_region_x {id : Nat} {Q : Exit → Act → World → Prop} {a : Act} {w : World} {ol : List Oper} (l : List (Nat × Bool)) (hm : P.follows .mixedOrders = true) (hB : eagerB ol.toArray l = true)
    (h : wpX P ol.toArray (fun a' w' => Q .normal a' w') l a w.drew) : (Code.region id ol.toArray true).wp P Q a w := by
  simp only [eagerB, Bool.and_eq_true, beq_iff_eq] at hB
  obtain ⟨⟨hs, hl⟩, hB⟩ := hB
  refine wp_region_any hm (wpAny_of_xAny (Q := fun a' w' => Q .normal a' w') (fun _ _ h => h) _ _ _ _ ?_)
  have H := xAny_of_wpX hs l _ a _ hB h
  rw [hl] at H
  exact H

/-! ### The steps -/
theorem wpX_nil {Q : Act → World → Prop} {a : Act} {w : World} (h : Q a w) : wpX P ops Q [] a w := h

/-- A firm operation: what it answers at every later world. -/
theorem wpX_q {Q : Act → World → Prop} {k : Nat} {l : List (Nat × Bool)} {a : Act} {w : World} {o : Oper} (ho : ops[k]? = some o) (hw : Region.wanted o (yielded ops a.tmps) = true) (v : Value)
    (hv : ∀ w', Ext w w' → (execOp a.eval o).run P w' = .ok (.value v) w') (h : wpX P ops Q l (a.put o.dst v) w) : wpX P ops Q ((k, false) :: l) a w :=
  ⟨o, ho, v, .inl ⟨hw, fun w' hx => .inl (hv w' hx)⟩, h⟩
theorem wpX_skip {Q : Act → World → Prop} {k : Nat} {l : List (Nat × Bool)} {a : Act} {w : World} {o : Oper} (ho : ops[k]? = some o) (hw : Region.wanted o (yielded ops a.tmps) = false)
    (h : wpX P ops Q l (a.put o.dst undef) w) : wpX P ops Q ((k, false) :: l) a w :=
  ⟨o, ho, undef, .inr ⟨hw, rfl⟩, h⟩
theorem wpX_call {Q : Act → World → Prop} {k : Nat} {l : List (Nat × Bool)} {a : Act} {w : World} {o : Oper} (ho : ops[k]? = some o) (hw : Region.wanted o (yielded ops a.tmps) = true) (v : Value) (f : FuncId) (args : Array Value)
    (hv : ∀ w', (execOp a.eval o).run P w' = .ok (.enter f args) w') (hc : ∀ w', Ext w w' → Calls P f args w' (Ret v w')) (h : wpX P ops Q l (a.put o.dst v) w) : wpX P ops Q ((k, false) :: l) a w :=
  ⟨o, ho, v, .inl ⟨hw, fun w' hx => .inr (.inr ⟨f, args, hv w', hc w' hx⟩)⟩, h⟩
theorem wpX_l {Q : Act → World → Prop} {k : Nat} {l : List (Nat × Bool)} {a : Act} {w : World} {o : Oper} (ho : ops[k]? = some o) (hw : Region.wanted o (yielded ops a.tmps) = true)
    (h : o.wp P a w (fun a' w' => Ext w w' ∧ wpX P ops Q l a' w') (fun _ _ _ => False)) : wpX P ops Q ((k, true) :: l) a w := by
  show xOp P ops k _ a w
  unfold xOp
  simp only [ho, hw, if_true]
  exact h
theorem wpX_lskip {Q : Act → World → Prop} {k : Nat} {l : List (Nat × Bool)} {a : Act} {w : World} {o : Oper} (ho : ops[k]? = some o) (hw : Region.wanted o (yielded ops a.tmps) = false)
    (h : wpX P ops Q l (a.put o.dst undef) w) : wpX P ops Q ((k, true) :: l) a w := by
  show xOp P ops k _ a w
  unfold xOp
  simp only [ho, hw, Bool.false_eq_true, if_false]
  exact h

/-- A load of one cell. -/
theorem wpX_ix {Q : Act → World → Prop} {k : Nat} {l : List (Nat × Bool)} {a : Act} {w : World} {o : Oper} (ho : ops[k]? = some o) (hw : Region.wanted o (yielded ops a.tmps) = true) (xO iO : Operand) {t : TypeId}
    (hop : o.op = .indexAddr t xO iO) {e s b : Nat} {z : Value} (E : Elem P t e s b z) {p : Option Addr} {n c : Nat} {xs : List Value} (hx : a.eval xO = .slice p n c) (hr : Row w p n c s xs)
    (i : Nat) {kd : IntKind} {I : Int} (hi : a.eval iO = .int kd I) (hI : I = (i : Int)) (hin : i < n)
    (h : ∀ b' o', (∀ j, j < s → ∀ w', Ext w w' → w'.cell? ⟨b', o' + j, none⟩ = xs[i * s + j]?) → wpX P ops Q l (a.put o.dst (.pointer (some ⟨b', o', none⟩))) w) : wpX P ops Q ((k, false) :: l) a w := by
  obtain ⟨b', o', rfl⟩ : ∃ b' o', p = some ⟨b', o', none⟩ := by
    cases p with
    | none => exact absurd (hr.nil rfl) (by have := hr.le; omega)
    | some q =>
      rcases hr.at_ q rfl with h0 | ⟨b', o', rfl⟩
      · have := hr.le; omega
      · exact ⟨b', o', rfl⟩
  refine wpX_q ho hw (.pointer (some ⟨b', o' + i * s, none⟩)) (fun w' hx' => ?_) (h b' (o' + i * s) ?_)
  · subst hI
    have hrun := run_indexAt_slice (P := P) (w := w') t ⟨b', o', none⟩ n c kd (i : Int) E.und'
    rw [if_pos (by omega), E.size] at hrun
    simp only [Result.andThen, Int.toNat_natCast, Addr.add_lit] at hrun
    simp [execOp, hop, hx, hi, hrun, Result.andThen]
  · intro j hj w' hx'
    have hlt : i * s + j < xs.length := by
      rw [hr.len]
      have h1 : (i + 1) * s ≤ n * s := Nat.mul_le_mul_right s hin
      rw [Nat.add_mul, Nat.one_mul] at h1
      omega
    have := (hr.ext hx').cell _ rfl (i * s + j) _ (List.getElem?_eq_getElem hlt)
    rw [Addr.add_lit, ← Nat.add_assoc] at this
    rw [this, List.getElem?_eq_getElem hlt]
theorem wpX_ixB {Q : Act → World → Prop} {k : Nat} {l : List (Nat × Bool)} {a : Act} {w : World} {o : Oper} (ho : ops[k]? = some o) (hw : Region.wanted o (yielded ops a.tmps) = true) (xO iO : Operand) {t : TypeId}
    (hop : o.op = .indexAddr t xO iO) {e b : Nat} {z : Value} (E : Elem P t e 1 b z) {p : Option Addr} {n c : Nat} {xs : List UInt8} (hx : a.eval xO = .slice p n c) (hr : Bytes w p n c xs)
    (i : Nat) {kd : IntKind} {I : Int} (hi : a.eval iO = .int kd I) (hI : I = (i : Int)) (x : UInt8) (hin : xs[i]? = some x)
    (h : ∀ q, (∀ w', Ext w w' → w'.cell? q = some (.int .u8 (x.toNat : Int))) → wpX P ops Q l (a.put o.dst (.pointer (some q))) w) : wpX P ops Q ((k, false) :: l) a w := by
  obtain ⟨hil, hix⟩ := List.getElem?_eq_some_iff.1 hin
  refine wpX_ix ho hw xO iO hop E hx hr.row i hi hI (by have := hr.len; omega) fun b' o' hc => h _ fun w' hx' => ?_
  have := hc 0 (by decide) w' hx'
  rw [Nat.add_zero] at this
  rw [this, Nat.mul_one, Nat.add_zero, List.getElem?_map, hin]
  rfl
end
end Go.Proofs.YtejljmikammcdaaGreatDoor
/-
  A region that draws its order, walked by a plan: quiet operations first; where several operations that change the world are ready, each of them may come first. The last operation may change what it likes.
-/
namespace Go.Proofs.YtejljmikammcdaaGreatDoor
open Go.RowKit

/-- A plan of the walk. -/
inductive XP where
  | nil : XP
  | q : Nat → XP → XP
  | alt : Nat → XP → XP → XP
  | stop : XP

def XP.keys : XP → List Nat
  | .alt k _ r => k :: r.keys
  | _ => []
def XP.qs : List Nat → XP → XP
  | [], p => p
  | k :: l, p => .q k (XP.qs l p)
/-- One loud operation alone. -/
def XP.l (k : Nat) (p : XP) : XP := .alt k p .stop

section
variable {P : Program} {ops : Array Oper} {md : Region.Mode}

/-- One operation; what stood below block B in the world w0 stays, unless the operation is free to change it. -/
def yOp (P : Program) (ops : Array Oper) (B : Nat) (w0 : World) (fr : Bool) (i : Nat) (K : Act → World → Prop) (a : Act) (w : World) : Prop :=
  match ops[i]? with
  | none => K a w
  | some o => if Region.wanted o (yielded ops a.tmps) then o.wp P a w (fun a' w' => (fr = false → Below B w0 w') ∧ K a' w') (fun _ _ _ => False) else K (a.put o.dst undef) w

variable {B : Nat} {w0 : World}
theorem yOp_mono {fr : Bool} {i : Nat} {a : Act} {w : World} {K K' : Act → World → Prop} (h : ∀ a w, K a w → K' a w) (hh : yOp P ops B w0 fr i K a w) : yOp P ops B w0 fr i K' a w := by
  unfold yOp at *
  split
  · rename_i ho; simp only [ho] at hh; exact h _ _ hh
  · rename_i o ho
    simp only [ho] at hh
    split
    · rename_i hw; simp only [hw, if_true] at hh; exact wp_weaken (fun a w hk => ⟨hk.1, h _ _ hk.2⟩) (fun _ _ _ h => h) hh
    · rename_i hw; simp only [hw] at hh; exact h _ _ hh
theorem yOp_mono' {fr : Bool} {i : Nat} {a : Act} {w : World} {K K' : Act → World → Prop} (hw0 : Below B w0 w) (h : ∀ a w, (fr = false → Below B w0 w) → K a w → K' a w) (hh : yOp P ops B w0 fr i K a w) : yOp P ops B w0 fr i K' a w := by
  unfold yOp at *
  split
  · rename_i ho; simp only [ho] at hh; exact h _ _ (fun _ => hw0) hh
  · rename_i o ho
    simp only [ho] at hh
    split
    · rename_i hw; simp only [hw, if_true] at hh; exact wp_weaken (fun a w hk => ⟨hk.1, h _ _ hk.1 hk.2⟩) (fun _ _ _ h => h) hh
    · rename_i hw; simp only [hw] at hh; exact h _ _ (fun _ => hw0) hh
theorem wpOp_of_yOp {fr : Bool} {i : Nat} {a : Act} {w : World} {K K' : Act → World → Prop} {Q : Exit → Act → World → Prop} (h : ∀ a w, K a w → K' a w) (hh : yOp P ops B w0 fr i K a w) : wpOp P ops Q i K' a w := by
  unfold yOp at hh
  unfold wpOp
  split
  · rename_i ho; simp only [ho] at hh; exact h _ _ hh
  · rename_i o ho
    simp only [ho] at hh
    split
    · rename_i hw; simp only [hw, if_true] at hh; exact .inl (wp_weaken (fun a w hk => h _ _ hk.2) (fun _ _ _ h => h.elim) hh)
    · rename_i hw; simp only [hw] at hh; exact h _ _ hh

/-- The operation answers v at every world like w0 below B. -/
def FirmY (P : Program) (ops : Array Oper) (B : Nat) (w0 : World) (o : Oper) (v : Value) (a : Act) : Prop :=
  (Region.wanted o (yielded ops a.tmps) = true ∧ ∀ w', Below B w0 w' → Gives P o a w' v) ∨ (Region.wanted o (yielded ops a.tmps) = false ∧ v = undef)

theorem FirmY.yOp {w : World} {b : Bool} {i : Nat} {o : Oper} {v : Value} {a : Act} (hi : ops[i]? = some o) (hy : FirmY P ops B w0 o v a) (hw0 : Below B w0 w) {K : Act → World → Prop} (h : K (a.put o.dst v) w) : yOp P ops B w0 b i K a w := by
  unfold Proofs.YtejljmikammcdaaGreatDoor.yOp
  simp only [hi]
  rcases hy with ⟨hw, hv⟩ | ⟨hw, rfl⟩
  · rw [if_pos hw]
    unfold Oper.wp
    rcases hv w hw0 with h1 | ⟨h1, h2⟩ | ⟨f, args, h1, hc⟩
    · rw [h1]; exact ⟨fun _ => hw0, h⟩
    · rw [h1]; subst h2; exact ⟨fun _ => hw0, h⟩
    · rw [h1]
      exact hc.mono fun e w'' ⟨he, hww⟩ => by subst he; subst hww; exact ⟨fun _ => hw0, h⟩
  · simp only [hw, Bool.false_eq_true, if_false]; exact h

theorem FirmY.of_same {o : Oper} {v : Value} {a a' : Act} (hy : FirmY P ops B w0 o v a) (he : execOp a'.eval o = execOp a.eval o)
    (hw : Region.wanted o (yielded ops a'.tmps) = Region.wanted o (yielded ops a.tmps)) : FirmY P ops B w0 o v a' := by
  unfold FirmY Gives at *
  rw [he, hw]
  exact hy

theorem yOp_put {w : World} {b : Bool} {j : Nat} {oi oj : Oper} {v : Value} (hj : ops[j]? = some oj) (hap : oi.apart ops oj = true)
    (hsi : ∀ cs b, oi.op ≠ .select cs b) (hsj : ∀ cs b, oj.op ≠ .select cs b) {K : Act → World → Prop} {a : Act}
    (hy : FirmY P ops B w0 oi v a) (h : yOp P ops B w0 b j K (a.put oi.dst v) w) :
    yOp P ops B w0 b j (fun a' w' => FirmY P ops B w0 oi v a' ∧ K (a'.put oi.dst v) w') a w := by
  obtain ⟨h1, h2, h3⟩ := Oper.apart_spec hap
  have keep : ∀ u, FirmY P ops B w0 oi v (a.put oj.dst u) := fun u =>
    hy.of_same (execOp_put oi hsi a oj.dst u h3) (wanted_put oi a oj.dst u h3)
  have keepD : ∀ d u, FirmY P ops B w0 oi v (({ a with defers := d :: a.defers } : Act).put oj.dst u) := fun d u =>
    (show FirmY P ops B w0 oi v { a with defers := d :: a.defers } from hy).of_same (execOp_put oi hsi _ oj.dst u h3) (wanted_put oi _ oj.dst u h3)
  unfold yOp at *
  simp only [hj] at *
  rw [wanted_put oj a oi.dst v h1] at h
  split
  · rename_i hw
    simp only [hw, if_true] at h
    unfold Oper.wp at *
    rw [execOp_put oj hsj a oi.dst v h1] at h
    generalize (execOp a.eval oj).run P w = r at *
    cases r with
    | ok n w' =>
      cases n <;> simp only [Oper.upon] at h ⊢
      case value u => exact ⟨h.1, keep u, by rw [← Act.put_comm a v u h2]; exact h.2⟩
      case skip => exact ⟨h.1, keep _, by rw [← Act.put_comm a v undef h2]; exact h.2⟩
      case defer d =>
        rw [Act.put_defers, Act.put_comm _ v undef h2] at h
        exact ⟨h.1, keepD d _, h.2⟩
      case enter f args =>
        refine h.mono fun e w'' he => ?_
        cases e with
        | returned u => exact ⟨he.1, keep u, by rw [← Act.put_comm a v u h2]; exact he.2⟩
        | panicked c => exact he
        | outgrown => exact he
      case row r args =>
        exact h.mono fun u w'' he => ⟨he.1, keep u, by rw [← Act.put_comm a v u h2]; exact he.2⟩
    | halt x w' => cases x <;> simp only [Oper.upon] at h ⊢ <;> exact h
  · rename_i hw
    simp only [hw] at h
    exact ⟨keep _, by rw [← Act.put_comm a v undef h2]; exact h⟩

/-- Any order; the operations of fr are free to change what they like. -/
def yAny (P : Program) (md : Region.Mode) (ops : Array Oper) (B : Nat) (w0 : World) (fr : List Nat) (Q : Act → World → Prop) : Nat → Array Bool → Act → World → Prop
  | 0, listed, a, w => Region.ready md ops listed = [] ∧ Q a w
  | fuel + 1, listed, a, w => (Region.ready md ops listed = [] → Q a w) ∧ ∀ i ∈ Region.ready md ops listed, yOp P ops B w0 (fr.contains i) i (yAny P md ops B w0 fr Q fuel (listed.setIfInBounds i true)) a w

theorem wpAny_of_yAny {fr : List Nat} {Q : Act → World → Prop} {Q' : Exit → Act → World → Prop} (hQ : ∀ a w, Q a w → Q' .normal a w) : ∀ (fuel : Nat) (listed : Array Bool) (a : Act) (w : World),
    yAny P md ops B w0 fr Q fuel listed a w → wpAny P md ops Q' fuel listed a w
  | 0, _, _, _, h => ⟨h.1, hQ _ _ h.2⟩
  | fuel + 1, _, _, _, h => ⟨fun h0 => hQ _ _ (h.1 h0), fun i hi => wpOp_of_yOp (fun a' w' => wpAny_of_yAny hQ fuel _ a' w') (h.2 i hi)⟩

/-- Each free operation stands behind each that is not. -/
def frees (md : Region.Mode) (ops : Array Oper) (fr : List Nat) : Bool :=
  fr.all fun j => (List.range ops.size).all fun i => fr.contains i || match ops[j]? with
    | some oj => oj.after.any fun e => Region.binds md e && e.on == i
    | none => true
theorem frees_spec {fr : List Nat} (h : frees md ops fr = true) {i j : Nat} {oj : Oper} (hj : j ∈ fr) (hi : i < ops.size) (hif : fr.contains i = false) (hoj : ops[j]? = some oj) : ∃ e ∈ oj.after, Region.binds md e = true ∧ e.on = i := by
  have h1 := List.all_eq_true.1 (List.all_eq_true.1 h j hj) i (List.mem_range.2 hi)
  simp only [hif, Bool.false_or, hoj] at h1
  obtain ⟨e, he, hb⟩ := Array.any_eq_true'.1 h1
  simp only [Bool.and_eq_true, beq_iff_eq] at hb
  exact ⟨e, he, hb⟩

theorem yAny_first {fr : List Nat} (hfr : frees md ops fr = true) {Q : Act → World → Prop} {i : Nat} {oi : Oper} {v : Value} (hi : ops[i]? = some oi) (hsel : ∀ (j : Nat) (o : Oper) cs b, ops[j]? = some o → o.op ≠ .select cs b)
    (hif : fr.contains i = false) :
    ∀ (fuel : Nat) (listed : Array Bool) (a : Act) (w : World),
      (∀ j oj, ops[j]? = some oj → j ≠ i → listed.getD j true = false → (∀ e ∈ oj.after, Region.binds md e = true → e.on ≠ i) → oi.apart ops oj = true) →
      i ∈ Region.ready md ops listed → Below B w0 w → FirmY P ops B w0 oi v a →
      yAny P md ops B w0 fr Q fuel (listed.setIfInBounds i true) (a.put oi.dst v) w → yAny P md ops B w0 fr Q (fuel + 1) listed a w := by
  intro fuel
  induction fuel with
  | zero =>
    intro listed a w _ hr hw0 hy H
    refine ⟨fun h => (by rw [h] at hr; cases hr), fun j hj => ?_⟩
    by_cases hji : j = i
    · subst hji; exact hy.yOp hi hw0 H
    · have := ready_mono hj hji
      rw [H.1] at this
      cases this
  | succ fuel ih =>
    intro listed a w hfree hr hw0 hy H
    refine ⟨fun h => (by rw [h] at hr; cases hr), fun j hj => ?_⟩
    by_cases hji : j = i
    · subst hji; exact hy.yOp hi hw0 H
    · have h1 := H.2 j (ready_mono hj hji)
      obtain ⟨hjun, oj, hoj, hall⟩ := mem_ready.1 hj
      have hnot : ∀ e ∈ oj.after, Region.binds md e = true → e.on ≠ i := fun e he hb heq => by
        have h1 := hall e he hb
        have h0 := (mem_ready.1 hr).1
        rw [heq] at h1
        rcases Nat.lt_or_ge i listed.size with h' | h'
        · simp [h'] at h0 h1; rw [h0] at h1; cases h1
        · simp [Array.getElem?_eq_none h'] at h1
      have hjf : fr.contains j = false := by
        rw [Bool.eq_false_iff]
        intro hc
        obtain ⟨e, he, hb, heq⟩ := frees_spec hfr (List.contains_iff_mem.1 hc) (Array.getElem?_eq_some_iff.1 hi).1 hif hoj
        exact hnot e he hb heq
      have hap := hfree j oj hoj hji hjun hnot
      have hfree' : ∀ k ok, ops[k]? = some ok → k ≠ i → (listed.setIfInBounds j true).getD k true = false →
          (∀ e ∈ ok.after, Region.binds md e = true → e.on ≠ i) → oi.apart ops ok = true := fun k ok hk hki hun hno => by
        refine hfree k ok hk hki ?_ hno
        by_cases hjk : j = k
        · subst hjk; exact hjun
        · rw [getD_set_ne true hjk] at hun; exact hun
      have h2 := yOp_put hoj hap (fun cs b => hsel i oi cs b hi) (fun cs b => hsel j oj cs b hoj) hy h1
      refine yOp_mono' hw0 (fun a' w' hb h3 => ih (listed.setIfInBounds j true) a' w' hfree' (ready_mono hr (Ne.symm hji)) (hb hjf) h3.1 ?_) h2
      rw [Array.setIfInBounds_comm _ _ hji]
      exact h3.2

/-- The check of a plan; 'top' is false behind the first of some alternatives. -/
def eagerY (md : Region.Mode) (ops : Array Oper) (fr : List Nat) : XP → Bool → Array Bool → Bool
  | .nil, top, listed => top && (Region.ready md ops listed).isEmpty
  | .q k p, top, listed => top && (Region.ready md ops listed).contains k && Region.free md ops listed k && !fr.contains k && eagerY md ops fr p true (listed.setIfInBounds k true)
  | .alt k p r, top, listed => (!top || Region.ready md ops listed == k :: r.keys) && eagerY md ops fr p true (listed.setIfInBounds k true) && eagerY md ops fr r false listed
  | .stop, top, _ => !top
def XP.deep : XP → Nat
  | .nil => 0
  | .q _ p => p.deep + 1
  | .alt _ p _ => p.deep + 1
  | .stop => 0
/-- All alternatives are of one length. -/
def XP.even : XP → Nat → Bool
  | .nil, n => n == 0
  | .q _ p, n + 1 => p.even n
  | .alt _ p r, n + 1 => p.even n && r.even (n + 1)
  | .stop, _ => true
  | _, 0 => false

/-- The walk by that plan. -/
def wpY (P : Program) (ops : Array Oper) (B : Nat) (w0 : World) (fr : List Nat) (Q : Act → World → Prop) : XP → Act → World → Prop
  | .nil, a, w => Q a w
  | .q k p, a, w => ∃ o, ops[k]? = some o ∧ ∃ v, FirmY P ops B w0 o v a ∧ wpY P ops B w0 fr Q p (a.put o.dst v) w
  | .alt k p r, a, w => yOp P ops B w0 (fr.contains k) k (wpY P ops B w0 fr Q p) a w ∧ wpY P ops B w0 fr Q r a w
  | .stop, _, _ => True

/-- The world is like w0 below B, or nothing is left that cares. -/
def Still (ops : Array Oper) (B : Nat) (w0 : World) (fr : List Nat) (listed : Array Bool) (w : World) : Prop :=
  Below B w0 w ∨ ∀ i, i < ops.size → fr.contains i = false → listed.getD i true = true
theorem Still.next {fr : List Nat} (hfr : frees md ops fr = true) {listed : Array Bool} {w' : World} {i : Nat} (hr : i ∈ Region.ready md ops listed) (hb : fr.contains i = false → Below B w0 w') :
    Still ops B w0 fr (listed.setIfInBounds i true) w' := by
  by_cases hf : fr.contains i = true
  · right
    intro k hk hkf
    obtain ⟨hun, oi, hoi, hall⟩ := mem_ready.1 hr
    obtain ⟨e, he, hb, rfl⟩ := frees_spec hfr (List.contains_iff_mem.1 hf) hk hkf hoi
    have h1 := hall e he hb
    rcases Nat.lt_or_ge e.on listed.size with h' | h'
    · by_cases hei : i = e.on
      · subst hei; simp [h']
      · rw [getD_set_ne true hei]; simp [h'] at h1 ⊢; exact h1
    · simp [Array.getElem?_eq_none h'] at h1
  · exact .inl (hb (by simpa using hf))

theorem alts_of_wpY {fr : List Nat} (hfr : frees md ops fr = true) {Q : Act → World → Prop} (n : Nat) (H : ∀ (p : XP) (listed : Array Bool) (a : Act) (w : World), Still ops B w0 fr listed w → eagerY md ops fr p true listed = true → p.even n = true → wpY P ops B w0 fr Q p a w → yAny P md ops B w0 fr Q n listed a w) :
    ∀ (r : XP) (top : Bool) (listed : Array Bool) (a : Act) (w : World), Still ops B w0 fr listed w → eagerY md ops fr r top listed = true → r.even (n + 1) = true → wpY P ops B w0 fr Q r a w → ∀ i ∈ r.keys, i ∈ Region.ready md ops listed → yOp P ops B w0 (fr.contains i) i (yAny P md ops B w0 fr Q n (listed.setIfInBounds i true)) a w
  | .nil, _, _, _, _, _, _, _, _, _, hi, _ => by cases hi
  | .q _ _, _, _, _, _, _, _, _, _, _, hi, _ => by cases hi
  | .stop, _, _, _, _, _, _, _, _, _, hi, _ => by cases hi
  | .alt k p r, top, listed, a, w, hS, hB, hE, h, i, hi, hr => by
    simp only [eagerY, Bool.and_eq_true] at hB
    simp only [XP.even, Bool.and_eq_true] at hE
    simp only [XP.keys, List.mem_cons] at hi
    rcases hi with rfl | hi
    · have hh := h.1
      unfold yOp at hh ⊢
      split
      · rename_i ho; simp only [ho] at hh
        obtain ⟨-, oi, hoi, -⟩ := mem_ready.1 hr
        rw [hoi] at ho; cases ho
      · rename_i o ho
        simp only [ho] at hh
        split
        · rename_i hw; simp only [hw, if_true] at hh; exact wp_weaken (fun a' w' hk => ⟨hk.1, H p _ a' w' (Still.next hfr hr hk.1) hB.1.2 hE.1 hk.2⟩) (fun _ _ _ h => h) hh
        · rename_i hw; simp only [hw] at hh
          refine H p _ _ _ ?_ hB.1.2 hE.1 hh
          rcases hS with h | h
          · exact .inl h
          · refine .inr fun k hk hkf => ?_
            have := h k hk hkf
            by_cases hik : i = k
            · subst hik
              rcases Nat.lt_or_ge i listed.size with h' | h'
              · simp [h']
              · simp
            · rw [getD_set_ne true hik]; exact this
    · exact alts_of_wpY hfr n H r false listed a w hS hB.2 hE.2 h.2 i hi hr

theorem yAny_of_wpY {fr : List Nat} (hfr : frees md ops fr = true) {Q : Act → World → Prop} (hs : Region.noSelect ops = true) : ∀ (n : Nat) (p : XP) (listed : Array Bool) (a : Act) (w : World), Still ops B w0 fr listed w →
    eagerY md ops fr p true listed = true → p.even n = true → wpY P ops B w0 fr Q p a w → yAny P md ops B w0 fr Q n listed a w
  | 0, .nil, _, _, _, _, hB, _, h => ⟨by simpa [eagerY] using hB, h⟩
  | 0, .q _ _, _, _, _, _, _, hE, _ => by simp [XP.even] at hE
  | 0, .alt _ _ _, _, _, _, _, _, hE, _ => by simp [XP.even] at hE
  | _, .stop, _, _, _, _, hB, _, _ => by simp [eagerY] at hB
  | n + 1, .nil, _, _, _, _, _, hE, _ => by simp [XP.even] at hE
  | n + 1, .alt k p r, listed, a, w, hS, hB, hE, h => by
    have hB' := hB
    simp only [eagerY, Bool.and_eq_true, Bool.not_true, Bool.false_or, beq_iff_eq] at hB'
    refine ⟨fun h0 => (by rw [h0] at hB'; cases hB'.1.1), fun i hi => ?_⟩
    have hi' := hi
    rw [hB'.1.1] at hi
    exact alts_of_wpY hfr n (fun p listed a w => yAny_of_wpY hfr hs n p listed a w) (.alt k p r) true listed a w hS hB hE h i hi hi'
  | n + 1, .q k p, listed, a, w, hS, hB, hE, h => by
    simp only [eagerY, Bool.and_eq_true, Bool.not_eq_true', Bool.true_and] at hB
    obtain ⟨⟨⟨hr, hf⟩, hfk⟩, hB'⟩ := hB
    obtain ⟨o, ho, v, hy, hK⟩ := h
    have hr' : k ∈ Region.ready md ops listed := by simpa using hr
    have hw0 : Below B w0 w := by
      rcases hS with h | h
      · exact h
      · have h1 := h k (Array.getElem?_eq_some_iff.1 ho).1 hfk
        rw [(mem_ready.1 hr').1] at h1
        cases h1
    exact yAny_first hfr ho (Region.noSelect_spec hs) hfk n listed a w (Region.free_spec ho hf) hr' hw0 hy (yAny_of_wpY hfr hs n p _ _ _ (.inl hw0) hB' (by simpa [XP.even] using hE) hK)

/-- The check of a plan, closed: by kernel_rfl. -/
def eagerYB (ops : Array Oper) (fr : List Nat) (p : XP) : Bool := Region.noSelect ops && p.even ops.size && frees .any ops fr && eagerY .any ops fr p true (Array.replicate ops.size false)

theorem wp_region_y {id : Nat} {Q : Exit → Act → World → Prop} {a : Act} {w : World} {ol : List Oper} (B : Nat) (fr : List Nat) (p : XP) (hm : P.follows .mixedOrders = true) (hB : eagerYB ol.toArray fr p = true)
    (h : wpY P ol.toArray B w fr (fun a' w' => Q .normal a' w') p a w.drew) : (Code.region id ol.toArray true).wp P Q a w := by
  simp only [eagerYB, Bool.and_eq_true] at hB
  obtain ⟨⟨⟨hs, he⟩, hfr⟩, hB⟩ := hB
  exact wp_region_any hm (wpAny_of_yAny (fr := fr) (Q := fun a' w' => Q .normal a' w') (fun _ _ h => h) _ _ _ _ (yAny_of_wpY hfr hs _ p _ a _ (.inl (Below.refl _ _).drew) hB he h))
/-- What stood when the region began stays. -/
theorem wp_region_e {id : Nat} {Q : Exit → Act → World → Prop} {a : Act} {w : World} {ol : List Oper} (fr : List Nat) (p : XP) (hm : P.follows .mixedOrders = true) (hB : eagerYB ol.toArray fr p = true)
    (h : wpY P ol.toArray w.heap.size w fr (fun a' w' => Q .normal a' w') p a w.drew) : (Code.region id ol.toArray true).wp P Q a w := wp_region_y w.heap.size fr p hm hB h

/-! ### The steps -/
variable {fr : List Nat}
theorem wpY_mono {Q Q' : Act → World → Prop} (hQ : ∀ a w, Q a w → Q' a w) : ∀ (p : XP) (a : Act) (w : World), wpY P ops B w0 fr Q p a w → wpY P ops B w0 fr Q' p a w
  | .nil, _, _, h => hQ _ _ h
  | .q _ p, _, _, ⟨o, ho, v, hy, h⟩ => ⟨o, ho, v, hy, wpY_mono hQ p _ _ h⟩
  | .alt _ p r, _, _, h => ⟨yOp_mono (fun a w h => wpY_mono hQ p a w h) h.1, wpY_mono hQ r _ _ h.2⟩
  | .stop, _, _, _ => trivial
/-- The ways meet: what holds behind the region. -/
theorem wpY_mid {Q : Act → World → Prop} {p : XP} {a : Act} {w : World} (M : Act → World → Prop) (h : wpY P ops B w0 fr M p a w) (hQ : ∀ a w, M a w → Q a w) : wpY P ops B w0 fr Q p a w := wpY_mono hQ p a w h

theorem wpY_midA {Q : Act → World → Prop} {p : XP} {a : Act} {w : World} (M : Act → Act → World → Prop) (h : wpY P ops B w0 fr (M a) p a w) (hQ : ∀ a' w', M a a' w' → Q a' w') : wpY P ops B w0 fr Q p a w := wpY_mono hQ p a w h

/-- The slots ds hold what v says. -/
def fill (v : Nat → Value) : List Nat → Act → Act
  | [], f => f
  | d :: ds, f => fill v ds (f.put (some d) (v d))
/-- Where the ways of a region meet: the frame is known but for the slots ds. -/
def Meets (ds : List Nat) (F : (Nat → Value) → World → Prop) (f a' : Act) (w' : World) : Prop := ∃ v, a' = fill v ds f ∧ F v w'
theorem Meets.mk {ds : List Nat} {F : (Nat → Value) → World → Prop} {f a' : Act} {w' : World} (h : a' = fill (fun i => a'.tmps.getD i undef) ds f) (hF : F (fun i => a'.tmps.getD i undef) w') : Meets ds F f a' w' := ⟨_, h, hF⟩

theorem wpY_nil {Q : Act → World → Prop} {a : Act} {w : World} (h : Q a w) : wpY P ops B w0 fr Q .nil a w := h
theorem wpY_stop {Q : Act → World → Prop} {a : Act} {w : World} : wpY P ops B w0 fr Q .stop a w := trivial
/-- A quiet operation that is not wanted. -/
theorem wpY_skip {Q : Act → World → Prop} {k : Nat} {p : XP} {a : Act} {w : World} {o : Oper} (ho : ops[k]? = some o) (hw : Region.wanted o (yielded ops a.tmps) = false)
    (h : wpY P ops B w0 fr Q p (a.put o.dst undef) w) : wpY P ops B w0 fr Q (.q k p) a w := ⟨o, ho, undef, .inr ⟨hw, rfl⟩, h⟩
/-- A firm operation: what it answers at every later world. -/
theorem wpY_q {Q : Act → World → Prop} {k : Nat} {p : XP} {a : Act} {w : World} {o : Oper} (ho : ops[k]? = some o) (hw : Region.wanted o (yielded ops a.tmps) = true) (v : Value)
    (hv : ∀ w', Below B w0 w' → (execOp a.eval o).run P w' = .ok (.value v) w') (h : wpY P ops B w0 fr Q p (a.put o.dst v) w) : wpY P ops B w0 fr Q (.q k p) a w := ⟨o, ho, v, .inl ⟨hw, fun w' hx => .inl (hv w' hx)⟩, h⟩
/-- A call that leaves the world alone. -/
theorem wpY_call {Q : Act → World → Prop} {k : Nat} {p : XP} {a : Act} {w : World} {o : Oper} (ho : ops[k]? = some o) (hw : Region.wanted o (yielded ops a.tmps) = true) (v : Value) (f : FuncId) (args : Array Value)
    (hv : ∀ w', (execOp a.eval o).run P w' = .ok (.enter f args) w') (hc : ∀ w', Below B w0 w' → Calls P f args w' (Ret v w')) (h : wpY P ops B w0 fr Q p (a.put o.dst v) w) : wpY P ops B w0 fr Q (.q k p) a w :=
  ⟨o, ho, v, .inl ⟨hw, fun w' hx => .inr (.inr ⟨f, args, hv w', hc w' hx⟩)⟩, h⟩
theorem yOp_l {Q : Act → World → Prop} {b : Bool} {k : Nat} {a : Act} {w : World} {o : Oper} (ho : ops[k]? = some o) (hw : Region.wanted o (yielded ops a.tmps) = true)
    (h : o.wp P a w (fun a' w' => (b = false → Below B w0 w') ∧ Q a' w') (fun _ _ _ => False)) : yOp P ops B w0 b k Q a w := by
  unfold yOp
  simp only [ho, hw, if_true]
  exact h
theorem yOp_skip {Q : Act → World → Prop} {b : Bool} {k : Nat} {a : Act} {w : World} {o : Oper} (ho : ops[k]? = some o) (hw : Region.wanted o (yielded ops a.tmps) = false) (h : Q (a.put o.dst undef) w) : yOp P ops B w0 b k Q a w := by
  unfold yOp
  simp only [ho, hw, Bool.false_eq_true, if_false]
  exact h
/-- The one loud operation. -/
theorem wpY_l {Q : Act → World → Prop} {k : Nat} {p : XP} {a : Act} {w : World} {o : Oper} (ho : ops[k]? = some o) (hw : Region.wanted o (yielded ops a.tmps) = true)
    (h : o.wp P a w (fun a' w' => (fr.contains k = false → Below B w0 w') ∧ wpY P ops B w0 fr Q p a' w') (fun _ _ _ => False)) : wpY P ops B w0 fr Q (.l k p) a w := ⟨yOp_l ho hw h, trivial⟩
theorem wpY_lskip {Q : Act → World → Prop} {k : Nat} {p : XP} {a : Act} {w : World} {o : Oper} (ho : ops[k]? = some o) (hw : Region.wanted o (yielded ops a.tmps) = false)
    (h : wpY P ops B w0 fr Q p (a.put o.dst undef) w) : wpY P ops B w0 fr Q (.l k p) a w := ⟨yOp_skip ho hw h, trivial⟩
/-- One of several loud operations. -/
theorem wpY_alt {Q : Act → World → Prop} {k : Nat} {p r : XP} {a : Act} {w : World} {o : Oper} (ho : ops[k]? = some o) (hw : Region.wanted o (yielded ops a.tmps) = true)
    (h : o.wp P a w (fun a' w' => (fr.contains k = false → Below B w0 w') ∧ wpY P ops B w0 fr Q p a' w') (fun _ _ _ => False)) (hr : wpY P ops B w0 fr Q r a w) : wpY P ops B w0 fr Q (.alt k p r) a w := ⟨yOp_l ho hw h, hr⟩

/-- &x[i] in a region: the cells of the element lie there. -/
theorem wpY_ix {Q : Act → World → Prop} {k : Nat} {l : XP} {a : Act} {w : World} {o : Oper} (ho : ops[k]? = some o) (hw : Region.wanted o (yielded ops a.tmps) = true) (xO iO : Operand) {t : TypeId}
    (hop : o.op = .indexAddr t xO iO) {e s b : Nat} {z : Value} (E : Elem P t e s b z) {p : Option Addr} {n c : Nat} {xs : List Value} (hx : a.eval xO = .slice p n c) (hr : ∀ w', Below B w0 w' → Row w' p n c s xs)
    (i : Nat) {kd : IntKind} {I : Int} (hi : a.eval iO = .int kd I) (hI : I = (i : Int)) (hin : i < n)
    (h : ∀ b' o', (∀ j, j < s → ∀ w', Below B w0 w' → w'.cell? ⟨b', o' + j, none⟩ = xs[i * s + j]?) → wpY P ops B w0 fr Q l (a.put o.dst (.pointer (some ⟨b', o', none⟩))) w) : wpY P ops B w0 fr Q (.q k l) a w := by
  have hr0 := hr w0 (Below.refl _ _)
  obtain ⟨b', o', rfl⟩ : ∃ b' o', p = some ⟨b', o', none⟩ := by
    cases p with
    | none => exact absurd (hr0.nil rfl) (by have := hr0.le; omega)
    | some q =>
      rcases hr0.at_ q rfl with h0 | ⟨b', o', rfl⟩
      · have := hr0.le; omega
      · exact ⟨b', o', rfl⟩
  refine wpY_q ho hw (.pointer (some ⟨b', o' + i * s, none⟩)) (fun w' hx' => ?_) (h b' (o' + i * s) ?_)
  · subst hI
    have hrun := run_indexAt_slice (P := P) (w := w') t ⟨b', o', none⟩ n c kd (i : Int) E.und'
    rw [if_pos (by omega), E.size] at hrun
    simp only [Result.andThen, Int.toNat_natCast, Addr.add_lit] at hrun
    simp [execOp, hop, hx, hi, hrun, Result.andThen]
  · intro j hj w' hx'
    have hlt : i * s + j < xs.length := by
      rw [hr0.len]
      have h1 : (i + 1) * s ≤ n * s := Nat.mul_le_mul_right s hin
      rw [Nat.add_mul, Nat.one_mul] at h1
      omega
    have := (hr w' hx').cell _ rfl (i * s + j) _ (List.getElem?_eq_getElem hlt)
    rw [Addr.add_lit, ← Nat.add_assoc] at this
    rw [this, List.getElem?_eq_getElem hlt]
/-- &x[i], the address alone: it is the same in every world. -/
theorem wpY_ixp {Q : Act → World → Prop} {k : Nat} {l : XP} {a : Act} {w : World} {o : Oper} (ho : ops[k]? = some o) (hw : Region.wanted o (yielded ops a.tmps) = true) (xO iO : Operand) {t : TypeId}
    (hop : o.op = .indexAddr t xO iO) {e s b : Nat} {z : Value} (E : Elem P t e s b z) {g n c : Nat} (hx : a.eval xO = .slice (some ⟨g, 0, none⟩) n c)
    (i : Nat) {kd : IntKind} {I : Int} (hi : a.eval iO = .int kd I) (hI : I = (i : Int)) (hin : i < n)
    (h : wpY P ops B w0 fr Q l (a.put o.dst (.pointer (some ⟨g, i * s, none⟩))) w) : wpY P ops B w0 fr Q (.q k l) a w := by
  refine wpY_q ho hw (.pointer (some ⟨g, i * s, none⟩)) (fun w' hx' => ?_) h
  subst hI
  have hrun := run_indexAt_slice (P := P) (w := w') t ⟨g, 0, none⟩ n c kd (i : Int) E.und'
  rw [if_pos (by omega), E.size] at hrun
  simp only [Result.andThen, Int.toNat_natCast, Addr.add_lit, Nat.zero_add] at hrun
  simp [execOp, hop, hx, hi, hrun, Result.andThen]
/-- A load of a struct. -/
theorem wpY_ld {Q : Act → World → Prop} {k : Nat} {l : XP} {a : Act} {w : World} {o : Oper} (ho : ops[k]? = some o) (hw : Region.wanted o (yielded ops a.tmps) = true) (xO : Operand) {ty : TypeId}
    (hop : o.op = .load ty xO) (b o' : Nat) (hx : a.eval xO = .pointer (some ⟨b, o', none⟩)) (cs : List Value) (d : TypeDesc) (hc : ∀ w', Below B w0 w' → w'.rangeAt b o' cs)
    (hu : P.underlying ty = some d) (hd : d.isRow = true) (hi : (P.info? ty).map (·.size) = some cs.length)
    (h : wpY P ops B w0 fr Q l (a.put o.dst (.agg cs.toArray)) w) : wpY P ops B w0 fr Q (.q k l) a w :=
  wpY_q ho hw (.agg cs.toArray) (fun w' hx' => by
    unfold execOp
    simp only [hop, hx, Instr.loadAt, Instr.sureAddr, Sem.run_bind, Sem.run_pure, Result.andThen_ok, run_loadVar_mid w' b o' ty cs d (hc w' hx') hu hd hi]) h

/-- x[l:l+m], x[l:], x[:h] in a region. -/
theorem wpY_sl {Q : Act → World → Prop} {k : Nat} {L : XP} {f : Act} {w : World} {o : Oper} (ho : ops[k]? = some o) (hw : Region.wanted o (yielded ops f.tmps) = true) (xO lO hO : Operand) {t : TypeId}
    (hop : o.op = .slice t xO (some lO) (some hO) none) {e s b : Nat} {z : Value} (E : Elem P t e s b z) {a : Option Addr} {n c : Nat} {xs : List Value} (hx : f.eval xO = .slice a n c) (hr : ∀ w', Below B w0 w' → Row w' a n c s xs)
    (l m : Nat) {kl kh : IntKind} {I H : Int} (hl : f.eval lO = .int kl I) (hh : f.eval hO = .int kh H) (hL : I = (l : Int)) (hH : H = (l : Int) + (m : Int)) (hhn : l + m ≤ n)
    (h : ∀ a', (∀ w', Below B w0 w' → Row w' a' m (c - l) s ((xs.drop (l * s)).take (m * s))) → wpY P ops B w0 fr Q L (f.put o.dst (.slice a' m (c - l))) w) : wpY P ops B w0 fr Q (.q k L) f w := by
  have hH' : H = ((l + m : Nat) : Int) := by omega
  subst hL hH'
  have hle := (hr w0 (Below.refl _ _)).le
  refine wpY_q ho hw (.slice (subA a l c s) m (c - l)) (fun w' _ => ?_) (h _ fun w' hw' => ?_)
  · have e := run_sl (w := w') E a n c kl kh l (l + m) (by omega) (by omega)
    rw [show l + m - l = m by omega] at e
    simp only [execOp, hop, hx, hl, hh, Instr.sliceAt, Option.map_some, Option.map_none, Sem.run_bind, run_underlying E.und, Result.andThen_ok, e, Sem.run_pure]
  · have hs := (hr w' hw').sub l (l + m) (by omega) hhn
    rwa [show l + m - l = m by omega] at hs
theorem wpY_sl_lo {Q : Act → World → Prop} {k : Nat} {L : XP} {f : Act} {w : World} {o : Oper} (ho : ops[k]? = some o) (hw : Region.wanted o (yielded ops f.tmps) = true) (xO lO : Operand) {t : TypeId}
    (hop : o.op = .slice t xO (some lO) none none) {e s b : Nat} {z : Value} (E : Elem P t e s b z) {a : Option Addr} {n c : Nat} {xs : List Value} (hx : f.eval xO = .slice a n c) (hr : ∀ w', Below B w0 w' → Row w' a n c s xs)
    (l : Nat) {kl : IntKind} {I : Int} (hl : f.eval lO = .int kl I) (hL : I = (l : Int)) (hlh : l ≤ n)
    (h : ∀ a', (∀ w', Below B w0 w' → Row w' a' (n - l) (c - l) s (xs.drop (l * s))) → wpY P ops B w0 fr Q L (f.put o.dst (.slice a' (n - l) (c - l))) w) : wpY P ops B w0 fr Q (.q k L) f w := by
  subst hL
  refine wpY_q ho hw (.slice (subA a l c s) (n - l) (c - l)) (fun w' _ => ?_) (h _ fun w' hw' => ?_)
  · simp [execOp, hop, hx, hl, Instr.sliceAt, run_underlying E.und, run_sl_lo E a n c kl l hlh, Result.andThen]
  · have h := (hr w' hw').sub l n hlh (Nat.le_refl _)
    rwa [List.take_of_length_le (by rw [List.length_drop, (hr w' hw').len, Nat.sub_mul]; omega)] at h
theorem wpY_sl_hi {Q : Act → World → Prop} {k : Nat} {L : XP} {f : Act} {w : World} {o : Oper} (ho : ops[k]? = some o) (hw : Region.wanted o (yielded ops f.tmps) = true) (xO hO : Operand) {t : TypeId}
    (hop : o.op = .slice t xO none (some hO) none) {e s b : Nat} {z : Value} (E : Elem P t e s b z) {a : Option Addr} {n c : Nat} {xs : List Value} (hx : f.eval xO = .slice a n c) (hr : ∀ w', Below B w0 w' → Row w' a n c s xs)
    (h : Nat) {kh : IntKind} {H : Int} (hh : f.eval hO = .int kh H) (hH : H = (h : Int)) (hhn : h ≤ n)
    (hk : ∀ a', (∀ w', Below B w0 w' → Row w' a' h c s (xs.take (h * s))) → wpY P ops B w0 fr Q L (f.put o.dst (.slice a' h c)) w) : wpY P ops B w0 fr Q (.q k L) f w := by
  subst hH
  have hle := (hr w0 (Below.refl _ _)).le
  refine wpY_q ho hw (.slice (subA a 0 c s) h c) (fun w' _ => ?_) (hk _ fun w' hw' => ?_)
  · simp [execOp, hop, hx, hh, Instr.sliceAt, run_underlying E.und, run_sl_hi E a n c kh h (by omega), Result.andThen]
  · have h := (hr w' hw').sub 0 h (Nat.zero_le _) hhn
    simpa using h

/-! ### Laws of single operations that make memory -/
theorem owp_app {w : World} {o : Oper} {f : Act} {K : Act → World → Prop} {Q : Exit → Act → World → Prop} (sO xO : Operand) {t : TypeId}
    (ho : o.op = .call { callee := .builtin .append, args := #[sO, xO], argTypes := #[t, t] })
    {e s b : Nat} {z : Value} (E : Elem P t e s b z) {D : Nat} {a : Option Addr} {n c : Nat} {xs : List Value} (hs : f.eval sO = .slice a n c) (hown : w.ownsRow D e s (.slice a n c) n xs)
    {xa : Option Addr} {m xc : Nat} {news : List Value} (hx : f.eval xO = .slice xa m xc) (hrow : Row w xa m xc s news) (h1 : ∀ u ∈ news, u.oneCell' = true)
    (hb : (n + m) * b ≤ 140737488355328) (hm : n + m ≤ maxLen) (hD : D ≤ w.heap.size)
    (h : ∀ a' c' w', w'.ownsRow D e s (.slice a' (n + m) c') (n + m) (xs ++ news) → w.grownBy w' (blockOf a) → K (f.put o.dst (.slice a' (n + m) c')) w') : o.wp P f w K Q := by
  obtain ⟨a', c', w', hr, h2, h3⟩ := run_app E o.type hown hrow h1 hb hm hD
  unfold Oper.wp execOp
  simp only [ho, resolve, invoke, builtin, Sem.run_bind, Sem.run_pure, Result.andThen_ok, List.map_toArray, List.map_cons, List.map_nil, hs, hx, hr]
  exact h _ _ _ h2 h3
theorem owp_clone {w : World} {o : Oper} {f : Act} {K : Act → World → Prop} {Q : Exit → Act → World → Prop} (sO xO : Operand) {t : TypeId}
    (ho : o.op = .call { callee := .builtin .append, args := #[sO, xO], argTypes := #[t, t] })
    {e s b : Nat} {z : Value} (E : Elem P t e s b z) (hs : f.eval sO = .slice none 0 0)
    {xa : Option Addr} {m xc : Nat} {news : List Value} (hx : f.eval xO = .slice xa m xc) (hrow : Row w xa m xc s news) (h1 : ∀ u ∈ news, u.oneCell' = true)
    (hb : m * b ≤ 140737488355328)
    (h : ∀ a' c' w', w'.ownsRow w.heap.size e s (.slice a' m c') m news → Ext w w' → K (f.put o.dst (.slice a' m c')) w') : o.wp P f w K Q :=
  owp_app sO xO ho E hs (own_nil w w.heap.size e s) hx hrow h1 (by simpa using hb) (by have := hrow.le; have := hrow.max; omega) (Nat.le_refl _)
    (fun a' c' w' h2 h3 => by simpa using h a' c' w' (by simpa using h2) (Ext.of_grown h3))
/-- A law of an operation in a plain region, guarded or not. -/
theorem wpList_of_wp {rest : List Oper} {o : Oper} {a : Act} {w : World} {Q : Exit → Act → World → Prop} (hw : Region.wanted o (yielded ops a.tmps) = true) (h : o.wp P a w (wpList P ops Q rest) Q) : wpList P ops Q (o :: rest) a w :=
  wpList_step fun K hK => by rw [if_pos hw]; exact wp_weaken hK (fun _ _ _ h => h) h
theorem owp_sl_hi {w : World} {o : Oper} {f : Act} {K : Act → World → Prop} {Q : Exit → Act → World → Prop} (xO hO : Operand) {t : TypeId}
    (ho : o.op = .slice t xO none (some hO) none) {e s b : Nat} {z : Value} (E : Elem P t e s b z) {a : Option Addr} {n c : Nat} {xs : List Value} (hx : f.eval xO = .slice a n c) (hr : Row w a n c s xs)
    (h : Nat) {kh : IntKind} {H : Int} (hh : f.eval hO = .int kh H) (hH : H = (h : Int)) (hhn : h ≤ n)
    (hk : ∀ a', Row w a' h c s (xs.take (h * s)) → K (f.put o.dst (.slice a' h c)) w) : o.wp P f w K Q := by
  subst hH
  unfold Oper.wp
  simp [execOp, ho, hx, hh, Instr.sliceAt, run_underlying E.und, run_sl_hi E a n c kh h (by have := hr.le; omega), Result.andThen]
  refine hk _ ?_
  have h := hr.sub 0 h (Nat.zero_le _) hhn
  simpa using h
theorem owp_sl_lo {w : World} {o : Oper} {f : Act} {K : Act → World → Prop} {Q : Exit → Act → World → Prop} (xO lO : Operand) {t : TypeId}
    (ho : o.op = .slice t xO (some lO) none none) {e s b : Nat} {z : Value} (E : Elem P t e s b z) {a : Option Addr} {n c : Nat} {xs : List Value} (hx : f.eval xO = .slice a n c) (hr : Row w a n c s xs)
    (l : Nat) {kl : IntKind} {L : Int} (hl : f.eval lO = .int kl L) (hL : L = (l : Int)) (hlh : l ≤ n)
    (hk : ∀ a', Row w a' (n - l) (c - l) s (xs.drop (l * s)) → K (f.put o.dst (.slice a' (n - l) (c - l))) w) : o.wp P f w K Q := by
  subst hL
  unfold Oper.wp
  simp [execOp, ho, hx, hl, Instr.sliceAt, run_underlying E.und, run_sl_lo E a n c kl l hlh, Result.andThen]
  refine hk _ ?_
  have h := hr.sub l n hlh (Nat.le_refl _)
  rwa [List.take_of_length_le (by rw [List.length_drop, hr.len, Nat.sub_mul]; omega)] at h
theorem owp_sl_lh {w : World} {o : Oper} {f : Act} {K : Act → World → Prop} {Q : Exit → Act → World → Prop} (xO lO hO : Operand) {t : TypeId}
    (ho : o.op = .slice t xO (some lO) (some hO) none) {e s b : Nat} {z : Value} (E : Elem P t e s b z) {a : Option Addr} {n c : Nat} {xs : List Value} (hx : f.eval xO = .slice a n c) (hr : Row w a n c s xs)
    (l m : Nat) {kl kh : IntKind} {L H : Int} (hl : f.eval lO = .int kl L) (hh : f.eval hO = .int kh H) (hL : L = (l : Int)) (hH : H = (l : Int) + (m : Int)) (hhn : l + m ≤ n)
    (hk : ∀ a', Row w a' m (c - l) s ((xs.drop (l * s)).take (m * s)) → K (f.put o.dst (.slice a' m (c - l))) w) : o.wp P f w K Q := by
  have hH' : H = ((l + m : Nat) : Int) := by omega
  subst hL hH'
  have e := run_sl (w := w) E a n c kl kh l (l + m) (by omega) (by have := hr.le; omega)
  have hs := hr.sub l (l + m) (by omega) hhn
  rw [show l + m - l = m by omega] at e hs
  unfold Oper.wp
  simp only [execOp, ho, hx, hl, hh, Instr.sliceAt, Option.map_some, Option.map_none, Sem.run_bind, run_underlying E.und, Result.andThen_ok, e]
  exact hk _ hs
/-- string(b) -/
theorem owp_conv {w : World} {o : Oper} {f : Act} {K : Act → World → Prop} {Q : Exit → Act → World → Prop} (xO : Operand) {src dst : TypeId} (ho : o.op = .convert src dst xO) {a : Option Addr} {n c : Nat} {l : List UInt8} (hx : f.eval xO = .slice a n c) (hb : Bytes w a n c l)
    {e : TypeId} (hs : P.underlying src = some (.slice e)) (he : P.underlying e = some (.int .u8)) (hd : P.underlying dst = some .string) (h : K (f.put o.dst (.string ⟨l.toArray⟩)) w) : o.wp P f w K Q := by
  unfold Oper.wp execOp
  simp only [ho, hx, hb.conv src e dst hs he hd, Sem.run_bind, Sem.run_pure, Result.andThen_ok]
  exact h
end
end Go.Proofs.YtejljmikammcdaaGreatDoor
/-
  The walk of a region by a plan, over any notion of a later world (R).
-/
namespace Go.Proofs.YtejljmikammcdaaGreatDoor
open Go.RowKit

section
variable {P : Program} {ops : Array Oper} {md : Region.Mode}

/-- One operation; what stood below block B in the world w0 stays, unless the operation is free to change it. -/
def zOp (P : Program) (ops : Array Oper) (R : World → Prop) (fr : Bool) (i : Nat) (K : Act → World → Prop) (a : Act) (w : World) : Prop :=
  match ops[i]? with
  | none => K a w
  | some o => if Region.wanted o (yielded ops a.tmps) then o.wp P a w (fun a' w' => (fr = false → R w') ∧ K a' w') (fun _ _ _ => False) else K (a.put o.dst undef) w

variable {R : World → Prop}
theorem zOp_mono {fr : Bool} {i : Nat} {a : Act} {w : World} {K K' : Act → World → Prop} (h : ∀ a w, K a w → K' a w) (hh : zOp P ops R fr i K a w) : zOp P ops R fr i K' a w := by
  unfold zOp at *
  split
  · rename_i ho; simp only [ho] at hh; exact h _ _ hh
  · rename_i o ho
    simp only [ho] at hh
    split
    · rename_i hw; simp only [hw, if_true] at hh; exact wp_weaken (fun a w hk => ⟨hk.1, h _ _ hk.2⟩) (fun _ _ _ h => h) hh
    · rename_i hw; simp only [hw] at hh; exact h _ _ hh
theorem zOp_mono' {fr : Bool} {i : Nat} {a : Act} {w : World} {K K' : Act → World → Prop} (hw0 : R w) (h : ∀ a w, (fr = false → R w) → K a w → K' a w) (hh : zOp P ops R fr i K a w) : zOp P ops R fr i K' a w := by
  unfold zOp at *
  split
  · rename_i ho; simp only [ho] at hh; exact h _ _ (fun _ => hw0) hh
  · rename_i o ho
    simp only [ho] at hh
    split
    · rename_i hw; simp only [hw, if_true] at hh; exact wp_weaken (fun a w hk => ⟨hk.1, h _ _ hk.1 hk.2⟩) (fun _ _ _ h => h) hh
    · rename_i hw; simp only [hw] at hh; exact h _ _ (fun _ => hw0) hh
theorem wpOp_of_zOp {fr : Bool} {i : Nat} {a : Act} {w : World} {K K' : Act → World → Prop} {Q : Exit → Act → World → Prop} (h : ∀ a w, K a w → K' a w) (hh : zOp P ops R fr i K a w) : wpOp P ops Q i K' a w := by
  unfold zOp at hh
  unfold wpOp
  split
  · rename_i ho; simp only [ho] at hh; exact h _ _ hh
  · rename_i o ho
    simp only [ho] at hh
    split
    · rename_i hw; simp only [hw, if_true] at hh; exact .inl (wp_weaken (fun a w hk => h _ _ hk.2) (fun _ _ _ h => h.elim) hh)
    · rename_i hw; simp only [hw] at hh; exact h _ _ hh

/-- The operation answers v at every world like w0 below B. -/
def FirmZ (P : Program) (ops : Array Oper) (R : World → Prop) (o : Oper) (v : Value) (a : Act) : Prop :=
  (Region.wanted o (yielded ops a.tmps) = true ∧ ∀ w', R w' → Gives P o a w' v) ∨ (Region.wanted o (yielded ops a.tmps) = false ∧ v = undef)

theorem FirmZ.zOp {w : World} {b : Bool} {i : Nat} {o : Oper} {v : Value} {a : Act} (hi : ops[i]? = some o) (hy : FirmZ P ops R o v a) (hw0 : R w) {K : Act → World → Prop} (h : K (a.put o.dst v) w) : zOp P ops R b i K a w := by
  unfold Proofs.YtejljmikammcdaaGreatDoor.zOp
  simp only [hi]
  rcases hy with ⟨hw, hv⟩ | ⟨hw, rfl⟩
  · rw [if_pos hw]
    unfold Oper.wp
    rcases hv w hw0 with h1 | ⟨h1, h2⟩ | ⟨f, args, h1, hc⟩
    · rw [h1]; exact ⟨fun _ => hw0, h⟩
    · rw [h1]; subst h2; exact ⟨fun _ => hw0, h⟩
    · rw [h1]
      exact hc.mono fun e w'' ⟨he, hww⟩ => by subst he; subst hww; exact ⟨fun _ => hw0, h⟩
  · simp only [hw, Bool.false_eq_true, if_false]; exact h

theorem FirmZ.of_same {o : Oper} {v : Value} {a a' : Act} (hy : FirmZ P ops R o v a) (he : execOp a'.eval o = execOp a.eval o)
    (hw : Region.wanted o (yielded ops a'.tmps) = Region.wanted o (yielded ops a.tmps)) : FirmZ P ops R o v a' := by
  unfold FirmZ Gives at *
  rw [he, hw]
  exact hy

theorem zOp_put {w : World} {b : Bool} {j : Nat} {oi oj : Oper} {v : Value} (hj : ops[j]? = some oj) (hap : oi.apart ops oj = true)
    (hsi : ∀ cs b, oi.op ≠ .select cs b) (hsj : ∀ cs b, oj.op ≠ .select cs b) {K : Act → World → Prop} {a : Act}
    (hy : FirmZ P ops R oi v a) (h : zOp P ops R b j K (a.put oi.dst v) w) :
    zOp P ops R b j (fun a' w' => FirmZ P ops R oi v a' ∧ K (a'.put oi.dst v) w') a w := by
  obtain ⟨h1, h2, h3⟩ := Oper.apart_spec hap
  have keep : ∀ u, FirmZ P ops R oi v (a.put oj.dst u) := fun u =>
    hy.of_same (execOp_put oi hsi a oj.dst u h3) (wanted_put oi a oj.dst u h3)
  have keepD : ∀ d u, FirmZ P ops R oi v (({ a with defers := d :: a.defers } : Act).put oj.dst u) := fun d u =>
    (show FirmZ P ops R oi v { a with defers := d :: a.defers } from hy).of_same (execOp_put oi hsi _ oj.dst u h3) (wanted_put oi _ oj.dst u h3)
  unfold zOp at *
  simp only [hj] at *
  rw [wanted_put oj a oi.dst v h1] at h
  split
  · rename_i hw
    simp only [hw, if_true] at h
    unfold Oper.wp at *
    rw [execOp_put oj hsj a oi.dst v h1] at h
    generalize (execOp a.eval oj).run P w = r at *
    cases r with
    | ok n w' =>
      cases n <;> simp only [Oper.upon] at h ⊢
      case value u => exact ⟨h.1, keep u, by rw [← Act.put_comm a v u h2]; exact h.2⟩
      case skip => exact ⟨h.1, keep _, by rw [← Act.put_comm a v undef h2]; exact h.2⟩
      case defer d =>
        rw [Act.put_defers, Act.put_comm _ v undef h2] at h
        exact ⟨h.1, keepD d _, h.2⟩
      case enter f args =>
        refine h.mono fun e w'' he => ?_
        cases e with
        | returned u => exact ⟨he.1, keep u, by rw [← Act.put_comm a v u h2]; exact he.2⟩
        | panicked c => exact he
        | outgrown => exact he
      case row r args =>
        exact h.mono fun u w'' he => ⟨he.1, keep u, by rw [← Act.put_comm a v u h2]; exact he.2⟩
    | halt x w' => cases x <;> simp only [Oper.upon] at h ⊢ <;> exact h
  · rename_i hw
    simp only [hw] at h
    exact ⟨keep _, by rw [← Act.put_comm a v undef h2]; exact h⟩

/-- Any order; the operations of fr are free to change what they like. -/
def zAny (P : Program) (md : Region.Mode) (ops : Array Oper) (R : World → Prop) (fr : List Nat) (Q : Act → World → Prop) : Nat → Array Bool → Act → World → Prop
  | 0, listed, a, w => Region.ready md ops listed = [] ∧ Q a w
  | fuel + 1, listed, a, w => (Region.ready md ops listed = [] → Q a w) ∧ ∀ i ∈ Region.ready md ops listed, zOp P ops R (fr.contains i) i (zAny P md ops R fr Q fuel (listed.setIfInBounds i true)) a w

theorem wpAny_of_zAny {fr : List Nat} {Q : Act → World → Prop} {Q' : Exit → Act → World → Prop} (hQ : ∀ a w, Q a w → Q' .normal a w) : ∀ (fuel : Nat) (listed : Array Bool) (a : Act) (w : World),
    zAny P md ops R fr Q fuel listed a w → wpAny P md ops Q' fuel listed a w
  | 0, _, _, _, h => ⟨h.1, hQ _ _ h.2⟩
  | fuel + 1, _, _, _, h => ⟨fun h0 => hQ _ _ (h.1 h0), fun i hi => wpOp_of_zOp (fun a' w' => wpAny_of_zAny hQ fuel _ a' w') (h.2 i hi)⟩

theorem zAny_first {fr : List Nat} (hfr : frees md ops fr = true) {Q : Act → World → Prop} {i : Nat} {oi : Oper} {v : Value} (hi : ops[i]? = some oi) (hsel : ∀ (j : Nat) (o : Oper) cs b, ops[j]? = some o → o.op ≠ .select cs b)
    (hif : fr.contains i = false) :
    ∀ (fuel : Nat) (listed : Array Bool) (a : Act) (w : World),
      (∀ j oj, ops[j]? = some oj → j ≠ i → listed.getD j true = false → (∀ e ∈ oj.after, Region.binds md e = true → e.on ≠ i) → oi.apart ops oj = true) →
      i ∈ Region.ready md ops listed → R w → FirmZ P ops R oi v a →
      zAny P md ops R fr Q fuel (listed.setIfInBounds i true) (a.put oi.dst v) w → zAny P md ops R fr Q (fuel + 1) listed a w := by
  intro fuel
  induction fuel with
  | zero =>
    intro listed a w _ hr hw0 hy H
    refine ⟨fun h => (by rw [h] at hr; cases hr), fun j hj => ?_⟩
    by_cases hji : j = i
    · subst hji; exact hy.zOp hi hw0 H
    · have := ready_mono hj hji
      rw [H.1] at this
      cases this
  | succ fuel ih =>
    intro listed a w hfree hr hw0 hy H
    refine ⟨fun h => (by rw [h] at hr; cases hr), fun j hj => ?_⟩
    by_cases hji : j = i
    · subst hji; exact hy.zOp hi hw0 H
    · have h1 := H.2 j (ready_mono hj hji)
      obtain ⟨hjun, oj, hoj, hall⟩ := mem_ready.1 hj
      have hnot : ∀ e ∈ oj.after, Region.binds md e = true → e.on ≠ i := fun e he hb heq => by
        have h1 := hall e he hb
        have h0 := (mem_ready.1 hr).1
        rw [heq] at h1
        rcases Nat.lt_or_ge i listed.size with h' | h'
        · simp [h'] at h0 h1; rw [h0] at h1; cases h1
        · simp [Array.getElem?_eq_none h'] at h1
      have hjf : fr.contains j = false := by
        rw [Bool.eq_false_iff]
        intro hc
        obtain ⟨e, he, hb, heq⟩ := frees_spec hfr (List.contains_iff_mem.1 hc) (Array.getElem?_eq_some_iff.1 hi).1 hif hoj
        exact hnot e he hb heq
      have hap := hfree j oj hoj hji hjun hnot
      have hfree' : ∀ k ok, ops[k]? = some ok → k ≠ i → (listed.setIfInBounds j true).getD k true = false →
          (∀ e ∈ ok.after, Region.binds md e = true → e.on ≠ i) → oi.apart ops ok = true := fun k ok hk hki hun hno => by
        refine hfree k ok hk hki ?_ hno
        by_cases hjk : j = k
        · subst hjk; exact hjun
        · rw [getD_set_ne true hjk] at hun; exact hun
      have h2 := zOp_put hoj hap (fun cs b => hsel i oi cs b hi) (fun cs b => hsel j oj cs b hoj) hy h1
      refine zOp_mono' hw0 (fun a' w' hb h3 => ih (listed.setIfInBounds j true) a' w' hfree' (ready_mono hr (Ne.symm hji)) (hb hjf) h3.1 ?_) h2
      rw [Array.setIfInBounds_comm _ _ hji]
      exact h3.2

/-- The walk by that plan. -/
def wpZ (P : Program) (ops : Array Oper) (R : World → Prop) (fr : List Nat) (Q : Act → World → Prop) : XP → Act → World → Prop
  | .nil, a, w => Q a w
  | .q k p, a, w => ∃ o, ops[k]? = some o ∧ ∃ v, FirmZ P ops R o v a ∧ wpZ P ops R fr Q p (a.put o.dst v) w
  | .alt k p r, a, w => zOp P ops R (fr.contains k) k (wpZ P ops R fr Q p) a w ∧ wpZ P ops R fr Q r a w
  | .stop, _, _ => True

/-- The world is like w0 below B, or nothing is left that cares. -/
def StillZ (ops : Array Oper) (R : World → Prop) (fr : List Nat) (listed : Array Bool) (w : World) : Prop :=
  R w ∨ ∀ i, i < ops.size → fr.contains i = false → listed.getD i true = true
theorem StillZ.next {fr : List Nat} (hfr : frees md ops fr = true) {listed : Array Bool} {w' : World} {i : Nat} (hr : i ∈ Region.ready md ops listed) (hb : fr.contains i = false → R w') :
    StillZ ops R fr (listed.setIfInBounds i true) w' := by
  by_cases hf : fr.contains i = true
  · right
    intro k hk hkf
    obtain ⟨hun, oi, hoi, hall⟩ := mem_ready.1 hr
    obtain ⟨e, he, hb, rfl⟩ := frees_spec hfr (List.contains_iff_mem.1 hf) hk hkf hoi
    have h1 := hall e he hb
    rcases Nat.lt_or_ge e.on listed.size with h' | h'
    · by_cases hei : i = e.on
      · subst hei; simp [h']
      · rw [getD_set_ne true hei]; simp [h'] at h1 ⊢; exact h1
    · simp [Array.getElem?_eq_none h'] at h1
  · exact .inl (hb (by simpa using hf))

theorem alts_of_wpZ {fr : List Nat} (hfr : frees md ops fr = true) {Q : Act → World → Prop} (n : Nat) (H : ∀ (p : XP) (listed : Array Bool) (a : Act) (w : World), StillZ ops R fr listed w → eagerY md ops fr p true listed = true → p.even n = true → wpZ P ops R fr Q p a w → zAny P md ops R fr Q n listed a w) :
    ∀ (r : XP) (top : Bool) (listed : Array Bool) (a : Act) (w : World), StillZ ops R fr listed w → eagerY md ops fr r top listed = true → r.even (n + 1) = true → wpZ P ops R fr Q r a w → ∀ i ∈ r.keys, i ∈ Region.ready md ops listed → zOp P ops R (fr.contains i) i (zAny P md ops R fr Q n (listed.setIfInBounds i true)) a w
  | .nil, _, _, _, _, _, _, _, _, _, hi, _ => by cases hi
  | .q _ _, _, _, _, _, _, _, _, _, _, hi, _ => by cases hi
  | .stop, _, _, _, _, _, _, _, _, _, hi, _ => by cases hi
  | .alt k p r, top, listed, a, w, hS, hB, hE, h, i, hi, hr => by
    simp only [eagerY, Bool.and_eq_true] at hB
    simp only [XP.even, Bool.and_eq_true] at hE
    simp only [XP.keys, List.mem_cons] at hi
    rcases hi with rfl | hi
    · have hh := h.1
      unfold zOp at hh ⊢
      split
      · rename_i ho; simp only [ho] at hh
        obtain ⟨-, oi, hoi, -⟩ := mem_ready.1 hr
        rw [hoi] at ho; cases ho
      · rename_i o ho
        simp only [ho] at hh
        split
        · rename_i hw; simp only [hw, if_true] at hh; exact wp_weaken (fun a' w' hk => ⟨hk.1, H p _ a' w' (StillZ.next hfr hr hk.1) hB.1.2 hE.1 hk.2⟩) (fun _ _ _ h => h) hh
        · rename_i hw; simp only [hw] at hh
          refine H p _ _ _ ?_ hB.1.2 hE.1 hh
          rcases hS with h | h
          · exact .inl h
          · refine .inr fun k hk hkf => ?_
            have := h k hk hkf
            by_cases hik : i = k
            · subst hik
              rcases Nat.lt_or_ge i listed.size with h' | h'
              · simp [h']
              · simp
            · rw [getD_set_ne true hik]; exact this
    · exact alts_of_wpZ hfr n H r false listed a w hS hB.2 hE.2 h.2 i hi hr

theorem zAny_of_wpZ {fr : List Nat} (hfr : frees md ops fr = true) {Q : Act → World → Prop} (hs : Region.noSelect ops = true) : ∀ (n : Nat) (p : XP) (listed : Array Bool) (a : Act) (w : World), StillZ ops R fr listed w →
    eagerY md ops fr p true listed = true → p.even n = true → wpZ P ops R fr Q p a w → zAny P md ops R fr Q n listed a w
  | 0, .nil, _, _, _, _, hB, _, h => ⟨by simpa [eagerY] using hB, h⟩
  | 0, .q _ _, _, _, _, _, _, hE, _ => by simp [XP.even] at hE
  | 0, .alt _ _ _, _, _, _, _, _, hE, _ => by simp [XP.even] at hE
  | _, .stop, _, _, _, _, hB, _, _ => by simp [eagerY] at hB
  | n + 1, .nil, _, _, _, _, _, hE, _ => by simp [XP.even] at hE
  | n + 1, .alt k p r, listed, a, w, hS, hB, hE, h => by
    have hB' := hB
    simp only [eagerY, Bool.and_eq_true, Bool.not_true, Bool.false_or, beq_iff_eq] at hB'
    refine ⟨fun h0 => (by rw [h0] at hB'; cases hB'.1.1), fun i hi => ?_⟩
    have hi' := hi
    rw [hB'.1.1] at hi
    exact alts_of_wpZ hfr n (fun p listed a w => zAny_of_wpZ hfr hs n p listed a w) (.alt k p r) true listed a w hS hB hE h i hi hi'
  | n + 1, .q k p, listed, a, w, hS, hB, hE, h => by
    simp only [eagerY, Bool.and_eq_true, Bool.not_eq_true', Bool.true_and] at hB
    obtain ⟨⟨⟨hr, hf⟩, hfk⟩, hB'⟩ := hB
    obtain ⟨o, ho, v, hy, hK⟩ := h
    have hr' : k ∈ Region.ready md ops listed := by simpa using hr
    have hw0 : R w := by
      rcases hS with h | h
      · exact h
      · have h1 := h k (Array.getElem?_eq_some_iff.1 ho).1 hfk
        rw [(mem_ready.1 hr').1] at h1
        cases h1
    exact zAny_first hfr ho (Region.noSelect_spec hs) hfk n listed a w (Region.free_spec ho hf) hr' hw0 hy (zAny_of_wpZ hfr hs n p _ _ _ (.inl hw0) hB' (by simpa [XP.even] using hE) hK)

theorem wp_region_z {id : Nat} {Q : Exit → Act → World → Prop} {a : Act} {w : World} {ol : List Oper} (R : World → Prop) (hR : R w.drew) (fr : List Nat) (p : XP) (hm : P.follows .mixedOrders = true) (hB : eagerYB ol.toArray fr p = true)
    (h : wpZ P ol.toArray R fr (fun a' w' => Q .normal a' w') p a w.drew) : (Code.region id ol.toArray true).wp P Q a w := by
  simp only [eagerYB, Bool.and_eq_true] at hB
  obtain ⟨⟨⟨hs, he⟩, hfr⟩, hB⟩ := hB
  exact wp_region_any hm (wpAny_of_zAny (fr := fr) (Q := fun a' w' => Q .normal a' w') (fun _ _ h => h) _ _ _ _ (zAny_of_wpZ hfr hs _ p _ a _ (.inl hR) hB he h))

/-! ### The steps -/
variable {fr : List Nat}
theorem wpZ_mono {Q Q' : Act → World → Prop} (hQ : ∀ a w, Q a w → Q' a w) : ∀ (p : XP) (a : Act) (w : World), wpZ P ops R fr Q p a w → wpZ P ops R fr Q' p a w
  | .nil, _, _, h => hQ _ _ h
  | .q _ p, _, _, ⟨o, ho, v, hy, h⟩ => ⟨o, ho, v, hy, wpZ_mono hQ p _ _ h⟩
  | .alt _ p r, _, _, h => ⟨zOp_mono (fun a w h => wpZ_mono hQ p a w h) h.1, wpZ_mono hQ r _ _ h.2⟩
  | .stop, _, _, _ => trivial
/-- The ways meet: what holds behind the region. -/
theorem wpZ_mid {Q : Act → World → Prop} {p : XP} {a : Act} {w : World} (M : Act → World → Prop) (h : wpZ P ops R fr M p a w) (hQ : ∀ a w, M a w → Q a w) : wpZ P ops R fr Q p a w := wpZ_mono hQ p a w h

theorem wpZ_midA {Q : Act → World → Prop} {p : XP} {a : Act} {w : World} (M : Act → Act → World → Prop) (h : wpZ P ops R fr (M a) p a w) (hQ : ∀ a' w', M a a' w' → Q a' w') : wpZ P ops R fr Q p a w := wpZ_mono hQ p a w h

theorem wpZ_nil {Q : Act → World → Prop} {a : Act} {w : World} (h : Q a w) : wpZ P ops R fr Q .nil a w := h
theorem wpZ_stop {Q : Act → World → Prop} {a : Act} {w : World} : wpZ P ops R fr Q .stop a w := trivial
/-- A quiet operation that is not wanted. -/
theorem wpZ_skip {Q : Act → World → Prop} {k : Nat} {p : XP} {a : Act} {w : World} {o : Oper} (ho : ops[k]? = some o) (hw : Region.wanted o (yielded ops a.tmps) = false)
    (h : wpZ P ops R fr Q p (a.put o.dst undef) w) : wpZ P ops R fr Q (.q k p) a w := ⟨o, ho, undef, .inr ⟨hw, rfl⟩, h⟩
/-- A firm operation: what it answers at every later world. -/
theorem wpZ_q {Q : Act → World → Prop} {k : Nat} {p : XP} {a : Act} {w : World} {o : Oper} (ho : ops[k]? = some o) (hw : Region.wanted o (yielded ops a.tmps) = true) (v : Value)
    (hv : ∀ w', R w' → (execOp a.eval o).run P w' = .ok (.value v) w') (h : wpZ P ops R fr Q p (a.put o.dst v) w) : wpZ P ops R fr Q (.q k p) a w := ⟨o, ho, v, .inl ⟨hw, fun w' hx => .inl (hv w' hx)⟩, h⟩
/-- A call that leaves the world alone. -/
theorem wpZ_call {Q : Act → World → Prop} {k : Nat} {p : XP} {a : Act} {w : World} {o : Oper} (ho : ops[k]? = some o) (hw : Region.wanted o (yielded ops a.tmps) = true) (v : Value) (f : FuncId) (args : Array Value)
    (hv : ∀ w', (execOp a.eval o).run P w' = .ok (.enter f args) w') (hc : ∀ w', R w' → Calls P f args w' (Ret v w')) (h : wpZ P ops R fr Q p (a.put o.dst v) w) : wpZ P ops R fr Q (.q k p) a w :=
  ⟨o, ho, v, .inl ⟨hw, fun w' hx => .inr (.inr ⟨f, args, hv w', hc w' hx⟩)⟩, h⟩
theorem zOp_l {Q : Act → World → Prop} {b : Bool} {k : Nat} {a : Act} {w : World} {o : Oper} (ho : ops[k]? = some o) (hw : Region.wanted o (yielded ops a.tmps) = true)
    (h : o.wp P a w (fun a' w' => (b = false → R w') ∧ Q a' w') (fun _ _ _ => False)) : zOp P ops R b k Q a w := by
  unfold zOp
  simp only [ho, hw, if_true]
  exact h
theorem zOp_skip {Q : Act → World → Prop} {b : Bool} {k : Nat} {a : Act} {w : World} {o : Oper} (ho : ops[k]? = some o) (hw : Region.wanted o (yielded ops a.tmps) = false) (h : Q (a.put o.dst undef) w) : zOp P ops R b k Q a w := by
  unfold zOp
  simp only [ho, hw, Bool.false_eq_true, if_false]
  exact h
/-- The one loud operation. -/
theorem wpZ_l {Q : Act → World → Prop} {k : Nat} {p : XP} {a : Act} {w : World} {o : Oper} (ho : ops[k]? = some o) (hw : Region.wanted o (yielded ops a.tmps) = true)
    (h : o.wp P a w (fun a' w' => (fr.contains k = false → R w') ∧ wpZ P ops R fr Q p a' w') (fun _ _ _ => False)) : wpZ P ops R fr Q (.l k p) a w := ⟨zOp_l ho hw h, trivial⟩
theorem wpZ_lskip {Q : Act → World → Prop} {k : Nat} {p : XP} {a : Act} {w : World} {o : Oper} (ho : ops[k]? = some o) (hw : Region.wanted o (yielded ops a.tmps) = false)
    (h : wpZ P ops R fr Q p (a.put o.dst undef) w) : wpZ P ops R fr Q (.l k p) a w := ⟨zOp_skip ho hw h, trivial⟩
/-- One of several loud operations. -/
theorem wpZ_alt {Q : Act → World → Prop} {k : Nat} {p r : XP} {a : Act} {w : World} {o : Oper} (ho : ops[k]? = some o) (hw : Region.wanted o (yielded ops a.tmps) = true)
    (h : o.wp P a w (fun a' w' => (fr.contains k = false → R w') ∧ wpZ P ops R fr Q p a' w') (fun _ _ _ => False)) (hr : wpZ P ops R fr Q r a w) : wpZ P ops R fr Q (.alt k p r) a w := ⟨zOp_l ho hw h, hr⟩

/-- &x[i] in a region: the cells of the element lie there. -/
theorem wpZ_ix {Q : Act → World → Prop} {k : Nat} {l : XP} {a : Act} {w : World} {o : Oper} (ho : ops[k]? = some o) (hw : Region.wanted o (yielded ops a.tmps) = true) (xO iO : Operand) {t : TypeId}
    (hop : o.op = .indexAddr t xO iO) {e s b : Nat} {z : Value} (E : Elem P t e s b z) {p : Option Addr} {n c : Nat} {xs : List Value} (hx : a.eval xO = .slice p n c) (hr : ∀ w', R w' → Row w' p n c s xs) {u : World} (hu : R u)
    (i : Nat) {kd : IntKind} {I : Int} (hi : a.eval iO = .int kd I) (hI : I = (i : Int)) (hin : i < n)
    (h : ∀ b' o', (∀ j, j < s → ∀ w', R w' → w'.cell? ⟨b', o' + j, none⟩ = xs[i * s + j]?) → wpZ P ops R fr Q l (a.put o.dst (.pointer (some ⟨b', o', none⟩))) w) : wpZ P ops R fr Q (.q k l) a w := by
  have hr0 := hr u hu
  obtain ⟨b', o', rfl⟩ : ∃ b' o', p = some ⟨b', o', none⟩ := by
    cases p with
    | none => exact absurd (hr0.nil rfl) (by have := hr0.le; omega)
    | some q =>
      rcases hr0.at_ q rfl with h0 | ⟨b', o', rfl⟩
      · have := hr0.le; omega
      · exact ⟨b', o', rfl⟩
  refine wpZ_q ho hw (.pointer (some ⟨b', o' + i * s, none⟩)) (fun w' hx' => ?_) (h b' (o' + i * s) ?_)
  · subst hI
    have hrun := run_indexAt_slice (P := P) (w := w') t ⟨b', o', none⟩ n c kd (i : Int) E.und'
    rw [if_pos (by omega), E.size] at hrun
    simp only [Result.andThen, Int.toNat_natCast, Addr.add_lit] at hrun
    simp [execOp, hop, hx, hi, hrun, Result.andThen]
  · intro j hj w' hx'
    have hlt : i * s + j < xs.length := by
      rw [hr0.len]
      have h1 : (i + 1) * s ≤ n * s := Nat.mul_le_mul_right s hin
      rw [Nat.add_mul, Nat.one_mul] at h1
      omega
    have := (hr w' hx').cell _ rfl (i * s + j) _ (List.getElem?_eq_getElem hlt)
    rw [Addr.add_lit, ← Nat.add_assoc] at this
    rw [this, List.getElem?_eq_getElem hlt]
/-- &x[i], the address alone: it is the same in every world. -/
theorem wpZ_ixp {Q : Act → World → Prop} {k : Nat} {l : XP} {a : Act} {w : World} {o : Oper} (ho : ops[k]? = some o) (hw : Region.wanted o (yielded ops a.tmps) = true) (xO iO : Operand) {t : TypeId}
    (hop : o.op = .indexAddr t xO iO) {e s b : Nat} {z : Value} (E : Elem P t e s b z) {g n c : Nat} (hx : a.eval xO = .slice (some ⟨g, 0, none⟩) n c)
    (i : Nat) {kd : IntKind} {I : Int} (hi : a.eval iO = .int kd I) (hI : I = (i : Int)) (hin : i < n)
    (h : wpZ P ops R fr Q l (a.put o.dst (.pointer (some ⟨g, i * s, none⟩))) w) : wpZ P ops R fr Q (.q k l) a w := by
  refine wpZ_q ho hw (.pointer (some ⟨g, i * s, none⟩)) (fun w' hx' => ?_) h
  subst hI
  have hrun := run_indexAt_slice (P := P) (w := w') t ⟨g, 0, none⟩ n c kd (i : Int) E.und'
  rw [if_pos (by omega), E.size] at hrun
  simp only [Result.andThen, Int.toNat_natCast, Addr.add_lit, Nat.zero_add] at hrun
  simp [execOp, hop, hx, hi, hrun, Result.andThen]
/-- A load of a struct. -/
theorem wpZ_ld {Q : Act → World → Prop} {k : Nat} {l : XP} {a : Act} {w : World} {o : Oper} (ho : ops[k]? = some o) (hw : Region.wanted o (yielded ops a.tmps) = true) (xO : Operand) {ty : TypeId}
    (hop : o.op = .load ty xO) (b o' : Nat) (hx : a.eval xO = .pointer (some ⟨b, o', none⟩)) (cs : List Value) (d : TypeDesc) (hc : ∀ w', R w' → w'.rangeAt b o' cs)
    (hu : P.underlying ty = some d) (hd : d.isRow = true) (hi : (P.info? ty).map (·.size) = some cs.length)
    (h : wpZ P ops R fr Q l (a.put o.dst (.agg cs.toArray)) w) : wpZ P ops R fr Q (.q k l) a w :=
  wpZ_q ho hw (.agg cs.toArray) (fun w' hx' => by
    unfold execOp
    simp only [hop, hx, Instr.loadAt, Instr.sureAddr, Sem.run_bind, Sem.run_pure, Result.andThen_ok, run_loadVar_mid w' b o' ty cs d (hc w' hx') hu hd hi]) h

/-- x[l:l+m], x[l:], x[:h] in a region. -/
theorem wpZ_sl {Q : Act → World → Prop} {k : Nat} {L : XP} {f : Act} {w : World} {o : Oper} (ho : ops[k]? = some o) (hw : Region.wanted o (yielded ops f.tmps) = true) (xO lO hO : Operand) {t : TypeId}
    (hop : o.op = .slice t xO (some lO) (some hO) none) {e s b : Nat} {z : Value} (E : Elem P t e s b z) {a : Option Addr} {n c : Nat} {xs : List Value} (hx : f.eval xO = .slice a n c) (hr : ∀ w', R w' → Row w' a n c s xs) {u : World} (hu : R u)
    (l m : Nat) {kl kh : IntKind} {I H : Int} (hl : f.eval lO = .int kl I) (hh : f.eval hO = .int kh H) (hL : I = (l : Int)) (hH : H = (l : Int) + (m : Int)) (hhn : l + m ≤ n)
    (h : ∀ a', (∀ w', R w' → Row w' a' m (c - l) s ((xs.drop (l * s)).take (m * s))) → wpZ P ops R fr Q L (f.put o.dst (.slice a' m (c - l))) w) : wpZ P ops R fr Q (.q k L) f w := by
  have hH' : H = ((l + m : Nat) : Int) := by omega
  subst hL hH'
  have hle := (hr u hu).le
  refine wpZ_q ho hw (.slice (subA a l c s) m (c - l)) (fun w' _ => ?_) (h _ fun w' hw' => ?_)
  · have e := run_sl (w := w') E a n c kl kh l (l + m) (by omega) (by omega)
    rw [show l + m - l = m by omega] at e
    simp only [execOp, hop, hx, hl, hh, Instr.sliceAt, Option.map_some, Option.map_none, Sem.run_bind, run_underlying E.und, Result.andThen_ok, e, Sem.run_pure]
  · have hs := (hr w' hw').sub l (l + m) (by omega) hhn
    rwa [show l + m - l = m by omega] at hs
theorem wpZ_sl_lo {Q : Act → World → Prop} {k : Nat} {L : XP} {f : Act} {w : World} {o : Oper} (ho : ops[k]? = some o) (hw : Region.wanted o (yielded ops f.tmps) = true) (xO lO : Operand) {t : TypeId}
    (hop : o.op = .slice t xO (some lO) none none) {e s b : Nat} {z : Value} (E : Elem P t e s b z) {a : Option Addr} {n c : Nat} {xs : List Value} (hx : f.eval xO = .slice a n c) (hr : ∀ w', R w' → Row w' a n c s xs)
    (l : Nat) {kl : IntKind} {I : Int} (hl : f.eval lO = .int kl I) (hL : I = (l : Int)) (hlh : l ≤ n)
    (h : ∀ a', (∀ w', R w' → Row w' a' (n - l) (c - l) s (xs.drop (l * s))) → wpZ P ops R fr Q L (f.put o.dst (.slice a' (n - l) (c - l))) w) : wpZ P ops R fr Q (.q k L) f w := by
  subst hL
  refine wpZ_q ho hw (.slice (subA a l c s) (n - l) (c - l)) (fun w' _ => ?_) (h _ fun w' hw' => ?_)
  · simp [execOp, hop, hx, hl, Instr.sliceAt, run_underlying E.und, run_sl_lo E a n c kl l hlh, Result.andThen]
  · have h := (hr w' hw').sub l n hlh (Nat.le_refl _)
    rwa [List.take_of_length_le (by rw [List.length_drop, (hr w' hw').len, Nat.sub_mul]; omega)] at h
theorem wpZ_sl_hi {Q : Act → World → Prop} {k : Nat} {L : XP} {f : Act} {w : World} {o : Oper} (ho : ops[k]? = some o) (hw : Region.wanted o (yielded ops f.tmps) = true) (xO hO : Operand) {t : TypeId}
    (hop : o.op = .slice t xO none (some hO) none) {e s b : Nat} {z : Value} (E : Elem P t e s b z) {a : Option Addr} {n c : Nat} {xs : List Value} (hx : f.eval xO = .slice a n c) (hr : ∀ w', R w' → Row w' a n c s xs) {u : World} (hu : R u)
    (h : Nat) {kh : IntKind} {H : Int} (hh : f.eval hO = .int kh H) (hH : H = (h : Int)) (hhn : h ≤ n)
    (hk : ∀ a', (∀ w', R w' → Row w' a' h c s (xs.take (h * s))) → wpZ P ops R fr Q L (f.put o.dst (.slice a' h c)) w) : wpZ P ops R fr Q (.q k L) f w := by
  subst hH
  have hle := (hr u hu).le
  refine wpZ_q ho hw (.slice (subA a 0 c s) h c) (fun w' _ => ?_) (hk _ fun w' hw' => ?_)
  · simp [execOp, hop, hx, hh, Instr.sliceAt, run_underlying E.und, run_sl_hi E a n c kh h (by omega), Result.andThen]
  · have h := (hr w' hw').sub 0 h (Nat.zero_le _) hhn
    simpa using h

end
end Go.Proofs.YtejljmikammcdaaGreatDoor
/-
  Regions that draw their order, by a plan, where a free operation may stand behind the others through a third one.
-/
namespace Go.Proofs.YtejljmikammcdaaGreatDoor
open Go.RowKit
section
variable {P : Program} {md : Region.Mode} {ops : Array Oper} {R : World → Prop}

/-- Operation j stands behind operation i, through at most n others. -/
def behind (md : Region.Mode) (ops : Array Oper) (i : Nat) : Nat → Nat → Bool
  | 0, _ => false
  | n + 1, j => match ops[j]? with
    | some oj => (oj.after.any fun e => Region.binds md e && e.on == i) || (oj.after.any fun e => Region.binds md e && behind md ops i n e.on)
    | none => false
def freesT (md : Region.Mode) (ops : Array Oper) (fr : List Nat) : Bool :=
  fr.all fun j => (List.range ops.size).all fun i => fr.contains i || behind md ops i 4 j
/-- What is listed stands behind listed ones alone. -/
def Closed (md : Region.Mode) (ops : Array Oper) (listed : Array Bool) : Prop :=
  ∀ (k : Nat) (ok : Oper), ops[k]? = some ok → listed.getD k true = true → ∀ e ∈ ok.after, Region.binds md e = true → listed.getD e.on true = true
theorem ready_after {listed : Array Bool} {j : Nat} {oj : Oper} (hj : j ∈ Region.ready md ops listed) (hoj : ops[j]? = some oj) : ∀ e ∈ oj.after, Region.binds md e = true → listed.getD e.on true = true := by
  obtain ⟨-, oj', hoj', hall⟩ := mem_ready.1 hj
  rw [hoj] at hoj'
  cases hoj'
  intro e he hb
  have h1 := hall e he hb
  rcases Nat.lt_or_ge e.on listed.size with h' | h'
  · simp [h'] at h1 ⊢; exact h1
  · simp [Array.getElem?_eq_none h'] at h1
theorem Closed.next {listed : Array Bool} {j : Nat} (h : Closed md ops listed) (hj : j ∈ Region.ready md ops listed) : Closed md ops (listed.setIfInBounds j true) := by
  intro k ok hk hl e he hb
  have key : listed.getD e.on true = true := by
    by_cases hjk : j = k
    · subst hjk; exact ready_after hj hk e he hb
    · rw [getD_set_ne true hjk] at hl; exact h k ok hk hl e he hb
  by_cases hje : j = e.on
  · subst hje
    rcases Nat.lt_or_ge e.on listed.size with h' | h'
    · simp [h']
    · simp
  · rw [getD_set_ne true hje]; exact key
theorem Closed.behind {listed : Array Bool} (h : Closed md ops listed) {i : Nat} : ∀ (n j : Nat) (oj : Oper), ops[j]? = some oj → (∀ e ∈ oj.after, Region.binds md e = true → listed.getD e.on true = true) → behind md ops i n j = true → listed.getD i true = true
  | 0, _, _, _, _, hb => by cases hb
  | n + 1, j, oj, hoj, hall, hb => by
    unfold Proofs.YtejljmikammcdaaGreatDoor.behind at hb
    simp only [hoj, Bool.or_eq_true] at hb
    rcases hb with hb | hb
    · obtain ⟨e, he, hb⟩ := Array.any_eq_true'.1 hb
      simp only [Bool.and_eq_true, beq_iff_eq] at hb
      rw [← hb.2]; exact hall e he hb.1
    · obtain ⟨e, he, hb⟩ := Array.any_eq_true'.1 hb
      simp only [Bool.and_eq_true] at hb
      cases hoe : ops[e.on]? with
      | none =>
        have h1 := hb.2
        cases n with
        | zero => cases h1
        | succ n => unfold Proofs.YtejljmikammcdaaGreatDoor.behind at h1; simp only [hoe] at h1; cases h1
      | some oe => exact Closed.behind h n e.on oe hoe (fun e' he' hb' => h e.on oe hoe (hall e he hb.1) e' he' hb') hb.2
theorem freesT_spec {fr : List Nat} (h : freesT md ops fr = true) {i j : Nat} (hj : j ∈ fr) (hi : i < ops.size) (hif : fr.contains i = false) : behind md ops i 4 j = true := by
  have h1 := List.all_eq_true.1 (List.all_eq_true.1 h j hj) i (List.mem_range.2 hi)
  simpa only [hif, Bool.false_or] using h1
theorem tAny_first {fr : List Nat} (hfr : freesT md ops fr = true) {Q : Act → World → Prop} {i : Nat} {oi : Oper} {v : Value} (hi : ops[i]? = some oi) (hsel : ∀ (j : Nat) (o : Oper) cs b, ops[j]? = some o → o.op ≠ .select cs b)
    (hif : fr.contains i = false) :
    ∀ (fuel : Nat) (listed : Array Bool) (a : Act) (w : World),
      (∀ j oj, ops[j]? = some oj → j ≠ i → listed.getD j true = false → (∀ e ∈ oj.after, Region.binds md e = true → e.on ≠ i) → oi.apart ops oj = true) →
      Closed md ops listed → i ∈ Region.ready md ops listed → R w → FirmZ P ops R oi v a →
      zAny P md ops R fr Q fuel (listed.setIfInBounds i true) (a.put oi.dst v) w → zAny P md ops R fr Q (fuel + 1) listed a w := by
  intro fuel
  induction fuel with
  | zero =>
    intro listed a w _ _ hr hw0 hy H
    refine ⟨fun h => (by rw [h] at hr; cases hr), fun j hj => ?_⟩
    by_cases hji : j = i
    · subst hji; exact hy.zOp hi hw0 H
    · have := ready_mono hj hji
      rw [H.1] at this
      cases this
  | succ fuel ih =>
    intro listed a w hfree hcl hr hw0 hy H
    refine ⟨fun h => (by rw [h] at hr; cases hr), fun j hj => ?_⟩
    by_cases hji : j = i
    · subst hji; exact hy.zOp hi hw0 H
    · have h1 := H.2 j (ready_mono hj hji)
      obtain ⟨hjun, oj, hoj, hall⟩ := mem_ready.1 hj
      have hnot : ∀ e ∈ oj.after, Region.binds md e = true → e.on ≠ i := fun e he hb heq => by
        have h1 := hall e he hb
        have h0 := (mem_ready.1 hr).1
        rw [heq] at h1
        rcases Nat.lt_or_ge i listed.size with h' | h'
        · simp [h'] at h0 h1; rw [h0] at h1; cases h1
        · simp [Array.getElem?_eq_none h'] at h1
      have hjf : fr.contains j = false := by
        rw [Bool.eq_false_iff]
        intro hc
        have h3 := hcl.behind 4 j oj hoj (ready_after hj hoj) (freesT_spec hfr (List.contains_iff_mem.1 hc) (Array.getElem?_eq_some_iff.1 hi).1 hif)
        rw [(mem_ready.1 hr).1] at h3
        cases h3
      have hap := hfree j oj hoj hji hjun hnot
      have hfree' : ∀ k ok, ops[k]? = some ok → k ≠ i → (listed.setIfInBounds j true).getD k true = false →
          (∀ e ∈ ok.after, Region.binds md e = true → e.on ≠ i) → oi.apart ops ok = true := fun k ok hk hki hun hno => by
        refine hfree k ok hk hki ?_ hno
        by_cases hjk : j = k
        · subst hjk; exact hjun
        · rw [getD_set_ne true hjk] at hun; exact hun
      have h2 := zOp_put hoj hap (fun cs b => hsel i oi cs b hi) (fun cs b => hsel j oj cs b hoj) hy h1
      refine zOp_mono' hw0 (fun a' w' hb h3 => ih (listed.setIfInBounds j true) a' w' hfree' (hcl.next hj) (ready_mono hr (Ne.symm hji)) (hb hjf) h3.1 ?_) h2
      rw [Array.setIfInBounds_comm _ _ hji]
      exact h3.2

theorem StillT.next {fr : List Nat} (hfr : freesT md ops fr = true) {listed : Array Bool} {w' : World} {i : Nat} (hcl : Closed md ops listed) (hr : i ∈ Region.ready md ops listed) (hb : fr.contains i = false → R w') :
    StillZ ops R fr (listed.setIfInBounds i true) w' := by
  by_cases hf : fr.contains i = true
  · right
    intro k hk hkf
    obtain ⟨hun, oi, hoi, hall⟩ := mem_ready.1 hr
    have h3 := hcl.behind 4 i oi hoi (ready_after hr hoi) (freesT_spec hfr (List.contains_iff_mem.1 hf) hk hkf)
    by_cases hik : i = k
    · subst hik
      rcases Nat.lt_or_ge i listed.size with h' | h'
      · simp [h']
      · simp
    · rw [getD_set_ne true hik]; exact h3
  · exact .inl (hb (by simpa using hf))

theorem alts_of_wpT {fr : List Nat} (hfr : freesT md ops fr = true) {Q : Act → World → Prop} (n : Nat) (H : ∀ (p : XP) (listed : Array Bool) (a : Act) (w : World), Closed md ops listed → StillZ ops R fr listed w → eagerY md ops fr p true listed = true → p.even n = true → wpZ P ops R fr Q p a w → zAny P md ops R fr Q n listed a w) :
    ∀ (r : XP) (top : Bool) (listed : Array Bool) (a : Act) (w : World), Closed md ops listed → StillZ ops R fr listed w → eagerY md ops fr r top listed = true → r.even (n + 1) = true → wpZ P ops R fr Q r a w → ∀ i ∈ r.keys, i ∈ Region.ready md ops listed → zOp P ops R (fr.contains i) i (zAny P md ops R fr Q n (listed.setIfInBounds i true)) a w
  | .nil, _, _, _, _, _, _, _, _, _, _, hi, _ => by cases hi
  | .q _ _, _, _, _, _, _, _, _, _, _, _, hi, _ => by cases hi
  | .stop, _, _, _, _, _, _, _, _, _, _, hi, _ => by cases hi
  | .alt k p r, top, listed, a, w, hcl, hS, hB, hE, h, i, hi, hr => by
    simp only [eagerY, Bool.and_eq_true] at hB
    simp only [XP.even, Bool.and_eq_true] at hE
    simp only [XP.keys, List.mem_cons] at hi
    rcases hi with rfl | hi
    · have hh := h.1
      unfold zOp at hh ⊢
      split
      · rename_i ho; simp only [ho] at hh
        obtain ⟨-, oi, hoi, -⟩ := mem_ready.1 hr
        rw [hoi] at ho; cases ho
      · rename_i o ho
        simp only [ho] at hh
        split
        · rename_i hw; simp only [hw, if_true] at hh; exact wp_weaken (fun a' w' hk => ⟨hk.1, H p _ a' w' (hcl.next hr) (StillT.next hfr hcl hr hk.1) hB.1.2 hE.1 hk.2⟩) (fun _ _ _ h => h) hh
        · rename_i hw; simp only [hw] at hh
          refine H p _ _ _ (hcl.next hr) ?_ hB.1.2 hE.1 hh
          rcases hS with h | h
          · exact .inl h
          · refine .inr fun k hk hkf => ?_
            have := h k hk hkf
            by_cases hik : i = k
            · subst hik
              rcases Nat.lt_or_ge i listed.size with h' | h'
              · simp [h']
              · simp
            · rw [getD_set_ne true hik]; exact this
    · exact alts_of_wpT hfr n H r false listed a w hcl hS hB.2 hE.2 h.2 i hi hr

theorem zAny_of_wpT {fr : List Nat} (hfr : freesT md ops fr = true) {Q : Act → World → Prop} (hs : Region.noSelect ops = true) : ∀ (n : Nat) (p : XP) (listed : Array Bool) (a : Act) (w : World), Closed md ops listed → StillZ ops R fr listed w →
    eagerY md ops fr p true listed = true → p.even n = true → wpZ P ops R fr Q p a w → zAny P md ops R fr Q n listed a w
  | 0, .nil, _, _, _, _, _, hB, _, h => ⟨by simpa [eagerY] using hB, h⟩
  | 0, .q _ _, _, _, _, _, _, _, hE, _ => by simp [XP.even] at hE
  | 0, .alt _ _ _, _, _, _, _, _, _, hE, _ => by simp [XP.even] at hE
  | _, .stop, _, _, _, _, _, hB, _, _ => by simp [eagerY] at hB
  | n + 1, .nil, _, _, _, _, _, _, hE, _ => by simp [XP.even] at hE
  | n + 1, .alt k p r, listed, a, w, hcl, hS, hB, hE, h => by
    have hB' := hB
    simp only [eagerY, Bool.and_eq_true, Bool.not_true, Bool.false_or, beq_iff_eq] at hB'
    refine ⟨fun h0 => (by rw [h0] at hB'; cases hB'.1.1), fun i hi => ?_⟩
    have hi' := hi
    rw [hB'.1.1] at hi
    exact alts_of_wpT hfr n (fun p listed a w => zAny_of_wpT hfr hs n p listed a w) (.alt k p r) true listed a w hcl hS hB hE h i hi hi'
  | n + 1, .q k p, listed, a, w, hcl, hS, hB, hE, h => by
    simp only [eagerY, Bool.and_eq_true, Bool.not_eq_true', Bool.true_and] at hB
    obtain ⟨⟨⟨hr, hf⟩, hfk⟩, hB'⟩ := hB
    obtain ⟨o, ho, v, hy, hK⟩ := h
    have hr' : k ∈ Region.ready md ops listed := by simpa using hr
    have hw0 : R w := by
      rcases hS with h | h
      · exact h
      · have h1 := h k (Array.getElem?_eq_some_iff.1 ho).1 hfk
        rw [(mem_ready.1 hr').1] at h1
        cases h1
    exact tAny_first hfr ho (Region.noSelect_spec hs) hfk n listed a w (Region.free_spec ho hf) hcl hr' hw0 hy (zAny_of_wpT hfr hs n p _ _ _ (hcl.next hr') (.inl hw0) hB' (by simpa [XP.even] using hE) hK)

def eagerTB (ops : Array Oper) (fr : List Nat) (p : XP) : Bool := Region.noSelect ops && p.even ops.size && freesT .any ops fr && eagerY .any ops fr p true (Array.replicate ops.size false)
theorem closed_start : Closed md ops (Array.replicate ops.size false) := by
  intro k ok hk hl
  have := (Array.getElem?_eq_some_iff.1 hk).1
  simp [this] at hl
theorem wp_region_t {id : Nat} {Q : Exit → Act → World → Prop} {a : Act} {w : World} {ol : List Oper} (R : World → Prop) (hR : R w.drew) (fr : List Nat) (p : XP) (hm : P.follows .mixedOrders = true) (hB : eagerTB ol.toArray fr p = true)
    (h : wpZ P ol.toArray R fr (fun a' w' => Q .normal a' w') p a w.drew) : (Code.region id ol.toArray true).wp P Q a w := by
  simp only [eagerTB, Bool.and_eq_true] at hB
  obtain ⟨⟨⟨hs, he⟩, hfr⟩, hB⟩ := hB
  exact wp_region_any hm (wpAny_of_zAny (fr := fr) (Q := fun a' w' => Q .normal a' w') (fun _ _ h => h) _ _ _ _ (zAny_of_wpT hfr hs _ p _ a _ closed_start (.inl hR) hB he h))
end
end Go.Proofs.YtejljmikammcdaaGreatDoor
