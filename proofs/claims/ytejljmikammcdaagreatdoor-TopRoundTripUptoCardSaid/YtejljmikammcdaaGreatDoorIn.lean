/-
  The walk within a round of a range over a function: laws of the plain walk, used there.
-/
import Derived.RangeFuncNested
import Derived.RangeFuncBound
import Derived.RangeFuncCalls
import Derived.RangeFuncLeaves
import Derived.Shelf.Abstract
import Derived.Shelf.RegionOpen
import Derived.WalkKit
import Derived.OwnWalkIn
import Derived.TacticsInMore
import Derived.LoopNIn
import Derived.LoopIn
import Derived.Sort.CutIn
import Derived.Test.YtejljmikammcdaaGreatDoorMaI
namespace Go.Proofs.YtejljmikammcdaaGreatDoor
open Go.RowKit

variable {P : Program} {l n : Nat}
/-- The fence of a round. -/
abbrev RF (l : Nat) : Fence := Fence.wide.inRound l
theorem callsRF {f : FuncId} {args : Array Value} {w : World} {R : Ending → World → Prop} (h : Calls P f args w R) : CallsIn (RF l) n P f args w R := CallsIn.inRound l (callsIn_wide.2 h)
theorem upon_in {o : Oper} {a : Act} {next : Act → World → Prop} {Q : Exit → Act → World → Prop} (r : Result Next) (h : o.upon P a next Q r) : o.uponIn (RF l) n P a next Q r := by
  match r, h with
  | .ok (.value v) w', h => exact h
  | .ok .skip w', h => exact h
  | .ok (.defer d) w', h => exact h
  | .ok (.enter f args) w', h =>
    refine ⟨(fun h0 => by cases h0), (callsRF h).mono ?_⟩
    intro e w'' he
    cases e <;> exact he
  | .ok (.row row args) w', h =>
    refine ⟨(fun h0 => by cases h0), fun c cs _ => ?_⟩
    obtain ⟨v, w'', h1, h2⟩ := h c cs
    exact ⟨v, w'', h1, stepsIn_wide.2 h2⟩
  | .ok (.round _ _ _ _ _) w', h => exact h.elim
  | .halt (.panic v) w', h => exact h
theorem wp_in {o : Oper} {a : Act} {w : World} {next : Act → World → Prop} {Q : Exit → Act → World → Prop} (hd : ∀ c, o.op ≠ .defer c) (h : o.wp P a w next Q) : o.wpIn (RF l) n P a w next Q := by
  refine ⟨fun _ _ => trivial, ?_⟩
  rw [Oper.semAt_eq _ _ _ hd]
  exact upon_in _ h
theorem wpListIn_of_wp {ops : Array Oper} {Q : Exit → Act → World → Prop} {rest : List Oper} {o : Oper} {a : Act} {w : World} (hg : o.guard = none) (hd : ∀ c, o.op ≠ .defer c)
    (h : o.wp P a w (wpListIn (RF l) n P ops Q rest) Q) : wpListIn (RF l) n P ops Q (o :: rest) a w := by
  unfold wpListIn
  rw [if_pos (by simp [Region.wanted, hg])]
  exact wp_in hd h
theorem atSlotIn {ops : Array Oper} {Q : Exit → Act → World → Prop} {rest : List Oper} {a : Act} {w : World} (k : Nat) {op : Op} {ty : TypeId} {pos : String} {af : Array Edge} {gd : Option (Nat × Bool)}
    (h : wpListIn (RF l) n P ops Q (⟨some k, op, ty, pos, af, gd⟩ :: rest) a w) : wpListIn (RF l) n P ops Q (⟨some k, op, ty, pos, af, gd⟩ :: rest) a w := h
theorem atStoreIn {ops : Array Oper} {Q : Exit → Act → World → Prop} {rest : List Oper} {a : Act} {w : World} (k : Nat) {sty : TypeId} {v : Operand} {ty : TypeId} {pos : String} {af : Array Edge} {gd : Option (Nat × Bool)}
    (h : wpListIn (RF l) n P ops Q (⟨none, .store sty (.tmp k) v, ty, pos, af, gd⟩ :: rest) a w) : wpListIn (RF l) n P ops Q (⟨none, .store sty (.tmp k) v, ty, pos, af, gd⟩ :: rest) a w := h
theorem wpOpIn_of_zOp {ops : Array Oper} {R : World → Prop} {fr : Bool} {i : Nat} {K K' : Act → World → Prop} {Q : Exit → Act → World → Prop} {a : Act} {w : World} (hd : ∀ (j : Nat) (o : Oper), ops[j]? = some o → ∀ c, o.op ≠ .defer c) (hK : ∀ a w, K a w → K' a w)
    (h : zOp P ops R fr i K a w) : wpOpIn (RF l) n P ops Q i K' a w := by
  unfold zOp at h
  unfold wpOpIn
  cases ho : ops[i]? with
  | none => rw [ho] at h; exact hK _ _ h
  | some o =>
    rw [ho] at h
    by_cases hw : Region.wanted o (yielded ops a.tmps) = true
    · simp only [hw, if_true] at h ⊢
      refine wp_in (hd i o ho) ?_
      unfold Oper.wp at *
      generalize (execOp a.eval o).run P w = r at *
      match r, h with
      | .ok (.value v) w', h => exact hK _ _ h.2
      | .ok .skip w', h => exact hK _ _ h.2
      | .ok (.defer d) w', h => exact hK _ _ h.2
      | .ok (.enter f args) w', h =>
        refine Calls.mono h ?_
        intro e w'' he
        cases e with
        | returned v => exact hK _ _ he.2
        | panicked c => exact he.elim
        | outgrown => obtain ⟨_, _, hf⟩ := he; exact hf.elim
      | .ok (.row row args) w', h =>
        intro c cs
        obtain ⟨v, w'', h1, h2⟩ := h c cs
        exact ⟨v, w'', hK _ _ h1.2, h2⟩
    · simp only [hw, Bool.false_eq_true, if_false] at h ⊢
      exact ⟨fun _ _ => trivial, hK _ _ h⟩
theorem wpAnyIn_of_zAny {md : Region.Mode} {ops : Array Oper} {R : World → Prop} {fr : List Nat} {Q : Act → World → Prop} {Q' : Exit → Act → World → Prop} (hd : ∀ (j : Nat) (o : Oper), ops[j]? = some o → ∀ c, o.op ≠ .defer c) (hQ : ∀ a w, Q a w → Q' .normal a w) :
    ∀ (fuel : Nat) (listed : Array Bool) (a : Act) (w : World), zAny P md ops R fr Q fuel listed a w → wpAnyIn (RF l) n P md ops Q' fuel listed a w
  | 0, _, _, _, h => ⟨h.1, hQ _ _ h.2⟩
  | fuel + 1, _, _, _, h => ⟨fun h0 => hQ _ _ (h.1 h0), fun i hi => wpOpIn_of_zOp hd (fun a' w' => wpAnyIn_of_zAny hd hQ fuel _ a' w') (h.2 i hi)⟩
def noDefers (ops : Array Oper) : Bool := ops.all fun o => match o.op with | .defer _ => false | _ => true
theorem noDefers_spec {ops : Array Oper} (h : noDefers ops = true) (j : Nat) (o : Oper) (ho : ops[j]? = some o) (c : Call) : o.op ≠ .defer c := by
  intro e
  obtain ⟨hj, rfl⟩ := Array.getElem?_eq_some_iff.1 ho
  have := (Array.all_eq_true.1 h) j hj
  simp only [e] at this
  cases this
theorem wpIn_region_z {id : Nat} {Q : Exit → Act → World → Prop} {a : Act} {w : World} {ol : List Oper} (R : World → Prop) (hR : R w.drew) (fr : List Nat) (p : XP) (hm : P.follows .mixedOrders = true) (hB : eagerYB ol.toArray fr p = true) (hd : noDefers ol.toArray = true)
    (h : wpZ P ol.toArray R fr (fun a' w' => Q .normal a' w') p a w.drew) : (Code.region id ol.toArray true).wpIn (RF l) n P Q a w := by
  simp only [eagerYB, Bool.and_eq_true] at hB
  obtain ⟨⟨⟨hs, he⟩, hfr⟩, hB⟩ := hB
  exact wpIn_region_any hm (wpAnyIn_of_zAny (noDefers_spec hd) (fun _ _ h => h) _ _ _ _ (zAny_of_wpZ hfr hs _ p _ a _ (.inl hR) hB he h))
end Go.Proofs.YtejljmikammcdaaGreatDoor
