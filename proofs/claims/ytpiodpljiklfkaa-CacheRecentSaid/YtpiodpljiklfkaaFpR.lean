/-
  Fingerprints tell bytes apart (from the pack's texts).
-/
import Derived.Test.YtpiodpljiklfkaaFp
namespace Go.Proofs.Ytpiodpljiklfkaa
open Go.RowKit


theorem owp_ixp3 {P : Program} {w : World} {o : Oper} {f : Act} {K : Act → World → Prop} {Q : Exit → Act → World → Prop} (xO iO : Operand) {t : TypeId}
    (ho : o.op = .indexAddr t xO iO) {e s b : Nat} {z : Value} (E : Elem P t e s b z) {g n c : Nat} (hx : f.eval xO = .slice (some ⟨g, 0, none⟩) n c)
    (i : Nat) {k : IntKind} {I : Int} (hi : f.eval iO = .int k I) (hI : I = (i : Int)) (hin : i < n)
    (hk : K (f.put o.dst (.pointer (some ⟨g, i * s, none⟩))) w) : o.wp P f w K Q := by
  subst hI
  have hrun := run_indexAt_slice (P := P) (w := w) t ⟨g, 0, none⟩ n c k (i : Int) E.und'
  rw [if_pos (by omega), E.size] at hrun
  simp only [Result.andThen, Int.toNat_natCast, Addr.add_lit, Nat.zero_add] at hrun
  unfold Oper.wp
  simp [execOp, ho, hx, hi, hrun, Result.andThen]
  exact hk
theorem mul_inj_mod {p b c : Nat} (h : b * c % p = 1) {s t : Nat} (hs : s < p) (ht : t < p) (e : s * b % p = t * b % p) : s = t := by
  have key : ∀ x, x < p → (x * b % p) * c % p = x := fun x hx => by
    rw [Nat.mul_mod, Nat.mod_mod, ← Nat.mul_mod, Nat.mul_assoc, Nat.mul_mod, h, Nat.mul_one, Nat.mod_mod, Nat.mod_eq_of_lt hx]
  rw [← key s hs, ← key t ht, e]
theorem add_inj_mod {p x y a : Nat} (hx : x < p) (hy : y < p) (e : (x + a) % p = (y + a) % p) : x = y := by
  rcases Nat.le_total y x with h | h
  · have h1 := Nat.sub_mod_eq_zero_of_mod_eq e
    rw [Nat.add_sub_add_right, Nat.mod_eq_of_lt (by omega)] at h1
    omega
  · have h1 := Nat.sub_mod_eq_zero_of_mod_eq e.symm
    rw [Nat.add_sub_add_right, Nat.mod_eq_of_lt (by omega)] at h1
    omega
/-- A hash by steps s * b + f x modulo p: unlike states stay unlike. -/
theorem foldl_inj {p b c : Nat} (f : UInt8 → Nat) (g : Nat → UInt8 → Nat) (hg : ∀ s x, g s x = (s * b % p + f x) % p) (h : b * c % p = 1) (hp : 0 < p) : ∀ (l : List UInt8) (s t : Nat), s < p → t < p → l.foldl g s = l.foldl g t → s = t
  | [], _, _, _, _, e => e
  | x :: l, s, t, hs, ht, e => by
    have e1 := foldl_inj f g hg h hp l (g s x) (g t x) (by rw [hg]; exact Nat.mod_lt _ hp) (by rw [hg]; exact Nat.mod_lt _ hp) e
    rw [hg, hg] at e1
    exact mul_inj_mod h hs ht (add_inj_mod (Nat.mod_lt _ hp) (Nat.mod_lt _ hp) e1)
theorem foldl_lt {p : Nat} (g : Nat → UInt8 → Nat) (hg : ∀ s x, g s x < p) : ∀ (l : List UInt8) (s : Nat), s < p → l.foldl g s < p
  | [], _, h => h
  | x :: l, s, _ => foldl_lt g hg l (g s x) (hg s x)
theorem foldl_apart {p b c : Nat} (f : UInt8 → Nat) (g : Nat → UInt8 → Nat) (hg : ∀ s x, g s x = (s * b % p + f x) % p) (h : b * c % p = 1) (hp : 0 < p) (hf : ∀ x, f x < p) (hfi : ∀ x y, f x = f y → x = y)
    (u v : List UInt8) (x y : UInt8) (hxy : x ≠ y) (s : Nat) (e : (u ++ x :: v).foldl g s = (u ++ y :: v).foldl g s) : False := by
  rw [List.foldl_append, List.foldl_append, List.foldl_cons, List.foldl_cons] at e
  have e1 := foldl_inj f g hg h hp v _ _ (by rw [hg]; exact Nat.mod_lt _ hp) (by rw [hg]; exact Nat.mod_lt _ hp) e
  rw [hg, hg, Nat.add_comm _ (f x), Nat.add_comm _ (f y)] at e1
  exact hxy (hfi x y (add_inj_mod (hf x) (hf y) e1))
theorem fp_apart (u v : List UInt8) (x y : UInt8) (hxy : x ≠ y) : fp (u ++ x :: v) ≠ fp (u ++ y :: v) := fun e =>
  foldl_apart (p := 2305843009213693951) (b := 747382712868975713) (c := 331121832077419417) (fun x => x.toNat + 1) fpStep (fun _ _ => rfl) (by decide) (by decide)
    (fun x => by have := x.toNat_lt; show x.toNat + 1 < _; omega) (fun x y h => UInt8.toNat_inj.1 (by have h : x.toNat + 1 = y.toNat + 1 := h; omega)) u v x y hxy 0 e
theorem set_split (l : List UInt8) (i : Nat) (y : UInt8) (h : i < l.length) : l = l.take i ++ l[i] :: l.drop (i + 1) ∧ l.set i y = l.take i ++ y :: l.drop (i + 1) := by
  refine ⟨?_, List.set_eq_take_append_cons_drop.trans (if_pos h)⟩
  rw [← List.drop_eq_getElem_cons h, List.take_append_drop]
theorem fp_set {l : List UInt8} {i : Nat} {x y : UInt8} (h : l[i]? = some x) (hxy : y ≠ x) : fp (l.set i y) ≠ fp l := by
  obtain ⟨hl, rfl⟩ := List.getElem?_eq_some_iff.1 h
  obtain ⟨e1, e2⟩ := set_split l i y hl
  have := fp_apart (l.take i) (l.drop (i + 1)) y l[i] hxy
  rw [← e1, ← e2] at this
  exact this

/-! ### A frame with a wrong byte -/
end Go.Proofs.Ytpiodpljiklfkaa
