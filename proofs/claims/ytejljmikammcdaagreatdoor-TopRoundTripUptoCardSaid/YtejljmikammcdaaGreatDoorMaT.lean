/-
  Mappings in plain words: the right region of an entry, regions without a path in common, and which entry a path has (chapter 7). No program stands in it.
-/
import Derived.Test.YtejljmikammcdaaGreatDoorJoined4
namespace Go.Proofs.YtejljmikammcdaaGreatDoor

/-- The holes of the right region (mapping.right). -/
def rightH (l r : Pat) (hs : List Pat) : List Pat := hs.filterMap fun h => (meetP l h).map fun m => carry l m r
def rightL (e : Ent) : List Pat := rightH e.l e.r e.hs
def FitsH (l r : Pat) (hs : List Pat) : Prop := ∀ h ∈ hs, ∀ m, meetP l h = some m → (carry l m r).parts.length ≤ 12
theorem right_mem {l r : Pat} {hs : List Pat} (hr : OkR l r) (hf : FitsH l r hs) : ∀ g ∈ rightH l r hs, OkP g := by
  intro g hg
  obtain ⟨h, hh, hm⟩ := List.mem_filterMap.1 hg
  obtain ⟨m, hm', rfl⟩ := Option.map_eq_some_iff.1 hm
  have h1 := meetP_some hm'
  exact carry_ok h1.1 hr.right h1.2.1 hr.rest (hf h hh m hm')
theorem right_has {l r : Pat} (hr : OkR l r) {xs ys : List Str} (hx : rel l r xs ys) : ∀ hs : List Pat, (∀ h ∈ hs, OkP h) → FitsH l r hs → anyHas (rightH l r hs) ys = anyHas hs xs
  | [], _, _ => rfl
  | h :: hs, ho, hf => by
    have ih := right_has hr hx hs (fun q hq => ho q (List.mem_cons_of_mem _ hq)) (fun q hq => hf q (List.mem_cons_of_mem _ hq))
    rw [anyHas_cons, ← ih]
    unfold rightH
    rw [List.filterMap_cons]
    cases hm : meetP l h with
    | none =>
      have h1 : NarL l r h none := hm
      rw [h1.none_has hr.left (ho h (List.mem_cons_self ..)) xs (rel_left hx)]
      rfl
    | some m =>
      have hm1 := meetP_some hm
      have h1 : NarL l r h (some (m, carry l m r)) := ⟨hm, rfl, carry_ok hm1.1 hr.right hm1.2.1 hr.rest (hf h (List.mem_cons_self ..) m hm)⟩
      show anyHas (carry l m r :: _) ys = _
      rw [anyHas_cons, h1.hole hr hx]
theorem right_ok {e : Ent} (he : OkE e) (hf : FitsH e.l e.r e.hs) : RightOk e (rightL e) := ⟨right_mem he.line hf, fun _ _ hx => right_has he.line hx e.hs he.holes hf⟩
theorem right_len (l r : Pat) (hs : List Pat) : (rightH l r hs).length ≤ hs.length := List.length_filterMap_le _ _
theorem right_snoc {l r : Pat} {hs : List Pat} (h : Pat) : rightH l r (hs ++ [h]) = rightH l r hs ++ ((meetP l h).map fun m => carry l m r).toList := by
  unfold rightH
  rw [List.filterMap_append]
  cases hm : meetP l h with
  | none => simp [hm]
  | some m => simp [hm]

/-- All paths of the base match a hole, as far as the program sees it. -/
def VoidP (b : Pat) (ps : List Pat) : Prop := ∀ n, firstLen b ≤ n → n ≤ lastLen b ps → ∃ g ∈ ps, reachB g n = true ∧ coversL g.parts b.parts 0 n
/-- mapping.common. -/
def ComT (b : Pat) (hs : List Pat) (b' : Pat) (hs' : List Pat) : Prop := ∃ m, meetP b b' = some m ∧ ¬ VoidP m (hs ++ hs')
/-- mapping.Check, without an overlap. -/
structure OkM (m : List Ent) : Prop where
  each : ∀ e ∈ m, OkE e
  small : ∀ e ∈ m, e.hs.length ≤ 64
  len : m.length ≤ 32
  fits : ∀ e ∈ m, FitsH e.l e.r e.hs
  apart : ∀ (i j : Nat) x y, j < i → m[i]? = some x → m[j]? = some y → ¬ ComT x.l x.hs y.l y.hs ∧ ¬ ComT x.r (rightL x) y.r (rightL y)

/-- What mapping.Forward answers: the first entry that has the path gives it. -/
theorem fwd_hit {m : List Ent} {e : Ent} {s t : Str} {b : Bool} (he : e ∈ m) (ho : OkE e) (hh : ∃ xs, PathOk xs ∧ s = pathS xs ∧ e.l.has xs = true ∧ anyHas e.hs xs = false) (hf : FwdOk (rel e.l e.r) s t b) : FwdOk (relM m) s t b := by
  obtain ⟨xs, hx, rfl, h1, h2⟩ := hh
  rcases hf with ⟨rfl, xs', ys, hx', hy, e1, rfl, hr⟩ | ⟨rfl, rfl, hn⟩
  · obtain rfl := pathS_inj hx hx' e1
    exact .inl ⟨rfl, xs, ys, hx, hy, rfl, rfl, e, he, hr, h2⟩
  · exfalso
    obtain ⟨c, hc⟩ := has_iff.1 h1
    have hfit := capt_fit _ _ _ _ hc
    exact hn xs hx rfl _ ⟨c, hc, capt_fill _ _ _ (by rw [← ho.line.st, ← ho.line.rest]; exact hfit)⟩
theorem fwd_none {m : List Ent} {s : Str} (h : ∀ e ∈ m, ∀ xs, PathOk xs → s = pathS xs → ¬ (e.l.has xs = true ∧ anyHas e.hs xs = false)) : FwdOk (relM m) s [] false :=
  .inr ⟨rfl, rfl, fun xs hx hs _ ⟨e, he, hr, hn⟩ => h e he xs hx hs ⟨rel_left hr, hn⟩⟩
end Go.Proofs.YtejljmikammcdaaGreatDoor
