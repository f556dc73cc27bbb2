/-
  Several texts in one: PtMath, PtMatB, PtMatC, PtMatD.
-/
import Derived.WalkKit
/-
  Patterns in plain words: parts, captures, narrowing, and the relation of a line (chapters 3 to 5). No program stands in it.
-/
namespace Go.Proofs.YtejljmikammcdaaGreatDoor

abbrev Str := List UInt8

structure Pat where
  parts : List Str
  rest : Bool

def star (a : Str) : Bool := [42].isPrefixOf a
def suf (a : Str) : Str := a.drop 1

/-- pattern.MatchPart: the capture (none where the component does not match; of a part that is no wildcard the empty text). -/
def mpart (a c : Str) : Option Str :=
  if star a then (if (suf a).isSuffixOf c && decide ((suf a).length < c.length) then some (c.take (c.length - (suf a).length)) else none)
  else if a = c then some [] else none

theorem star_eq (x : UInt8) (u : Str) : star (x :: u) = (42 == x) := by
  show ((42 : UInt8) == x && List.isPrefixOf [] u) = _
  cases u <;> exact Bool.and_true _
theorem star_cons (u : Str) : star (42 :: u) = true := by rw [star_eq]; rfl
theorem suf_cons (x : UInt8) (u : Str) : suf (x :: u) = u := rfl
theorem star_iff {a : Str} : star a = true ↔ ∃ u, a = 42 :: u := by
  cases a with
  | nil => exact ⟨(fun h => nomatch h), (fun h => nomatch h)⟩
  | cons x u =>
    rw [star_eq, beq_iff_eq]
    exact ⟨fun h => ⟨u, by rw [h]⟩, fun ⟨v, h⟩ => by cases h; rfl⟩
theorem mpart_star {u c x : Str} : mpart (42 :: u) c = some x ↔ x ≠ [] ∧ c = x ++ u := by
  unfold mpart
  rw [if_pos (star_cons u), suf_cons]
  constructor
  · intro h
    split at h
    · next hc =>
      simp only [Bool.and_eq_true, decide_eq_true_eq] at hc
      obtain ⟨⟨t, ht⟩, h2⟩ := And.intro (List.isSuffixOf_iff_suffix.1 hc.1) hc.2
      cases h
      subst ht
      rw [List.length_append] at h2 ⊢
      rw [Nat.add_sub_cancel, List.take_left']
      · exact ⟨fun e => by subst e; simp at h2, rfl⟩
      · rfl
    · cases h
  · rintro ⟨hx, rfl⟩
    have hl : 0 < x.length := List.length_pos_iff.2 hx
    rw [if_pos (by simp only [Bool.and_eq_true, decide_eq_true_eq, List.length_append]; exact ⟨List.isSuffixOf_iff_suffix.2 ⟨x, rfl⟩, by omega⟩)]
    rw [List.length_append, Nat.add_sub_cancel, List.take_left' rfl]
theorem mpart_lit {a c x : Str} (h : star a = false) : mpart a c = some x ↔ a = c ∧ x = [] := by
  unfold mpart
  rw [if_neg (by rw [h]; decide)]
  by_cases hc : a = c
  · rw [if_pos hc]; simp [hc, eq_comm]
  · rw [if_neg hc]; simp [hc]

theorem mpart_self {a : Str} (h : star a = false) : mpart a a = some [] := (mpart_lit h).2 ⟨rfl, rfl⟩
theorem mpart_starred {a c x : Str} (h : star a = true) : mpart a c = some x ↔ x ≠ [] ∧ c = x ++ suf a := by
  obtain ⟨u, rfl⟩ := star_iff.1 h
  exact mpart_star

theorem star_app {b s : Str} (hb : b ≠ []) : star (b ++ s) = star b := by
  cases b with
  | nil => exact absurd rfl hb
  | cons x u => rw [List.cons_append, star_eq, star_eq]
/-- A narrower part and what its wildcard is bound to are matched alike. -/
theorem mpart_app {b c s : Str} (hb : b ≠ []) : mpart (b ++ s) (c ++ s) = mpart b c := by
  apply Option.ext
  intro x
  cases hs : star b with
  | true =>
    obtain ⟨u, rfl⟩ := star_iff.1 hs
    rw [List.cons_append, mpart_star, mpart_star]
    constructor
    · rintro ⟨h1, h2⟩
      refine ⟨h1, ?_⟩
      rw [← List.append_assoc] at h2
      exact List.append_cancel_right h2
    · rintro ⟨h1, rfl⟩
      exact ⟨h1, by rw [List.append_assoc]⟩
  | false =>
    rw [mpart_lit hs, mpart_lit (by rw [star_app hb]; exact hs)]
    constructor
    · rintro ⟨h1, h2⟩; exact ⟨List.append_cancel_right h1, h2⟩
    · rintro ⟨rfl, h2⟩; exact ⟨rfl, h2⟩

/-- The captures of a path's components: one list of components for each wildcard. -/
def capt : List Str → Bool → List Str → Option (List (List Str))
  | [], rest, cs => if rest then (if cs = [] then none else some [cs]) else (if cs = [] then some [] else none)
  | _ :: _, _, [] => none
  | a :: ps, rest, c :: cs => (mpart a c).bind fun x => (capt ps rest cs).map fun l => if star a then [x] :: l else l

/-- The components match. -/
def mtch : List Str → Bool → List Str → Bool
  | [], rest, cs => if rest then !cs.isEmpty else cs.isEmpty
  | _ :: _, _, [] => false
  | a :: ps, rest, c :: cs => (mpart a c).isSome && mtch ps rest cs

theorem capt_isSome : ∀ (ps : List Str) (r : Bool) (cs : List Str), (capt ps r cs).isSome = mtch ps r cs
  | [], r, cs => by cases r <;> cases cs <;> rfl
  | _ :: _, _, [] => rfl
  | a :: ps, r, c :: cs => by
    unfold capt mtch
    rw [← capt_isSome ps r cs]
    cases mpart a c with
    | none => rfl
    | some x => cases capt ps r cs <;> rfl

theorem capt_cons {a c : Str} {ps cs : List Str} {r : Bool} {l : List (List Str)} :
    capt (a :: ps) r (c :: cs) = some l ↔ ∃ x l', mpart a c = some x ∧ capt ps r cs = some l' ∧ l = (if star a then [x] :: l' else l') := by
  show (mpart a c).bind _ = some l ↔ _
  cases mpart a c with
  | none => exact ⟨(fun h => nomatch h), (fun ⟨_, _, h, _⟩ => nomatch h)⟩
  | some x =>
    cases capt ps r cs with
    | none => exact ⟨(fun h => nomatch h), (fun ⟨_, _, _, h, _⟩ => nomatch h)⟩
    | some l' => exact ⟨fun h => ⟨x, l', rfl, rfl, (Option.some.inj h).symm⟩, fun ⟨_, _, h1, h2, h3⟩ => by cases h1; cases h2; rw [h3]; rfl⟩

/-- The bindings' parts laid into the wildcards of a pattern's parts (pattern.Substitute). -/
def subst : List Str → List Str → List Str
  | [], _ => []
  | t :: ts, bs => if star t then (match bs with | b :: bs' => (b ++ suf t) :: subst ts bs' | [] => t :: subst ts []) else t :: subst ts bs

def stars (ps : List Str) : Nat := ps.countP star

theorem stars_cons (a : Str) (ps : List Str) : stars (a :: ps) = stars ps + if star a then 1 else 0 := by simp [stars, List.countP_cons]

/-- What Rest may be narrowed to: parts and Rest, not nothing; where there is no Rest nothing. -/
def Tip (rest : Bool) (ds : List Str) (nr : Bool) : Prop := if rest then ds ≠ [] ∨ nr = true else ds = [] ∧ nr = false

theorem capt_some_nil {ps : List Str} {r : Bool} (h : ps ≠ [] ∨ r = true) (l : List (List Str)) : capt ps r [] ≠ some l := by
  cases ps with
  | cons a ps => intro e; cases e
  | nil =>
    rcases h with h | rfl
    · exact absurd rfl h
    · intro e; cases e

/-- With its captures at hand, a path matches the narrower pattern as its captures match the bindings. -/
theorem capt_subst {rest nr : Bool} {ds : List Str} (ht : Tip rest ds nr) : ∀ (ts bs : List Str) (ys : List Str) (m : List (List Str)), bs.length = stars ts → (∀ b ∈ bs, b ≠ []) →
    capt ts rest ys = some m → capt (subst ts bs ++ ds) nr ys = capt (bs ++ ds) nr m.flatten
  | [], bs, ys, m, hl, hb, h => by
    obtain rfl : bs = [] := List.eq_nil_of_length_eq_zero hl
    show capt ([] ++ ds) nr ys = capt ([] ++ ds) nr m.flatten
    unfold capt at h
    cases rest with
    | true =>
      simp only [if_true] at h
      split at h
      · cases h
      · cases h; simp
    | false =>
      simp only [Bool.false_eq_true, if_false] at h
      split at h
      · next he => cases h; rw [he]; rfl
      · cases h
  | t :: ts, bs, [], m, hl, hb, h => by cases h
  | t :: ts, bs, y :: ys, m, hl, hb, h => by
    obtain ⟨x, m', hx, hm, rfl⟩ := capt_cons.1 h
    rw [stars_cons] at hl
    cases hs : star t with
    | true =>
      rw [hs] at hl
      cases bs with
      | nil => simp at hl
      | cons b bs' =>
        have ih := capt_subst ht ts bs' ys m' (by simpa using hl) (fun b' h' => hb b' (List.mem_cons_of_mem _ h')) hm
        obtain ⟨hx0, rfl⟩ := (mpart_starred hs).1 hx
        have hb0 := hb b (List.mem_cons_self ..)
        show capt (subst (t :: ts) (b :: bs') ++ ds) nr _ = _
        unfold subst
        rw [hs]
        simp only [if_true, List.cons_append, List.flatten_cons, List.nil_append]
        unfold capt
        rw [mpart_app hb0, ih, star_app hb0]
    | false =>
      rw [hs] at hl
      have ih := capt_subst ht ts bs ys m' (by simpa using hl) hb hm
      obtain ⟨rfl, rfl⟩ := (mpart_lit hs).1 hx
      unfold subst
      rw [hs]
      simp only [Bool.false_eq_true, if_false, List.cons_append]
      rw [← ih]
      conv => lhs; unfold capt
      rw [hx]
      simp [hs]

/-- What matches the narrower pattern matches the wider one. -/
theorem capt_wide {rest nr : Bool} {ds : List Str} (ht : Tip rest ds nr) : ∀ (ts bs : List Str) (ys : List Str) (m : List (List Str)), bs.length = stars ts → (∀ b ∈ bs, b ≠ []) →
    capt (subst ts bs ++ ds) nr ys = some m → ∃ l, capt ts rest ys = some l
  | [], bs, ys, m, hl, hb, h => by
    unfold Tip at ht
    show ∃ l, capt [] rest ys = some l
    have h' : capt ds nr ys = some m := h
    cases rest with
    | true =>
      rw [if_pos rfl] at ht
      cases ys with
      | nil => exact absurd h' (capt_some_nil ht m)
      | cons y ys => exact ⟨_, rfl⟩
    | false =>
      obtain ⟨rfl, rfl⟩ : ds = [] ∧ nr = false := by simpa using ht
      exact ⟨m, h'⟩
  | t :: ts, bs, [], m, hl, hb, h => by
    have : subst (t :: ts) bs ≠ [] := by
      unfold subst
      cases star t
      · simp
      · cases bs <;> simp
    cases hq : subst (t :: ts) bs with
    | nil => exact absurd hq this
    | cons q qs => rw [hq] at h; cases h
  | t :: ts, bs, y :: ys, m, hl, hb, h => by
    rw [stars_cons] at hl
    cases hs : star t with
    | true =>
      rw [hs] at hl
      cases bs with
      | nil => simp at hl
      | cons b bs' =>
        unfold subst at h
        rw [hs] at h
        simp only [if_true, List.cons_append] at h
        obtain ⟨x, m', hx, hm, -⟩ := capt_cons.1 h
        obtain ⟨l, hl'⟩ := capt_wide ht ts bs' ys m' (by simpa using hl) (fun b' h' => hb b' (List.mem_cons_of_mem _ h')) hm
        have hb0 := hb b (List.mem_cons_self ..)
        have : ∃ z, mpart t y = some z := by
          cases hsb : star b with
          | true =>
            have := (mpart_starred (by rw [star_app hb0]; exact hsb)).1 hx
            obtain ⟨u, rfl⟩ := star_iff.1 hsb
            refine ⟨x ++ u, (mpart_starred hs).2 ⟨by simp [this.1], ?_⟩⟩
            rw [this.2]; simp [suf]
          | false =>
            have := (mpart_lit (by rw [star_app hb0]; exact hsb)).1 hx
            exact ⟨b, (mpart_starred hs).2 ⟨hb0, this.1.symm⟩⟩
        obtain ⟨z, hz⟩ := this
        exact ⟨_, capt_cons.2 ⟨z, l, hz, hl', rfl⟩⟩
    | false =>
      rw [hs] at hl
      unfold subst at h
      rw [hs] at h
      simp only [Bool.false_eq_true, if_false, List.cons_append] at h
      obtain ⟨x, m', hx, hm, -⟩ := capt_cons.1 h
      obtain ⟨l, hl'⟩ := capt_wide ht ts bs ys m' (by simpa using hl) hb hm
      exact ⟨_, capt_cons.2 ⟨x, l, hx, hl', rfl⟩⟩

/-- What the captures of a pattern with k parts with "*" look like. -/
def Fit : Nat → Bool → List (List Str) → Prop
  | 0, r, l => if r then ∃ cs, cs ≠ [] ∧ l = [cs] else l = []
  | k + 1, r, l => ∃ x l', x ≠ [] ∧ l = [x] :: l' ∧ Fit k r l'

theorem capt_fit : ∀ (ps : List Str) (r : Bool) (xs : List Str) (l : List (List Str)), capt ps r xs = some l → Fit (stars ps) r l
  | [], r, xs, l, h => by
    show Fit 0 r l
    unfold capt at h
    unfold Fit
    cases r with
    | true =>
      simp only [if_true] at h ⊢
      split at h
      · cases h
      · next hn => cases h; exact ⟨xs, hn, rfl⟩
    | false =>
      simp only [Bool.false_eq_true, if_false] at h ⊢
      split at h
      · cases h; rfl
      · cases h
  | a :: ps, r, [], l, h => by cases h
  | a :: ps, r, x :: xs, l, h => by
    obtain ⟨z, l', hz, hl, rfl⟩ := capt_cons.1 h
    have ih := capt_fit ps r xs l' hl
    rw [stars_cons]
    cases hs : star a with
    | true => exact ⟨z, l', ((mpart_starred hs).1 hz).1, rfl, ih⟩
    | false => exact ih

theorem fit_flatten : ∀ (k : Nat) (r : Bool) (l m : List (List Str)), Fit k r l → Fit k r m → l.flatten = m.flatten → l = m
  | 0, true, l, m, hl, hm, h => by
    obtain ⟨a, -, rfl⟩ := (show ∃ cs, cs ≠ [] ∧ l = [cs] from hl)
    obtain ⟨b, -, rfl⟩ := (show ∃ cs, cs ≠ [] ∧ m = [cs] from hm)
    simp at h; rw [h]
  | 0, false, l, m, hl, hm, h => by
    rw [show l = [] from hl, show m = [] from hm]
  | k + 1, r, l, m, hl, hm, h => by
    obtain ⟨x, l', -, rfl, hl'⟩ := hl
    obtain ⟨y, m', -, rfl, hm'⟩ := hm
    simp only [List.flatten_cons, List.cons_append, List.nil_append, List.cons.injEq] at h
    rw [h.1, fit_flatten k r l' m' hl' hm' h.2]

theorem capt_inj : ∀ (ps : List Str) (r : Bool) (xs ys : List Str) (l : List (List Str)), capt ps r xs = some l → capt ps r ys = some l → xs = ys
  | [], r, xs, ys, l, h, k => by
    unfold capt at h k
    cases r with
    | true =>
      simp only [if_true] at h k
      split at h
      · cases h
      · cases h
        split at k
        · cases k
        · cases k; rfl
    | false =>
      simp only [Bool.false_eq_true, if_false] at h k
      split at h
      · next e =>
        split at k
        · next f => rw [e, f]
        · cases k
      · cases h
  | a :: ps, r, [], ys, l, h, k => by cases h
  | a :: ps, r, x :: xs, [], l, h, k => by cases k
  | a :: ps, r, x :: xs, y :: ys, l, h, k => by
    obtain ⟨z, l', hz, hl, rfl⟩ := capt_cons.1 h
    obtain ⟨z', l'', hz', hl', e⟩ := capt_cons.1 k
    cases hs : star a with
    | true =>
      rw [hs] at e
      simp only [if_true, List.cons.injEq] at e
      obtain ⟨⟨rfl, -⟩, rfl⟩ := e
      rw [((mpart_starred hs).1 hz).2, ((mpart_starred hs).1 hz').2, capt_inj ps r xs ys l' hl hl']
    | false =>
      rw [hs] at e
      simp only [Bool.false_eq_true, if_false] at e
      subst e
      rw [← ((mpart_lit hs).1 hz).1, ← ((mpart_lit hs).1 hz').1, capt_inj ps r xs ys l' hl hl']

/-- The path with the given captures (pattern.Fill). -/
def fillL : List Str → Bool → List (List Str) → List Str
  | [], r, l => if r then l.flatten else []
  | t :: ts, r, l => if star t then ((l.head?.getD []).flatten ++ suf t) :: fillL ts r l.tail else t :: fillL ts r l

theorem capt_fill : ∀ (ts : List Str) (r : Bool) (l : List (List Str)), Fit (stars ts) r l → capt ts r (fillL ts r l) = some l
  | [], r, l, h => by
    have h' : Fit 0 r l := h
    unfold Fit at h'
    unfold fillL capt
    cases r with
    | true =>
      simp only [if_true] at h' ⊢
      obtain ⟨cs, hn, rfl⟩ := h'
      simp [hn]
    | false =>
      simp only [Bool.false_eq_true, if_false] at h' ⊢
      simp [h']
  | t :: ts, r, l, h => by
    rw [stars_cons] at h
    unfold fillL
    cases hs : star t with
    | true =>
      rw [hs] at h
      obtain ⟨x, l', hx, rfl, hl⟩ := h
      rw [if_pos rfl]
      refine capt_cons.2 ⟨x, l', (mpart_starred hs).2 ⟨hx, by simp⟩, capt_fill ts r l' hl, by rw [hs, if_pos rfl]⟩
    | false =>
      rw [hs] at h
      rw [if_neg (by decide)]
      exact capt_cons.2 ⟨[], l, mpart_self hs, capt_fill ts r l h, by rw [hs, if_neg (by decide)]⟩

/-- The relation of a line: the paths with equal captures. -/
def rel (p q : Pat) (xs ys : List Str) : Prop := ∃ l, capt p.parts p.rest xs = some l ∧ capt q.parts q.rest ys = some l
def Pat.has (p : Pat) (xs : List Str) : Bool := mtch p.parts p.rest xs

theorem rel_swap {p q : Pat} {xs ys : List Str} : rel p q xs ys ↔ rel q p ys xs := ⟨fun ⟨l, a, b⟩ => ⟨l, b, a⟩, fun ⟨l, a, b⟩ => ⟨l, b, a⟩⟩
theorem has_iff {p : Pat} {xs : List Str} : p.has xs = true ↔ ∃ l, capt p.parts p.rest xs = some l := by
  unfold Pat.has; rw [← capt_isSome, Option.isSome_iff_exists]
theorem rel_left {p q : Pat} {xs ys : List Str} (h : rel p q xs ys) : p.has xs = true := has_iff.2 ⟨_, h.choose_spec.1⟩
theorem rel_right {p q : Pat} {xs ys : List Str} (h : rel p q xs ys) : q.has ys = true := has_iff.2 ⟨_, h.choose_spec.2⟩
theorem rel_inj {p q : Pat} {xs ys zs : List Str} (h : rel p q xs ys) (k : rel p q xs zs) : ys = zs := by
  obtain ⟨l, a, b⟩ := h
  obtain ⟨m, c, d⟩ := k
  rw [a] at c; cases c
  exact capt_inj _ _ _ _ _ b d

/-- narrow is from with bindings, and to narrowed alike. -/
structure Nar (from_ narrow to_ res : Pat) : Prop where
  ex : ∃ bs ds, Tip from_.rest ds narrow.rest ∧ (∀ b ∈ bs, b ≠ []) ∧ bs.length = stars from_.parts ∧ narrow.parts = subst from_.parts bs ++ ds ∧ res.parts = subst to_.parts bs ++ ds
  st : stars from_.parts = stars to_.parts
  rest : from_.rest = to_.rest
  nr : res.rest = narrow.rest

theorem Nar.swap {f n t r : Pat} (h : Nar f n t r) : Nar t r f n := by
  obtain ⟨⟨bs, ds, h1, h2, h3, h4, h5⟩, h6, h7, h8⟩ := h
  exact ⟨⟨bs, ds, by rw [← h7, h8]; exact h1, h2, by rw [← h6]; exact h3, h5, h4⟩, h6.symm, h7.symm, h8.symm⟩
theorem Nar.capt {f n t r : Pat} (h : Nar f n t r) {xs ys : List Str} (hr : rel f t xs ys) : capt n.parts n.rest xs = Go.Proofs.YtejljmikammcdaaGreatDoor.capt r.parts r.rest ys := by
  obtain ⟨⟨bs, ds, h1, h2, h3, h4, h5⟩, h6, h7, h8⟩ := h
  obtain ⟨l, hl, hm⟩ := hr
  rw [h4, h5, h8, capt_subst h1 f.parts bs xs l h3 h2 hl, capt_subst (by rw [← h7]; exact h1) t.parts bs ys l (by rw [← h6]; exact h3) h2 hm]
theorem Nar.wide {f n t r : Pat} (h : Nar f n t r) {xs : List Str} (hx : n.has xs = true) : f.has xs = true := by
  obtain ⟨⟨bs, ds, h1, h2, h3, h4, h5⟩, h6, h7, h8⟩ := h
  obtain ⟨l, hl⟩ := has_iff.1 hx
  rw [h4] at hl
  exact has_iff.2 (capt_wide h1 f.parts bs xs l h3 h2 hl)
theorem Nar.has {f n t r : Pat} (h : Nar f n t r) {xs ys : List Str} (hr : rel f t xs ys) : n.has xs = r.has ys := by
  unfold Pat.has
  rw [← capt_isSome, ← capt_isSome, h.capt hr]
/-- The narrowed line relates what the line relates, of the paths that match. -/
theorem Nar.rel {f n t r : Pat} (h : Nar f n t r) {xs ys : List Str} : rel n r xs ys ↔ Go.Proofs.YtejljmikammcdaaGreatDoor.rel f t xs ys ∧ n.has xs = true := by
  constructor
  · rintro ⟨l', hl', hm'⟩
    refine ⟨?_, has_iff.2 ⟨l', hl'⟩⟩
    obtain ⟨l, hl⟩ := has_iff.1 (h.wide (has_iff.2 ⟨l', hl'⟩))
    obtain ⟨m, hm⟩ := has_iff.1 (h.swap.wide (has_iff.2 ⟨l', hm'⟩))
    obtain ⟨⟨bs, ds, h1, h2, h3, h4, h5⟩, h6, h7, h8⟩ := h
    have e1 := capt_subst h1 f.parts bs xs l h3 h2 hl
    have e2 := capt_subst (by rw [← h7]; exact h1) t.parts bs ys m (by rw [← h6]; exact h3) h2 hm
    rw [← h4, hl'] at e1
    rw [← h5, ← h8, hm', h8] at e2
    have e := capt_inj _ _ _ _ _ e1.symm e2.symm
    have := fit_flatten _ _ l m (capt_fit _ _ _ _ hl) (by have := capt_fit _ _ _ _ hm; rw [← h6, ← h7] at this; exact this) e
    subst this
    exact ⟨l, hl, hm⟩
  · rintro ⟨hr, hn⟩
    obtain ⟨l, hl⟩ := has_iff.1 hn
    exact ⟨l, hl, by rw [← h.capt hr]; exact hl⟩

/-- What matches a pattern on one side of a narrowed line has a partner. -/
theorem stars_append (a b : List Str) : stars (a ++ b) = stars a + stars b := by simp [stars, List.countP_append]
theorem stars_subst : ∀ (ts bs : List Str), bs.length = stars ts → (∀ b ∈ bs, b ≠ []) → stars (subst ts bs) = stars bs
  | [], bs, h, _ => by obtain rfl : bs = [] := List.eq_nil_of_length_eq_zero h; rfl
  | t :: ts, bs, h, hb => by
    rw [stars_cons] at h
    unfold subst
    cases hs : star t with
    | true =>
      rw [hs] at h
      cases bs with
      | nil => simp at h
      | cons b bs' =>
        rw [if_pos rfl, stars_cons, stars_cons, star_app (hb b (List.mem_cons_self ..)), stars_subst ts bs' (by simpa using h) (fun b' h' => hb b' (List.mem_cons_of_mem _ h'))]
    | false =>
      rw [hs] at h
      rw [if_neg (by decide), stars_cons, hs, stars_subst ts bs (by simpa using h) hb]
      rfl
theorem Nar.stars {f n t r : Pat} (h : Nar f n t r) : stars n.parts = Go.Proofs.YtejljmikammcdaaGreatDoor.stars r.parts := by
  obtain ⟨⟨bs, ds, h1, h2, h3, h4, h5⟩, h6, h7, h8⟩ := h
  rw [h4, h5, stars_append, stars_append, stars_subst _ _ h3 h2, stars_subst _ _ (by rw [← h6]; exact h3) h2]
theorem Nar.partner {f n t r : Pat} (h : Nar f n t r) {xs : List Str} (hx : n.has xs = true) : ∃ ys, Go.Proofs.YtejljmikammcdaaGreatDoor.rel n r xs ys := by
  obtain ⟨l, hl⟩ := has_iff.1 hx
  exact ⟨_, l, hl, capt_fill _ _ _ (by rw [← h.stars, h.nr]; exact capt_fit _ _ _ _ hl)⟩

/-- pattern.PartWithin. -/
def within1 (a b : Str) : Bool := a == b || (star b && (if star a then (suf b).isSuffixOf (suf a) else (mpart b a).isSome))

theorem within1_lit {n a : Str} (h : within1 n a = true) (hs : star a = false) : n = a := by
  unfold within1 at h
  rw [hs] at h
  simpa using h
/-- What a wildcard is narrowed to. -/
def bindOf (n a : Str) : Str := n.take (n.length - (suf a).length)
theorem within1_star {n a : Str} (h : within1 n a = true) (hs : star a = true) : bindOf n a ≠ [] ∧ n = bindOf n a ++ suf a := by
  suffices H : ∃ b, b ≠ [] ∧ n = b ++ suf a by
    obtain ⟨b, hb, hn⟩ := H
    have : bindOf n a = b := by
      unfold bindOf
      rw [hn, List.length_append, Nat.add_sub_cancel, List.take_left' rfl]
    rw [this]; exact ⟨hb, hn⟩
  obtain ⟨s, rfl⟩ := star_iff.1 hs
  unfold within1 at h
  rw [hs] at h
  simp only [Bool.true_and, Bool.or_eq_true, beq_iff_eq] at h
  rcases h with rfl | h
  · exact ⟨[42], by simp, by simp [suf]⟩
  · cases hn : star n with
    | true =>
      rw [hn, if_pos rfl] at h
      obtain ⟨u, rfl⟩ := star_iff.1 hn
      obtain ⟨t, ht⟩ := List.isSuffixOf_iff_suffix.1 h
      exact ⟨42 :: t, by simp, by rw [List.cons_append, ht]; rfl⟩
    | false =>
      rw [hn, if_neg (by decide)] at h
      obtain ⟨x, hx⟩ := Option.isSome_iff_exists.1 h
      exact ⟨x, mpart_star.1 hx⟩
theorem within1_refl (a : Str) : within1 a a = true := by simp [within1]
theorem within1_sound {n a c : Str} (h : within1 n a = true) (hc : (mpart n c).isSome = true) : (mpart a c).isSome = true := by
  cases hs : star a with
  | false => rw [← within1_lit h hs]; exact hc
  | true =>
    obtain ⟨hb, hn⟩ := within1_star h hs
    obtain ⟨x, hx⟩ := Option.isSome_iff_exists.1 hc
    cases hsn : star n with
    | true =>
      obtain ⟨hx0, hcx⟩ := (mpart_starred hsn).1 hx
      have hsb : star (bindOf n a) = true := by rw [← star_app (s := suf a) hb, ← hn]; exact hsn
      obtain ⟨u, hu⟩ := star_iff.1 hsb
      rw [hu] at hn
      refine Option.isSome_iff_exists.2 ⟨x ++ u, (mpart_starred hs).2 ⟨by simp [hx0], ?_⟩⟩
      rw [hcx, hn]; simp [suf]
    | false =>
      obtain ⟨rfl, -⟩ := (mpart_lit hsn).1 hx
      exact Option.isSome_iff_exists.2 ⟨_, (mpart_starred hs).2 ⟨hb, hn⟩⟩

/-- pattern.Inside. -/
def insideL : List Str → Bool → List Str → Bool → Bool
  | ps, pr, [], qr => if qr then !ps.isEmpty || pr else ps.isEmpty && !pr
  | [], _, _ :: _, _ => false
  | a :: ps, pr, b :: qs, qr => within1 a b && insideL ps pr qs qr

/-- The bindings of the parts with "*". -/
def binds : List Str → List Str → List Str
  | a :: ps, n :: ns => if star a then bindOf n a :: binds ps ns else binds ps ns
  | _, _ => []

theorem inside_binds : ∀ (ps : List Str) (rest : Bool) (ns : List Str) (nr : Bool), insideL ns nr ps rest = true →
    (binds ps ns).length = stars ps ∧ (∀ b ∈ binds ps ns, b ≠ []) ∧ ns = subst ps (binds ps ns) ++ ns.drop ps.length ∧ Tip rest (ns.drop ps.length) nr
  | [], rest, ns, nr, h => by
    refine ⟨by simp [binds, stars], by simp [binds], by simp [subst], ?_⟩
    unfold insideL at h
    unfold Tip
    cases rest with
    | true =>
      simp only [if_true, Bool.or_eq_true] at h ⊢
      rcases h with h | h
      · left; intro e; rw [List.length_nil, List.drop_zero] at e; subst e; cases h
      · exact .inr h
    | false =>
      simp only [Bool.false_eq_true, if_false, Bool.and_eq_true] at h ⊢
      exact ⟨by rw [List.length_nil, List.drop_zero]; exact List.isEmpty_iff.1 h.1, by simpa using h.2⟩
  | a :: ps, rest, [], nr, h => by cases h
  | a :: ps, rest, n :: ns, nr, h => by
    unfold insideL at h
    simp only [Bool.and_eq_true] at h
    obtain ⟨h1, h2, h3, h4⟩ := inside_binds ps rest ns nr h.2
    unfold binds
    rw [stars_cons, List.length_cons, List.drop_succ_cons]
    cases hs : star a with
    | true =>
      obtain ⟨hb, hn⟩ := within1_star h.1 hs
      rw [if_pos rfl, if_pos rfl]
      refine ⟨by simp [h1], ?_, ?_, h4⟩
      · intro b hb'
        rcases List.mem_cons.1 hb' with rfl | hb'
        · exact hb
        · exact h2 b hb'
      · unfold subst
        rw [hs, if_pos rfl]
        simp only [List.cons_append]
        rw [← h3, ← hn]
    | false =>
      rw [if_neg (by decide), if_neg (by decide)]
      refine ⟨by simp [h1], h2, ?_, h4⟩
      unfold subst
      rw [hs, if_neg (by decide), List.cons_append, ← h3, within1_lit h.1 hs]

/-- What becomes of to if from is narrowed (rule.carry). -/
def carry (f n t : Pat) : Pat := ⟨subst t.parts (binds f.parts n.parts) ++ n.parts.drop f.parts.length, n.rest⟩
theorem carry_nar {f n t : Pat} (hi : insideL n.parts n.rest f.parts f.rest = true) (hs : stars f.parts = stars t.parts) (hr : f.rest = t.rest) : Nar f n t (carry f n t) := by
  obtain ⟨h1, h2, h3, h4⟩ := inside_binds _ _ _ _ hi
  exact ⟨⟨_, _, h4, h2, h1, h3, rfl⟩, hs, hr, rfl⟩

theorem inside_refl : ∀ (ps : List Str) (r : Bool), insideL ps r ps r = true
  | [], true => rfl
  | [], false => rfl
  | a :: ps, r => by unfold insideL; rw [within1_refl, inside_refl ps r]; rfl

/-- What matches a pattern matches those that it lies in. -/
theorem inside_sound : ∀ (ps : List Str) (pr : Bool) (qs : List Str) (qr : Bool) (xs : List Str), insideL ps pr qs qr = true → mtch ps pr xs = true → mtch qs qr xs = true
  | ps, pr, [], qr, xs, h, hm => by
    unfold insideL at h
    unfold mtch
    cases qr with
    | true =>
      simp only [if_true, Bool.or_eq_true] at h ⊢
      cases xs with
      | cons x xs => rfl
      | nil =>
        cases ps with
        | nil =>
          rcases h with h | rfl
          · cases h
          · cases hm
        | cons a ps => cases hm
    | false =>
      simp only [Bool.false_eq_true, if_false, Bool.and_eq_true] at h ⊢
      obtain rfl : ps = [] := List.isEmpty_iff.1 h.1
      obtain rfl : pr = false := by simpa using h.2
      exact hm
  | [], pr, b :: qs, qr, xs, h, hm => by cases h
  | a :: ps, pr, b :: qs, qr, [], h, hm => by cases hm
  | a :: ps, pr, b :: qs, qr, x :: xs, h, hm => by
    unfold insideL at h
    unfold mtch at hm ⊢
    simp only [Bool.and_eq_true] at h hm ⊢
    exact ⟨within1_sound h.1 hm.1, inside_sound ps pr qs qr xs h.2 hm.2⟩

/-- pattern.meetPart. -/
def meetPart (a b : Str) : Option Str := if within1 a b then some a else if within1 b a then some b else none

theorem meetPart_some {a b n : Str} (h : meetPart a b = some n) : within1 n a = true ∧ within1 n b = true ∧ (n = a ∨ n = b) := by
  unfold meetPart at h
  split at h
  · next hw => cases h; exact ⟨within1_refl _, hw, .inl rfl⟩
  · split at h
    · next hw => cases h; exact ⟨hw, within1_refl _, .inr rfl⟩
    · cases h
theorem meetPart_has {a b n c : Str} (h : meetPart a b = some n) : (mpart n c).isSome = ((mpart a c).isSome && (mpart b c).isSome) := by
  obtain ⟨h1, h2, h3⟩ := meetPart_some h
  apply Bool.eq_iff_iff.2
  rw [Bool.and_eq_true]
  constructor
  · exact fun hc => ⟨within1_sound h1 hc, within1_sound h2 hc⟩
  · rintro ⟨ha, hb⟩
    rcases h3 with rfl | rfl
    · exact ha
    · exact hb
theorem meetPart_none {a b c : Str} (h : meetPart a b = none) : ((mpart a c).isSome && (mpart b c).isSome) = false := by
  apply Bool.eq_false_iff.2
  intro hc
  rw [Bool.and_eq_true] at hc
  obtain ⟨x, hx⟩ := Option.isSome_iff_exists.1 hc.1
  obtain ⟨y, hy⟩ := Option.isSome_iff_exists.1 hc.2
  unfold meetPart at h
  split at h
  · cases h
  next h1 =>
  split at h
  · cases h
  next h2 =>
  unfold within1 at h1 h2
  cases hsa : star a with
  | true =>
    have ha := (mpart_starred hsa).1 hx
    cases hsb : star b with
    | true =>
      have hb := (mpart_starred hsb).1 hy
      have s1 : suf a <:+ c := ⟨x, ha.2.symm⟩
      have s2 : suf b <:+ c := ⟨y, hb.2.symm⟩
      rcases List.suffix_or_suffix_of_suffix s1 s2 with s | s
      · apply h2; rw [hsb, hsa]; simp only [if_true, Bool.true_and, Bool.or_eq_true]; exact .inr (List.isSuffixOf_iff_suffix.2 s)
      · apply h1; rw [hsa, hsb]; simp only [if_true, Bool.true_and, Bool.or_eq_true]; exact .inr (List.isSuffixOf_iff_suffix.2 s)
    | false =>
      obtain ⟨rfl, -⟩ := (mpart_lit hsb).1 hy
      apply h2; rw [hsa, hsb, hx]; simp
  | false =>
    obtain ⟨rfl, -⟩ := (mpart_lit hsa).1 hx
    cases hsb : star b with
    | true => apply h1; rw [hsa, hsb, hy]; simp
    | false =>
      obtain ⟨rfl, -⟩ := (mpart_lit hsb).1 hy
      apply h1; simp

/-- pattern.Meet's loop: the first list is not the shorter one. -/
def meetL : List Str → List Str → Option (List Str)
  | ps, [] => some ps
  | [], _ :: _ => none
  | a :: ps, b :: qs => (meetPart a b).bind fun n => (meetL ps qs).map (n :: ·)

def compat (n : Nat) (rest : Bool) (m : Nat) (other : Bool) : Bool :=
  if rest && other then true else if rest then decide (n < m) else if other then decide (m < n) else decide (n = m)

theorem mtch_len : ∀ (ps : List Str) (r : Bool) (xs : List Str), mtch ps r xs = true → if r then ps.length < xs.length else ps.length = xs.length
  | [], r, xs, h => by
    unfold mtch at h
    cases r with
    | true => cases xs <;> simp_all
    | false => cases xs <;> simp_all
  | a :: ps, r, [], h => by cases h
  | a :: ps, r, x :: xs, h => by
    unfold mtch at h
    rw [Bool.and_eq_true] at h
    have := mtch_len ps r xs h.2
    cases r with
    | true => simp only [if_true, List.length_cons] at this ⊢; omega
    | false => simp only [Bool.false_eq_true, if_false, List.length_cons] at this ⊢; omega

theorem compat_not {ps qs : List Str} {pr qr : Bool} (h : compat ps.length pr qs.length qr = false) (xs : List Str) : (mtch ps pr xs && mtch qs qr xs) = false := by
  apply Bool.eq_false_iff.2
  intro hc
  rw [Bool.and_eq_true] at hc
  have h1 := mtch_len _ _ _ hc.1
  have h2 := mtch_len _ _ _ hc.2
  unfold compat at h
  cases pr <;> cases qr <;> simp at h h1 h2 <;> omega

theorem meetL_none : ∀ (ps qs : List Str) (pr qr : Bool) (xs : List Str), qs.length ≤ ps.length → meetL ps qs = none → (mtch ps pr xs && mtch qs qr xs) = false
  | ps, [], pr, qr, xs, hl, h => by cases ps <;> cases h
  | [], b :: qs, pr, qr, xs, hl, h => by simp at hl
  | a :: ps, b :: qs, pr, qr, [], hl, h => rfl
  | a :: ps, b :: qs, pr, qr, x :: xs, hl, h => by
    unfold meetL at h
    unfold mtch
    cases hm : meetPart a b with
    | none =>
      have := meetPart_none hm (c := x)
      cases h1 : (mpart a x).isSome <;> cases h2 : (mpart b x).isSome <;> simp_all
    | some n =>
      rw [hm] at h
      have ih := meetL_none ps qs pr qr xs (by simpa using hl) (by simpa using h)
      cases h1 : mtch ps pr xs <;> cases h2 : mtch qs qr xs <;> simp_all

theorem meetL_some : ∀ (ps qs ns : List Str) (pr qr : Bool), compat ps.length pr qs.length qr = true → meetL ps qs = some ns →
    insideL ns (pr && qr) ps pr = true ∧ insideL ns (pr && qr) qs qr = true ∧ ns.length = ps.length ∧ ∀ xs, mtch ns (pr && qr) xs = (mtch ps pr xs && mtch qs qr xs)
  | ps, [], ns, pr, qr, hc, h => by
    obtain rfl : ps = ns := by cases ps <;> cases h <;> rfl
    unfold compat at hc
    cases pr with
    | true =>
      cases qr with
      | true =>
        refine ⟨inside_refl _ _, ?_, rfl, ?_⟩
        · unfold insideL; simp
        · intro xs
          show mtch ps true xs = (mtch ps true xs && !xs.isEmpty)
          cases xs with
          | cons x xs => simp
          | nil => cases ps <;> simp [mtch]
      | false => simp at hc
    | false =>
      cases qr with
      | true =>
        refine ⟨inside_refl _ _, ?_, rfl, ?_⟩
        · unfold insideL
          cases ps with
          | nil => simp at hc
          | cons a ps => rfl
        · intro xs
          show mtch ps false xs = (mtch ps false xs && !xs.isEmpty)
          cases xs with
          | cons x xs => simp
          | nil =>
            cases ps with
            | nil => simp at hc
            | cons a ps => rfl
      | false =>
        obtain rfl : ps = [] := by
          cases ps with
          | nil => rfl
          | cons a ps => simp at hc
        exact ⟨rfl, rfl, rfl, fun xs => by cases xs <;> rfl⟩
  | [], b :: qs, ns, pr, qr, hc, h => by cases h
  | a :: ps, b :: qs, ns, pr, qr, hc, h => by
    unfold meetL at h
    cases hm : meetPart a b with
    | none => rw [hm] at h; cases h
    | some n =>
      rw [hm] at h
      cases hr : meetL ps qs with
      | none => rw [hr] at h; cases h
      | some ms =>
        rw [hr] at h
        cases h
        obtain ⟨i1, i2, i3, i4⟩ := meetL_some ps qs ms pr qr (by
          unfold compat at hc ⊢
          cases pr <;> cases qr <;> simp at hc ⊢ <;> omega) hr
        obtain ⟨h1, h2, -⟩ := meetPart_some hm
        refine ⟨by unfold insideL; rw [h1, i1]; rfl, by unfold insideL; rw [h2, i2]; rfl, by simp [i3], ?_⟩
        intro xs
        cases xs with
        | nil => rfl
        | cons x xs =>
          unfold mtch
          rw [meetPart_has hm, i4 xs]
          cases (mpart a x).isSome <;> cases (mpart b x).isSome <;> cases mtch ps pr xs <;> cases mtch qs qr xs <;> rfl

end Go.Proofs.YtejljmikammcdaaGreatDoor
/-
  Patterns that pass their check, the narrowing of lines, regions without paths, reduced holes, entries and views, in plain words (chapters 3 to 7). No program stands in it.
-/
namespace Go.Proofs.YtejljmikammcdaaGreatDoor

/-- path.IsByte. -/
def isB (c : UInt8) : Bool := decide (65 ≤ c.toNat ∧ c.toNat ≤ 90 ∨ 97 ≤ c.toNat ∧ c.toNat ≤ 122 ∨ 48 ≤ c.toNat ∧ c.toNat ≤ 57 ∨ c.toNat = 95 ∨ c.toNat = 46 ∨ c.toNat = 43 ∨ c.toNat = 45)
/-- path.Component. -/
def compB (s : Str) : Bool := !s.isEmpty && !([46].isPrefixOf s) && s.all isB
/-- pattern.formOf. -/
def form (a : Str) : Nat := if compB a then 1 else if !star a then 0 else if (a.drop 1).all isB then 2 else 0

theorem isB_star : isB 42 = false := by decide
theorem isB_slash : isB 47 = false := by decide
theorem comp_nostar {a : Str} (h : compB a = true) : star a = false := by
  apply Bool.eq_false_iff.2
  intro hs
  obtain ⟨u, rfl⟩ := star_iff.1 hs
  simp [compB, isB_star] at h
theorem form_one {a : Str} : form a = 1 ↔ compB a = true := by
  unfold form
  cases compB a
  · simp only [Bool.false_eq_true, if_false, iff_false]
    split
    · decide
    · split <;> decide
  · simp
theorem form_two {a : Str} : form a = 2 ↔ star a = true ∧ (suf a).all isB = true := by
  unfold form suf
  cases hc : compB a with
  | true => simp [comp_nostar hc]
  | false =>
    cases star a <;> cases (a.drop 1).all isB <;> simp
theorem form_cases (a : Str) : form a = 0 ∨ form a = 1 ∨ form a = 2 := by
  unfold form
  cases compB a <;> cases star a <;> cases (a.drop 1).all isB <;> simp
theorem form_star {a : Str} (h : form a ≠ 0) (hs : star a = true) : (suf a).all isB = true := by
  rcases form_cases a with e | e | e
  · exact absurd e h
  · rw [comp_nostar (form_one.1 e)] at hs; cases hs
  · exact (form_two.1 e).2
theorem form_lit {a : Str} (h : form a ≠ 0) (hs : star a = false) : compB a = true := by
  rcases form_cases a with e | e | e
  · exact absurd e h
  · exact form_one.1 e
  · rw [(form_two.1 e).1] at hs; cases hs

theorem comp_parts {s : Str} : compB s = true ↔ s ≠ [] ∧ [46].isPrefixOf s = false ∧ s.all isB = true := by
  unfold compB
  rw [Bool.and_eq_true, Bool.and_eq_true]
  constructor
  · rintro ⟨⟨h1, h2⟩, h3⟩
    exact ⟨(fun e => by rw [e] at h1; cases h1), (by simpa using h2), h3⟩
  · rintro ⟨h1, h2, h3⟩
    exact ⟨⟨by cases s with | nil => exact absurd rfl h1 | cons => rfl, by rw [h2]; rfl⟩, h3⟩
theorem dot_app {b s : Str} (hb : b ≠ []) : [46].isPrefixOf (b ++ s) = [46].isPrefixOf b := by
  cases b with
  | nil => exact absurd rfl hb
  | cons x u =>
    show ((46 : UInt8) == x && List.isPrefixOf [] (u ++ s)) = ((46 : UInt8) == x && List.isPrefixOf [] u)
    cases u <;> cases s <;> rfl
theorem comp_app {b s t : Str} (hb : b ≠ []) (h : compB (b ++ s) = true) (ht : t.all isB = true) : compB (b ++ t) = true := by
  obtain ⟨h1, h2, h3⟩ := comp_parts.1 h
  rw [dot_app hb] at h2
  rw [List.all_append, Bool.and_eq_true] at h3
  exact comp_parts.2 ⟨by simp [hb], by rw [dot_app hb]; exact h2, by rw [List.all_append, h3.1, ht]; rfl⟩
/-- What a wildcard is bound to, with another suffix, is a part again. -/
theorem form_app {b s t : Str} (hb : b ≠ []) (h : form (b ++ s) ≠ 0) (ht : t.all isB = true) : form (b ++ t) ≠ 0 := by
  rcases form_cases (b ++ s) with e | e | e
  · exact absurd e h
  · rw [form_one.2 (comp_app hb (form_one.1 e) ht)]; decide
  · obtain ⟨h1, h2⟩ := form_two.1 e
    rw [star_app hb] at h1
    obtain ⟨u, rfl⟩ := star_iff.1 h1
    have : form (42 :: u ++ t) = 2 := form_two.2 ⟨by rw [star_app hb]; exact h1, by
      simp only [List.cons_append, suf_cons, List.all_append, Bool.and_eq_true] at h2 ⊢
      exact ⟨h2.1, ht⟩⟩
    rw [this]; decide

/-- The parts are a pattern's. -/
def partsOk : List Str → Bool
  | [] => false
  | a :: ps => form a == 1 && ps.all (form · != 0)
def formP (p : Pat) : Bool := (decide (p.parts.length ≠ 1) || p.rest) && partsOk p.parts
/-- pattern.Check. -/
def chkP (p : Pat) : Nat := if formP p then (if 12 < p.parts.length then 31 else 0) else 30
def okP (p : Pat) : Bool := formP p && decide (p.parts.length ≤ 12)
theorem okP_iff {p : Pat} : okP p = true ↔ chkP p = 0 := by
  unfold okP chkP
  cases formP p
  · simp
  · simp only [Bool.true_and, decide_eq_true_eq, if_true]
    split
    · next h => constructor
                · intro h'; omega
                · intro h'; cases h'
    · next h => exact ⟨fun _ => rfl, fun _ => by omega⟩

structure OkP (p : Pat) : Prop where
  head : ∃ a ps, p.parts = a :: ps ∧ compB a = true
  form : ∀ a ∈ p.parts, form a ≠ 0
  one : p.parts.length = 1 → p.rest = true
  le : p.parts.length ≤ 12
theorem okP_of {p : Pat} : okP p = true ↔ OkP p := by
  unfold okP formP
  obtain ⟨ps, r⟩ := p
  cases ps with
  | nil =>
    constructor
    · intro h; simp [partsOk] at h
    · rintro ⟨⟨a, ps, h, -⟩, -, -, -⟩; cases h
  | cons a ps =>
    simp only [partsOk, Bool.and_eq_true, Bool.or_eq_true, decide_eq_true_eq, beq_iff_eq, List.all_eq_true, bne_iff_ne]
    constructor
    · rintro ⟨⟨h1, h2, h3⟩, h4⟩
      refine ⟨⟨a, ps, rfl, form_one.1 h2⟩, ?_, ?_, h4⟩
      · intro b hb
        rcases List.mem_cons.1 hb with rfl | hb
        · rw [h2]; decide
        · exact h3 b hb
      · intro hl
        rcases h1 with h1 | h1
        · exact absurd hl h1
        · exact h1
    · rintro ⟨⟨b, qs, e, hb⟩, h2, h3, h4⟩
      cases e
      refine ⟨⟨?_, form_one.2 hb, fun x hx => h2 x (List.mem_cons_of_mem _ hx)⟩, h4⟩
      by_cases hl : (a :: ps).length = 1
      · exact .inr (h3 hl)
      · exact .inl hl

/-- pattern.Meet. -/
def meetP (p q : Pat) : Option Pat :=
  if okP p && okP q && compat p.parts.length p.rest q.parts.length q.rest then
    (if p.parts.length < q.parts.length then meetL q.parts p.parts else meetL p.parts q.parts).map fun ns => ⟨ns, p.rest && q.rest⟩
  else none

theorem meetL_mem : ∀ (ps qs ns : List Str), meetL ps qs = some ns → ∀ n ∈ ns, n ∈ ps ∨ n ∈ qs
  | ps, [], ns, h => by
    obtain rfl : ps = ns := by cases ps <;> cases h <;> rfl
    exact fun n hn => .inl hn
  | [], b :: qs, ns, h => by cases h
  | a :: ps, b :: qs, ns, h => by
    unfold meetL at h
    cases hm : meetPart a b with
    | none => rw [hm] at h; cases h
    | some n =>
      cases hr : meetL ps qs with
      | none => rw [hm, hr] at h; cases h
      | some ms =>
        rw [hm, hr] at h
        cases h
        intro x hx
        rcases List.mem_cons.1 hx with rfl | hx
        · rcases (meetPart_some hm).2.2 with rfl | rfl
          · exact .inl (List.mem_cons_self ..)
          · exact .inr (List.mem_cons_self ..)
        · rcases meetL_mem ps qs ms hr x hx with h | h
          · exact .inl (List.mem_cons_of_mem _ h)
          · exact .inr (List.mem_cons_of_mem _ h)
theorem meetL_head {a b : Str} {ps qs ns : List Str} (h : meetL (a :: ps) (b :: qs) = some ns) : ∃ n ns', ns = n :: ns' ∧ (n = a ∨ n = b) := by
  unfold meetL at h
  cases hm : meetPart a b with
  | none => rw [hm] at h; cases h
  | some n =>
    cases hr : meetL ps qs with
    | none => rw [hm, hr] at h; cases h
    | some ms => rw [hm, hr] at h; cases h; exact ⟨n, ms, rfl, (meetPart_some hm).2.2⟩

theorem compat_swap {n m : Nat} {r o : Bool} (h : compat n r m o = true) : compat m o n r = true := by
  unfold compat at h ⊢
  cases r <;> cases o <;> simp at h ⊢ <;> omega
theorem compat_swap' {n m : Nat} {r o : Bool} (h : compat n r m o = false) : compat m o n r = false := by
  cases hc : compat m o n r with
  | false => rfl
  | true => rw [compat_swap hc] at h; cases h

theorem meetP_core {p q : Pat} {ns : List Str} (hp : OkP p) (hq : OkP q) (hl : q.parts.length ≤ p.parts.length) (hc : compat p.parts.length p.rest q.parts.length q.rest = true) (h : meetL p.parts q.parts = some ns) :
    OkP ⟨ns, p.rest && q.rest⟩ ∧ insideL ns (p.rest && q.rest) p.parts p.rest = true ∧ insideL ns (p.rest && q.rest) q.parts q.rest = true ∧
    ∀ xs, mtch ns (p.rest && q.rest) xs = (p.has xs && q.has xs) := by
  obtain ⟨i1, i2, i3, i4⟩ := meetL_some _ _ _ _ _ hc h
  refine ⟨⟨?_, ?_, ?_, ?_⟩, i1, i2, i4⟩
  · obtain ⟨a, ps, ha, hac⟩ := hp.head
    obtain ⟨b, qs, hb, hbc⟩ := hq.head
    rw [ha, hb] at h
    obtain ⟨n, ns', rfl, hn⟩ := meetL_head h
    refine ⟨n, ns', rfl, ?_⟩
    rcases hn with rfl | rfl
    · exact hac
    · exact hbc
  · intro a ha
    rcases meetL_mem _ _ _ h a ha with h | h
    · exact hp.form a h
    · exact hq.form a h
  · intro h1
    have h1' : ns.length = 1 := h1
    have hp1 := hp.one (by rw [← i3]; exact h1)
    have : q.parts.length = 1 := by
      obtain ⟨b, qs, hb, -⟩ := hq.head
      rw [hb] at hl ⊢
      simp only [List.length_cons] at hl ⊢
      omega
    show (p.rest && q.rest) = true
    rw [hp1, hq.one this]; rfl
  · show ns.length ≤ 12
    rw [i3]; exact hp.le

theorem meetP_some {p q m : Pat} (h : meetP p q = some m) :
    OkP m ∧ insideL m.parts m.rest p.parts p.rest = true ∧ insideL m.parts m.rest q.parts q.rest = true ∧ ∀ xs, m.has xs = (p.has xs && q.has xs) := by
  unfold meetP at h
  split at h
  · next hc =>
    simp only [Bool.and_eq_true] at hc
    obtain ⟨⟨hp, hq⟩, hc⟩ := hc
    rw [okP_of] at hp hq
    split at h
    · next hl =>
      cases hm : meetL q.parts p.parts with
      | none => rw [hm] at h; cases h
      | some ns =>
        rw [hm] at h; cases h
        obtain ⟨a, b, c, d⟩ := meetP_core hq hp (by omega) (compat_swap hc) hm
        rw [Bool.and_comm] at a b c d
        exact ⟨a, c, b, fun xs => by rw [Bool.and_comm (p.has xs)]; exact d xs⟩
    · next hl =>
      cases hm : meetL p.parts q.parts with
      | none => rw [hm] at h; cases h
      | some ns =>
        rw [hm] at h; cases h
        obtain ⟨a, b, c, d⟩ := meetP_core hp hq (by omega) hc hm
        exact ⟨a, b, c, d⟩
  · cases h
theorem meetP_none {p q : Pat} (hp : OkP p) (hq : OkP q) (h : meetP p q = none) (xs : List Str) : (p.has xs && q.has xs) = false := by
  unfold meetP at h
  rw [okP_of.2 hp, okP_of.2 hq] at h
  cases hc : compat p.parts.length p.rest q.parts.length q.rest with
  | false => exact compat_not hc xs
  | true =>
    rw [hc] at h
    simp only [Bool.and_self, if_true, Option.map_eq_none_iff] at h
    split at h
    · rw [Bool.and_comm]; exact meetL_none _ _ _ _ xs (by omega) h
    · exact meetL_none _ _ _ _ xs (by omega) h

/-- What a pattern of the same kinds is narrowed to is a pattern, if it is not too long. -/
theorem subst_form : ∀ (fs ns : List Str) (rest nr : Bool), insideL ns nr fs rest = true → (∀ a ∈ ns, form a ≠ 0) →
    ∀ b ∈ binds fs ns, ∀ t : Str, t.all isB = true → form (b ++ t) ≠ 0
  | [], ns, rest, nr, h, hf => by intro b hb; simp [binds] at hb
  | a :: fs, [], rest, nr, h, hf => by cases h
  | a :: fs, n :: ns, rest, nr, h, hf => by
    unfold insideL at h
    rw [Bool.and_eq_true] at h
    have ih := subst_form fs ns rest nr h.2 (fun x hx => hf x (List.mem_cons_of_mem _ hx))
    unfold binds
    cases hs : star a with
    | true =>
      obtain ⟨hb, hn⟩ := within1_star h.1 hs
      rw [if_pos rfl]
      intro b hbm t ht
      rcases List.mem_cons.1 hbm with rfl | hbm
      · have := hf n (List.mem_cons_self ..)
        rw [hn] at this
        exact form_app hb this ht
      · exact ih b hbm t ht
    | false => rw [if_neg (by decide)]; exact ih
theorem subst_all : ∀ (ts bs : List Str), (∀ a ∈ ts, form a ≠ 0) → (∀ b ∈ bs, ∀ t : Str, t.all isB = true → form (b ++ t) ≠ 0) → ∀ a ∈ subst ts bs, form a ≠ 0
  | [], bs, _, _ => by intro a ha; simp [subst] at ha
  | t :: ts, bs, ht, hb => by
    have ht0 := ht t (List.mem_cons_self ..)
    have hts := fun x (hx : x ∈ ts) => ht x (List.mem_cons_of_mem _ hx)
    unfold subst
    cases hs : star t with
    | true =>
      rw [if_pos rfl]
      cases bs with
      | nil =>
        intro a ha
        rcases List.mem_cons.1 ha with rfl | ha
        · exact ht0
        · exact subst_all ts [] hts (fun _ h => nomatch h) a ha
      | cons b bs =>
        intro a ha
        rcases List.mem_cons.1 ha with rfl | ha
        · exact hb b (List.mem_cons_self ..) _ (form_star ht0 hs)
        · exact subst_all ts bs hts (fun x hx => hb x (List.mem_cons_of_mem _ hx)) a ha
    | false =>
      rw [if_neg (by decide)]
      intro a ha
      rcases List.mem_cons.1 ha with rfl | ha
      · exact ht0
      · exact subst_all ts bs hts hb a ha
theorem subst_lit {t : Str} {ts bs : List Str} (h : star t = false) : subst (t :: ts) bs = t :: subst ts bs := by
  conv => lhs; unfold subst
  rw [h, if_neg (by decide)]
theorem subst_length : ∀ (ts bs : List Str), (subst ts bs).length = ts.length
  | [], bs => by simp [subst]
  | t :: ts, bs => by
    unfold subst
    split
    · cases bs <;> simp [subst_length]
    · simp [subst_length]
theorem carry_ok {f n t : Pat} (hn : OkP n) (ht : OkP t) (hi : insideL n.parts n.rest f.parts f.rest = true) (hr : f.rest = t.rest) (hl : (carry f n t).parts.length ≤ 12) : OkP (carry f n t) := by
  obtain ⟨b1, b2, b3, b4⟩ := inside_binds _ _ _ _ hi
  have hform : ∀ a ∈ (carry f n t).parts, form a ≠ 0 := by
    intro a ha
    rcases List.mem_append.1 ha with ha | ha
    · exact subst_all _ _ ht.form (subst_form _ _ _ _ hi hn.form) a ha
    · exact hn.form a (List.mem_of_mem_drop ha)
  refine ⟨?_, hform, ?_, hl⟩
  · obtain ⟨a, ps, ha, hc⟩ := ht.head
    refine ⟨a, subst ps (binds f.parts n.parts) ++ n.parts.drop f.parts.length, ?_, hc⟩
    show subst t.parts _ ++ _ = _
    rw [ha, subst_lit (comp_nostar hc)]
    rfl
  · intro h1
    have h1' : (subst t.parts (binds f.parts n.parts) ++ n.parts.drop f.parts.length).length = 1 := h1
    rw [List.length_append, subst_length] at h1'
    obtain ⟨a, ps, ha, -⟩ := ht.head
    have htl : t.parts.length = 1 := by rw [ha] at h1' ⊢; simp only [List.length_cons] at h1' ⊢; omega
    have hd : n.parts.drop f.parts.length = [] := List.eq_nil_of_length_eq_zero (by omega)
    have := ht.one htl
    rw [← hr] at this
    unfold Tip at b4
    rw [this, if_pos rfl, hd] at b4
    rcases b4 with h | h
    · exact absurd rfl h
    · exact h

/-- rule.Check. -/
def okR (l r : Pat) : Bool := okP l && okP r && decide (stars l.parts = stars r.parts) && (l.rest == r.rest)
structure OkR (l r : Pat) : Prop where
  left : OkP l
  right : OkP r
  st : stars l.parts = stars r.parts
  rest : l.rest = r.rest
theorem okR_of {l r : Pat} : okR l r = true ↔ OkR l r := by
  unfold okR
  simp only [Bool.and_eq_true, decide_eq_true_eq, beq_iff_eq, okP_of]
  exact ⟨fun ⟨⟨⟨a, b⟩, c⟩, d⟩ => ⟨a, b, c, d⟩, fun ⟨a, b, c, d⟩ => ⟨⟨⟨a, b⟩, c⟩, d⟩⟩
theorem OkR.swap {l r : Pat} (h : OkR l r) : OkR r l := ⟨h.right, h.left, h.st.symm, h.rest.symm⟩

/-- rule.NarrowLeft that gives no error: the narrowed line, or none. -/
def NarL (l r p : Pat) : Option (Pat × Pat) → Prop
  | none => meetP l p = none
  | some (m, c) => meetP l p = some m ∧ c = carry l m r ∧ OkP c
theorem NarL.none_has {l r p : Pat} (h : NarL l r p none) (hl : OkP l) (hp : OkP p) (xs : List Str) (hx : l.has xs = true) : p.has xs = false := by
  have := meetP_none hl hp h xs
  rw [hx, Bool.true_and] at this
  exact this
theorem NarL.nar {l r p m c : Pat} (h : NarL l r p (some (m, c))) (hr : OkR l r) : Nar l m r c := by
  obtain ⟨h1, rfl, h3⟩ := h
  exact carry_nar (meetP_some h1).2.1 hr.st hr.rest
theorem NarL.has_left {l r p m c : Pat} (h : NarL l r p (some (m, c))) (xs : List Str) : m.has xs = (l.has xs && p.has xs) := (meetP_some h.1).2.2.2 xs
/-- A hole on the left side is narrowed to a hole on the right side. -/
theorem NarL.hole {l r p m c : Pat} (h : NarL l r p (some (m, c))) (hr : OkR l r) {xs ys : List Str} (hx : rel l r xs ys) : c.has ys = p.has xs := by
  rw [← (h.nar hr).has hx, h.has_left, rel_left hx, Bool.true_and]

/-- rule.Chain that gives no error. -/
def ChnR (al ar bl br : Pat) : Option (Pat × Pat) → Prop
  | none => meetP ar bl = none
  | some (l, r) => ∃ m, meetP ar bl = some m ∧ l = carry ar m al ∧ r = carry bl m br ∧ OkP l ∧ OkP r
theorem ChnR.none_rel {al ar bl br : Pat} (h : ChnR al ar bl br none) (ha : OkP ar) (hb : OkP bl) {xs ys zs : List Str} (h1 : rel al ar xs ys) (h2 : rel bl br ys zs) : False := by
  have := meetP_none ha hb h ys
  rw [rel_right h1, rel_left h2] at this
  cases this
theorem ChnR.rel {al ar bl br l r : Pat} (h : ChnR al ar bl br (some (l, r))) (ha : OkR al ar) (hb : OkR bl br) {xs zs : List Str} :
    rel l r xs zs ↔ ∃ ys, Go.Proofs.YtejljmikammcdaaGreatDoor.rel al ar xs ys ∧ Go.Proofs.YtejljmikammcdaaGreatDoor.rel bl br ys zs := by
  obtain ⟨m, hm, rfl, rfl, hl, hr⟩ := h
  obtain ⟨hmo, i1, i2, hmh⟩ := meetP_some hm
  have n1 : Nar ar m al (carry ar m al) := carry_nar i1 ha.st.symm ha.rest.symm
  have n2 : Nar bl m br (carry bl m br) := carry_nar i2 hb.st hb.rest
  constructor
  · rintro ⟨c, h1, h2⟩
    obtain ⟨ys, hy⟩ : ∃ ys, capt m.parts m.rest ys = some c := ⟨_, capt_fill _ _ _ (by rw [n1.stars, ← n1.nr]; exact capt_fit _ _ _ _ h1)⟩
    exact ⟨ys, rel_swap.1 (n1.rel.1 ⟨c, hy, h1⟩).1, (n2.rel.1 ⟨c, hy, h2⟩).1⟩
  · rintro ⟨ys, h1, h2⟩
    have hmy : m.has ys = true := by rw [hmh, rel_right h1, rel_left h2]; rfl
    obtain ⟨c, h3, h4⟩ := n1.rel.2 ⟨rel_swap.1 h1, hmy⟩
    obtain ⟨d, h5, h6⟩ := n2.rel.2 ⟨h2, hmy⟩
    rw [h3] at h5; cases h5
    exact ⟨c, h4, h6⟩

/-- An entry. -/
structure Ent where
  l : Pat
  r : Pat
  hs : List Pat
structure OkE (e : Ent) : Prop where
  line : OkR e.l e.r
  holes : ∀ h ∈ e.hs, OkP h
def anyHas (hs : List Pat) (xs : List Str) : Bool := hs.any (·.has xs)
def relE (e : Ent) (xs ys : List Str) : Prop := rel e.l e.r xs ys ∧ anyHas e.hs xs = false
def relM (m : List Ent) (xs ys : List Str) : Prop := ∃ e ∈ m, relE e xs ys

theorem anyHas_append (a b : List Pat) (xs : List Str) : anyHas (a ++ b) xs = (anyHas a xs || anyHas b xs) := by simp [anyHas]
theorem anyHas_nil (xs : List Str) : anyHas [] xs = false := rfl
theorem anyHas_cons (a : Pat) (b : List Pat) (xs : List Str) : anyHas (a :: b) xs = (a.has xs || anyHas b xs) := by simp [anyHas]

/-- region.Void: soundness is all that is needed. -/
def partAtL (ps : List Str) (i : Nat) : Str := ps[i]?.getD [42]
def coversL (hole base : List Str) (frm n : Nat) : Prop := ∀ i, frm ≤ i → i < n → ∀ b, hole[i]? = some b → within1 (partAtL base i) b = true
def reachB (p : Pat) (n : Nat) : Bool := (n == p.parts.length && !p.rest) || (decide (p.parts.length < n) && p.rest)

theorem mtch_of : ∀ (hs : List Str) (r : Bool) (xs : List Str), (if r then hs.length < xs.length else hs.length = xs.length) → (∀ (i : Nat) b x, hs[i]? = some b → xs[i]? = some x → (mpart b x).isSome = true) → mtch hs r xs = true
  | [], r, xs, h, k => by
    unfold mtch
    cases r with
    | true => cases xs with
      | nil => simp at h
      | cons => rfl
    | false => cases xs with
      | nil => rfl
      | cons => simp at h
  | a :: hs, r, [], h, k => by cases r <;> simp at h
  | a :: hs, r, x :: xs, h, k => by
    unfold mtch
    rw [Bool.and_eq_true]
    refine ⟨k 0 a x rfl rfl, mtch_of hs r xs ?_ (fun i b y h1 h2 => k (i + 1) b y h1 h2)⟩
    cases r <;> simp at h ⊢ <;> omega
theorem mtch_at : ∀ (ps : List Str) (r : Bool) (xs : List Str), mtch ps r xs = true → ∀ (i : Nat) a x, ps[i]? = some a → xs[i]? = some x → (mpart a x).isSome = true
  | [], r, xs, h, i, a, x, h1, h2 => by cases h1
  | b :: ps, r, [], h, i, a, x, h1, h2 => by cases h
  | b :: ps, r, y :: xs, h, i, a, x, h1, h2 => by
    unfold mtch at h
    rw [Bool.and_eq_true] at h
    cases i with
    | zero => cases h1; cases h2; exact h.1
    | succ i => exact mtch_at ps r xs h.2 i a x h1 h2

/-- A hole that covers the paths of base with n components is matched by each longer or equal one, as far as it has Rest. -/
theorem covers_sound {h base : Pat} {n : Nat} (hr : reachB h n = true) (hc : coversL h.parts base.parts 0 n) {xs : List Str} (hx : base.has xs = true) (hne : ∀ x ∈ xs, x ≠ [])
    (hl : xs.length = n ∨ (h.parts.length < n ∧ n ≤ xs.length)) : h.has xs = true := by
  unfold reachB at hr
  have hlen : if h.rest then h.parts.length < xs.length else h.parts.length = xs.length := by
    cases hrr : h.rest with
    | true =>
      rw [hrr] at hr
      simp at hr ⊢
      omega
    | false =>
      rw [hrr] at hr
      simp at hr ⊢
      omega
  have hle : h.parts.length ≤ n := by
    cases hrr : h.rest with
    | true => rw [hrr] at hr; simp at hr; omega
    | false => rw [hrr] at hr; simp at hr; omega
  refine mtch_of _ _ _ hlen fun i b x hb hxi => ?_
  have hi : i < h.parts.length := (List.getElem?_eq_some_iff.1 hb).1
  have hw := hc i (Nat.zero_le _) (by omega) b hb
  unfold partAtL at hw
  cases hp : base.parts[i]? with
  | some a =>
    rw [hp] at hw
    exact within1_sound hw (mtch_at _ _ _ hx i a x hp hxi)
  | none =>
    rw [hp] at hw
    refine within1_sound hw ?_
    refine Option.isSome_iff_exists.2 ⟨x, mpart_star.2 ⟨hne x (List.mem_of_getElem? hxi), by simp⟩⟩

/-- The greatest number of components that region.leastLength looks at. -/
def lastLen (base : Pat) (holes : List Pat) : Nat := if base.rest then holes.foldl (fun m h => max m (h.parts.length + 1)) (base.parts.length + 1) else base.parts.length
def firstLen (base : Pat) : Nat := if base.rest then base.parts.length + 1 else base.parts.length
theorem foldl_max_ge : ∀ (hs : List Pat) (m : Nat), m ≤ hs.foldl (fun m h => max m (h.parts.length + 1)) m ∧ ∀ h ∈ hs, h.parts.length + 1 ≤ hs.foldl (fun m h => max m (h.parts.length + 1)) m
  | [], m => ⟨Nat.le_refl _, fun _ h => nomatch h⟩
  | a :: hs, m => by
    obtain ⟨h1, h2⟩ := foldl_max_ge hs (max m (a.parts.length + 1))
    refine ⟨by rw [List.foldl_cons]; omega, fun h hh => ?_⟩
    rw [List.foldl_cons]
    rcases List.mem_cons.1 hh with rfl | hh
    · omega
    · exact h2 h hh
theorem void_sound {base : Pat} {holes : List Pat} (h : ∀ n, firstLen base ≤ n → n ≤ lastLen base holes → ∃ g ∈ holes, reachB g n = true ∧ coversL g.parts base.parts 0 n)
    {xs : List Str} (hx : base.has xs = true) (hne : ∀ x ∈ xs, x ≠ []) : anyHas holes xs = true := by
  have hl := mtch_len _ _ _ hx
  unfold firstLen lastLen at h
  cases hr : base.rest with
  | false =>
    rw [hr] at h hl
    simp only [Bool.false_eq_true, if_false] at h hl
    obtain ⟨g, hg, h1, h2⟩ := h _ (Nat.le_refl _) (Nat.le_refl _)
    exact List.any_eq_true.2 ⟨g, hg, covers_sound h1 h2 hx hne (.inl hl.symm)⟩
  | true =>
    rw [hr] at h hl
    simp only [if_true] at h hl
    obtain ⟨f1, f2⟩ := foldl_max_ge holes (base.parts.length + 1)
    by_cases hxl : xs.length ≤ holes.foldl (fun m h => max m (h.parts.length + 1)) (base.parts.length + 1)
    · obtain ⟨g, hg, h1, h2⟩ := h xs.length (by omega) hxl
      exact List.any_eq_true.2 ⟨g, hg, covers_sound h1 h2 hx hne (.inl rfl)⟩
    · obtain ⟨g, hg, h1, h2⟩ := h _ f1 (Nat.le_refl _)
      have := f2 g hg
      exact List.any_eq_true.2 ⟨g, hg, covers_sound h1 h2 hx hne (.inr ⟨by omega, by omega⟩)⟩

end Go.Proofs.YtejljmikammcdaaGreatDoor
/-
  Reduced holes, entries, compositions and views, in plain words (chapters 5 to 7), and what the two laws across layers come down to. No program stands in it.
-/
namespace Go.Proofs.YtejljmikammcdaaGreatDoor

/-- How narrow a part is. -/
def wt (a : Str) : Nat := 2 * a.length + (if star a then 0 else 1)
def wtL : List Str → Nat
  | [] => 0
  | a :: ps => wt a + 1 + wtL ps
theorem within1_wt {n a : Str} (h : within1 n a = true) : n = a ∨ wt a < wt n := by
  cases hs : star a with
  | false => exact .inl (within1_lit h hs)
  | true =>
    obtain ⟨hb, hn⟩ := within1_star h hs
    obtain ⟨s, rfl⟩ := star_iff.1 hs
    rw [suf_cons] at hn
    generalize bindOf n (42 :: s) = b at hb hn
    subst hn
    unfold wt
    rw [hs, star_app hb, if_pos rfl, List.length_append, List.length_cons]
    have hl : 0 < b.length := List.length_pos_iff.2 hb
    cases hsb : star b with
    | true =>
      obtain ⟨u, rfl⟩ := star_iff.1 hsb
      cases u with
      | nil => exact .inl rfl
      | cons c u => right; simp only [List.length_cons, if_true]; omega
    | false => right; simp only [Bool.false_eq_true, if_false]; omega
theorem inside_wt : ∀ (ns : List Str) (nr : Bool) (ps : List Str) (pr : Bool), insideL ns nr ps pr = true → (ns = ps ∧ nr = pr) ∨ wtL ps < wtL ns
  | ns, nr, [], pr, h => by
    unfold insideL at h
    cases ns with
    | nil =>
      left
      refine ⟨rfl, ?_⟩
      cases pr <;> cases nr <;> simp_all
    | cons n ns => right; simp only [wtL]; omega
  | [], nr, a :: ps, pr, h => by cases h
  | n :: ns, nr, a :: ps, pr, h => by
    unfold insideL at h
    rw [Bool.and_eq_true] at h
    rcases inside_wt ns nr ps pr h.2 with ⟨rfl, rfl⟩ | h2
    · rcases within1_wt h.1 with rfl | h1
      · exact .inl ⟨rfl, rfl⟩
      · right; simp only [wtL]; omega
    · right
      have : wt a ≤ wt n := by
        rcases within1_wt h.1 with rfl | h1 <;> omega
      simp only [wtL]; omega

theorem Pat.ext' {p q : Pat} (h1 : p.parts = q.parts) (h2 : p.rest = q.rest) : p = q := by cases p; cases q; simp_all
/-- Each hole lies within one that lies within no other one. -/
theorem keep_max (hs : List Pat) : ∀ (k : Nat) (h : Pat), wtL h.parts ≤ k → h ∈ hs →
    ∃ g ∈ hs, (∀ o ∈ hs, o ≠ g → insideL g.parts g.rest o.parts o.rest = false) ∧ ∀ xs, h.has xs = true → g.has xs = true := by
  intro k
  induction k with
  | zero =>
    intro h hk hh
    refine ⟨h, hh, fun o _ ho => Bool.eq_false_iff.2 fun hi => ?_, fun _ e => e⟩
    rcases inside_wt _ _ _ _ hi with ⟨a, b⟩ | e
    · exact ho (Pat.ext' a.symm b.symm)
    · omega
  | succ k ih =>
    intro h hk hh
    by_cases hex : ∃ o ∈ hs, o ≠ h ∧ insideL h.parts h.rest o.parts o.rest = true
    · obtain ⟨o, ho, hne, hi⟩ := hex
      obtain ⟨g, hg, h1, h2⟩ := ih o (by
        rcases inside_wt _ _ _ _ hi with ⟨a, b⟩ | e
        · exact absurd (Pat.ext' a.symm b.symm) hne
        · omega) ho
      exact ⟨g, hg, h1, fun xs hx => h2 xs (inside_sound _ _ _ _ _ hi hx)⟩
    · refine ⟨h, hh, fun o ho hne => ?_, fun _ e => e⟩
      cases hi : insideL h.parts h.rest o.parts o.rest with
      | false => rfl
      | true => exact absurd ⟨o, ho, hne, hi⟩ hex

/-- region.Reduce. -/
structure RedOk (base : Pat) (ps g : List Pat) : Prop where
  ok : ∀ h ∈ g, OkP h
  len : g.length ≤ ps.length
  has : ∀ xs, base.has xs = true → anyHas g xs = anyHas ps xs
theorem red_ok {base : Pat} {ps ms g : List Pat} (hb : OkP base) (hp : ∀ p ∈ ps, OkP p) (hm : ∀ h, h ∈ ms ↔ ∃ p ∈ ps, meetP base p = some h)
    (hg : ∀ h, h ∈ g ↔ h ∈ ms ∧ ∀ o ∈ ms, o ≠ h → insideL h.parts h.rest o.parts o.rest = false) (hl : g.length ≤ ps.length) : RedOk base ps g := by
  refine ⟨fun h hh => ?_, hl, fun xs hx => Bool.eq_iff_iff.2 ?_⟩
  · obtain ⟨p, -, h2⟩ := (hm h).1 ((hg h).1 hh).1
    exact (meetP_some h2).1
  · unfold anyHas
    rw [List.any_eq_true, List.any_eq_true]
    constructor
    · rintro ⟨h, hh, hx2⟩
      obtain ⟨p, hp1, h2⟩ := (hm h).1 ((hg h).1 hh).1
      have := (meetP_some h2).2.2.2 xs
      rw [hx2, hx, Bool.true_and] at this
      exact ⟨p, hp1, this.symm⟩
    · rintro ⟨p, hp1, hx2⟩
      cases hmm : meetP base p with
      | none =>
        have := meetP_none hb (hp p hp1) hmm xs
        rw [hx, hx2] at this; cases this
      | some h =>
        have hh := (meetP_some hmm).2.2.2 xs
        rw [hx, hx2] at hh
        obtain ⟨g', h1, h2, h3⟩ := keep_max ms _ h (Nat.le_refl _) ((hm h).2 ⟨p, hp1, hmm⟩)
        exact ⟨g', (hg g').2 ⟨h1, h2⟩, h3 xs hh⟩

/-- Components of a path: none is empty. -/
def Full (xs : List Str) : Prop := ∀ x ∈ xs, x ≠ []

/-- mapping.put: the entry with reduced holes, or none if it relates no path. -/
def PutOk (l r : Pat) (holes : List Pat) : Option Ent → Prop
  | none => ∀ xs, Full xs → l.has xs = true → anyHas holes xs = true
  | some e => e.l = l ∧ e.r = r ∧ RedOk l holes e.hs
theorem PutOk.rel {l r : Pat} {holes : List Pat} {o : Option Ent} (h : PutOk l r holes o) {xs ys : List Str} (hf : Full xs) :
    (∃ e ∈ o.toList, relE e xs ys) ↔ rel l r xs ys ∧ anyHas holes xs = false := by
  cases o with
  | none =>
    constructor
    · rintro ⟨e, he, -⟩; cases he
    · rintro ⟨h1, h2⟩
      rw [h xs hf (rel_left h1)] at h2; cases h2
  | some e =>
    obtain ⟨rfl, rfl, hr⟩ := h
    constructor
    · rintro ⟨e', he, h1, h2⟩
      obtain rfl : e' = e := by simpa using he
      exact ⟨h1, by rw [← hr.has xs (rel_left h1)]; exact h2⟩
    · rintro ⟨h1, h2⟩
      exact ⟨e, by simp, h1, by rw [hr.has xs (rel_left h1)]; exact h2⟩

/-- The right region of an entry (mapping.right): its holes. -/
def RightOk (e : Ent) (g : List Pat) : Prop := (∀ h ∈ g, OkP h) ∧ ∀ xs ys, rel e.l e.r xs ys → anyHas g ys = anyHas e.hs xs
/-- mapping.Inverse of the entries ahead. -/
def InvOk (m out : List Ent) : Prop := ∀ xs ys, Full xs → Full ys → (relM out ys xs ↔ relM m xs ys)
theorem relM_append {a b : List Ent} {xs ys : List Str} : relM (a ++ b) xs ys ↔ relM a xs ys ∨ relM b xs ys := by
  unfold relM
  constructor
  · rintro ⟨e, he, h⟩
    rcases List.mem_append.1 he with he | he
    · exact .inl ⟨e, he, h⟩
    · exact .inr ⟨e, he, h⟩
  · rintro (⟨e, he, h⟩ | ⟨e, he, h⟩)
    · exact ⟨e, List.mem_append_left _ he, h⟩
    · exact ⟨e, List.mem_append_right _ he, h⟩
theorem relM_one {e : Ent} {xs ys : List Str} : relM [e] xs ys ↔ relE e xs ys := by simp [relM]
theorem InvOk.nil : InvOk [] [] := fun _ _ _ _ => ⟨fun ⟨_, h, _⟩ => (nomatch h), fun ⟨_, h, _⟩ => (nomatch h)⟩
theorem InvOk.step {m out : List Ent} {e : Ent} {g : List Pat} {o : Option Ent} (h : InvOk m out) (hr : RightOk e g) (hp : PutOk e.r e.l g o) : InvOk (m ++ [e]) (out ++ o.toList) := by
  intro xs ys hx hy
  rw [relM_append, relM_append, h xs ys hx hy, relM_one]
  have := hp.rel (xs := ys) (ys := xs) hy
  constructor
  · rintro (h1 | h1)
    · exact .inl h1
    · obtain ⟨h2, h3⟩ := this.1 h1
      exact .inr ⟨rel_swap.1 h2, by rw [← hr.2 xs ys (rel_swap.1 h2)]; exact h3⟩
  · rintro (h1 | ⟨h1, h2⟩)
    · exact .inl h1
    · exact .inr (this.2 ⟨rel_swap.1 h1, by rw [hr.2 xs ys h1]; exact h2⟩)

/-- mapping.Compose of the pairs ahead. -/
def CmpOk (ps : List (Ent × Ent)) (out : List Ent) : Prop := ∀ xs zs, Full xs → (relM out xs zs ↔ ∃ p ∈ ps, ∃ ys, relE p.1 xs ys ∧ relE p.2 ys zs)
theorem CmpOk.nil : CmpOk [] [] := fun _ _ _ => ⟨fun ⟨_, h, _⟩ => (nomatch h), fun ⟨_, h, _⟩ => (nomatch h)⟩
theorem CmpOk.skip {ps : List (Ent × Ent)} {out : List Ent} {a b : Ent} (h : CmpOk ps out) (ha : OkE a) (hb : OkE b) (hc : ChnR a.l a.r b.l b.r none) : CmpOk (ps ++ [(a, b)]) out := by
  intro xs zs hx
  rw [h xs zs hx]
  constructor
  · rintro ⟨p, hp, h⟩; exact ⟨p, List.mem_append_left _ hp, h⟩
  · rintro ⟨p, hp, ys, h1, h2⟩
    rcases List.mem_append.1 hp with hp | hp
    · exact ⟨p, hp, ys, h1, h2⟩
    · obtain rfl : p = (a, b) := by simpa using hp
      exact (hc.none_rel ha.line.right hb.line.left h1.1 h2.1).elim
/-- The holes of the second entry, seen from the first one's left side. -/
def BackOk (a : Ent) (hs out : List Pat) : Prop := (∀ h ∈ out, OkP h) ∧ ∀ xs ys, rel a.l a.r xs ys → anyHas out xs = anyHas hs ys
theorem CmpOk.step {ps : List (Ent × Ent)} {out : List Ent} {a b : Ent} {l r : Pat} {g : List Pat} {o : Option Ent} (h : CmpOk ps out) (ha : OkE a) (hb : OkE b) (hc : ChnR a.l a.r b.l b.r (some (l, r)))
    (hg : BackOk a b.hs g) (hp : PutOk l r (a.hs ++ g) o) : CmpOk (ps ++ [(a, b)]) (out ++ o.toList) := by
  intro xs zs hx
  rw [relM_append, h xs zs hx]
  have h1 := hp.rel (xs := xs) (ys := zs) hx
  have h2 := hc.rel ha.line hb.line (xs := xs) (zs := zs)
  constructor
  · rintro (⟨p, hp, h⟩ | h)
    · exact ⟨p, List.mem_append_left _ hp, h⟩
    · obtain ⟨h3, h4⟩ := h1.1 h
      obtain ⟨ys, h5, h6⟩ := h2.1 h3
      rw [anyHas_append, Bool.or_eq_false_iff] at h4
      exact ⟨(a, b), by simp, ys, ⟨h5, h4.1⟩, ⟨h6, by rw [← hg.2 xs ys h5]; exact h4.2⟩⟩
  · rintro ⟨p, hp, ys, h3, h4⟩
    rcases List.mem_append.1 hp with hp | hp
    · exact .inl ⟨p, hp, ys, h3, h4⟩
    · obtain rfl : p = (a, b) := by simpa using hp
      refine .inr (h1.2 ⟨h2.2 ⟨ys, h3.1, h4.1⟩, ?_⟩)
      rw [anyHas_append, h3.2, hg.2 xs ys h3.1, h4.2]; rfl

/-- The pairs of two lists, in order (mapping.pairs). -/
def pairsL (a b : List Ent) : List (Ent × Ent) := a.flatMap fun x => b.map fun y => (x, y)
theorem pairs_rel {a b out : List Ent} (h : CmpOk (pairsL a b) out) {xs zs : List Str} (hx : Full xs) : relM out xs zs ↔ ∃ ys, relM a xs ys ∧ relM b ys zs := by
  rw [h xs zs hx]
  unfold pairsL relM
  constructor
  · rintro ⟨p, hp, ys, h1, h2⟩
    obtain ⟨x, hx, y, hy, rfl⟩ : ∃ x ∈ a, ∃ y ∈ b, (x, y) = p := by simpa using hp
    exact ⟨ys, ⟨x, hx, h1⟩, ⟨y, hy, h2⟩⟩
  · rintro ⟨ys, ⟨x, hx, h1⟩, ⟨y, hy, h2⟩⟩
    exact ⟨(x, y), by simpa using ⟨hx, hy⟩, ys, h1, h2⟩

/-- A line. -/
structure Rul where
  ex : Bool
  l : Pat
  r : Pat
def Rul.turn (r : Rul) : Rul := ⟨r.ex, r.r, r.l⟩
def OkV (v : List Rul) : Prop := ∀ r ∈ v, OkR r.l r.r
/-- Line k decides, for a left and a right path. -/
def relAt (v : List Rul) (k : Nat) (xs ys : List Str) : Prop :=
  ∃ r, v[k]? = some r ∧ r.ex = false ∧ rel r.l r.r xs ys ∧ ∀ j r', k < j → v[j]? = some r' → r'.l.has xs = false ∧ r'.r.has ys = false
def relV (v : List Rul) (xs ys : List Str) : Prop := ∃ k, relAt v k xs ys
theorem relV_swap {v : List Rul} {xs ys : List Str} : relV (v.map Rul.turn) ys xs ↔ relV v xs ys := by
  unfold relV relAt
  constructor
  · rintro ⟨k, r, h1, h2, h3, h4⟩
    rw [List.getElem?_map, Option.map_eq_some_iff] at h1
    obtain ⟨r0, h1, rfl⟩ := h1
    refine ⟨k, r0, h1, h2, rel_swap.1 h3, fun j r' hj hr => ?_⟩
    have := h4 j r'.turn hj (by rw [List.getElem?_map, hr]; rfl)
    exact ⟨this.2, this.1⟩
  · rintro ⟨k, r, h1, h2, h3, h4⟩
    refine ⟨k, r.turn, by rw [List.getElem?_map, h1]; rfl, h2, rel_swap.1 h3, fun j r' hj hr => ?_⟩
    rw [List.getElem?_map, Option.map_eq_some_iff] at hr
    obtain ⟨r0, hr, rfl⟩ := hr
    have := h4 j r0 hj hr
    exact ⟨this.2, this.1⟩
theorem relV_inj {v : List Rul} {xs ys zs : List Str} (h : relV v xs ys) (k : relV v xs zs) : ys = zs := by
  obtain ⟨i, r, h1, -, h3, h4⟩ := h
  obtain ⟨j, s, k1, -, k3, k4⟩ := k
  rcases Nat.lt_trichotomy i j with hij | rfl | hij
  · have := (h4 j s hij k1).1
    rw [rel_left k3] at this; cases this
  · rw [h1] at k1; cases k1
    exact rel_inj h3 k3
  · have := (k4 i r hij h1).1
    rw [rel_left h3] at this; cases this
theorem relV_inj' {v : List Rul} {xs ys zs : List Str} (h : relV v ys xs) (k : relV v zs xs) : ys = zs := relV_inj (relV_swap.2 h) (relV_swap.2 k)

/-- The holes that the later lines lay into line k, up to line j (view.Entries). -/
def LaterOk (v : List Rul) (k j : Nat) (r : Rul) (hs : List Pat) : Prop :=
  (∀ h ∈ hs, OkP h) ∧ ∀ xs ys, rel r.l r.r xs ys → (anyHas hs xs = true ↔ ∃ i s, k < i ∧ i < j ∧ v[i]? = some s ∧ (s.l.has xs = true ∨ s.r.has ys = true))
theorem LaterOk.nil {v : List Rul} {k : Nat} {r : Rul} : LaterOk v k (k + 1) r [] :=
  ⟨(fun _ h => nomatch h), fun _ _ _ => ⟨(fun h => by cases h), fun ⟨i, s, h1, h2, _⟩ => by omega⟩⟩
theorem LaterOk.step {v : List Rul} {k j : Nat} {r s : Rul} {hs : List Pat} {o : Option (Pat × Pat)} (h : LaterOk v k j r hs) (hkj : k < j) (hv : v[j]? = some s) (hs' : OkR s.l s.r) (hr : OkR r.l r.r) (ho : NarL r.r r.l s.r o) :
    LaterOk v k (j + 1) r (hs ++ s.l :: (o.map Prod.snd).toList) := by
  refine ⟨fun p hp => ?_, fun xs ys hxy => ?_⟩
  · rcases List.mem_append.1 hp with hp | hp
    · exact h.1 p hp
    · rcases List.mem_cons.1 hp with rfl | hp
      · exact hs'.left
      · cases o with
        | none => cases hp
        | some c => obtain rfl : p = c.2 := by simpa using hp
                    exact ho.2.2
  · have ht : anyHas (o.map Prod.snd).toList xs = s.r.has ys := by
      cases o with
      | none => rw [ho.none_has hr.right hs'.right ys (rel_right hxy)]; rfl
      | some c =>
        have := NarL.hole ho hr.swap (rel_swap.1 hxy)
        show anyHas [c.2] xs = _
        rw [← this]; simp [anyHas]
    rw [anyHas_append, anyHas_cons, ht, Bool.or_eq_true, Bool.or_eq_true, h.2 xs ys hxy]
    constructor
    · rintro (⟨i, t, h1, h2, h3, h4⟩ | h1 | h1)
      · exact ⟨i, t, h1, by omega, h3, h4⟩
      · exact ⟨j, s, hkj, by omega, hv, .inl h1⟩
      · exact ⟨j, s, hkj, by omega, hv, .inr h1⟩
    · rintro ⟨i, t, h1, h2, h3, h4⟩
      by_cases hij : i = j
      · subst hij
        rw [hv] at h3; cases h3
        exact .inr h4
      · exact .inl ⟨i, t, h1, by omega, h3, h4⟩
/-- The entries of the lines ahead of line k. -/
def EntsOk (v : List Rul) (k : Nat) (es : List Ent) : Prop := ∀ xs ys, Full xs → (relM es xs ys ↔ ∃ i, i < k ∧ relAt v i xs ys)
theorem EntsOk.nil {v : List Rul} : EntsOk v 0 [] := fun _ _ _ => ⟨fun ⟨_, h, _⟩ => (nomatch h), fun ⟨i, h, _⟩ => by omega⟩
theorem EntsOk.skip {v : List Rul} {k : Nat} {es : List Ent} {r : Rul} (h : EntsOk v k es) (hv : v[k]? = some r) (hx : r.ex = true) : EntsOk v (k + 1) es := by
  intro xs ys hf
  rw [h xs ys hf]
  constructor
  · rintro ⟨i, h1, h2⟩; exact ⟨i, by omega, h2⟩
  · rintro ⟨i, h1, h2⟩
    by_cases hik : i = k
    · subst hik
      obtain ⟨s, h3, h4, -⟩ := h2
      rw [hv] at h3; cases h3
      rw [hx] at h4; cases h4
    · exact ⟨i, by omega, h2⟩
theorem EntsOk.step {v : List Rul} {k : Nat} {es : List Ent} {r : Rul} {hs : List Pat} {o : Option Ent} (h : EntsOk v k es) (hv : v[k]? = some r) (hx : r.ex = false) (hl : LaterOk v k v.length r hs) (hp : PutOk r.l r.r hs o) :
    EntsOk v (k + 1) (es ++ o.toList) := by
  intro xs ys hf
  rw [relM_append, h xs ys hf]
  have h1 := hp.rel (xs := xs) (ys := ys) hf
  have key : (rel r.l r.r xs ys ∧ anyHas hs xs = false) ↔ relAt v k xs ys := by
    constructor
    · rintro ⟨a, b⟩
      refine ⟨r, hv, hx, a, fun j r' hj hr => ?_⟩
      have hjl : j < v.length := (List.getElem?_eq_some_iff.1 hr).1
      have hn : ¬ (r'.l.has xs = true ∨ r'.r.has ys = true) := fun hh => by
        rw [(hl.2 xs ys a).2 ⟨j, r', hj, hjl, hr, hh⟩] at b; cases b
      exact ⟨Bool.eq_false_iff.2 fun e => hn (.inl e), Bool.eq_false_iff.2 fun e => hn (.inr e)⟩
    · rintro ⟨s, a, b, c, d⟩
      rw [hv] at a; cases a
      refine ⟨c, Bool.eq_false_iff.2 fun e => ?_⟩
      obtain ⟨i, t, h2, h3, h4, h5⟩ := (hl.2 xs ys c).1 e
      obtain ⟨h6, h7⟩ := d i t h2 h4
      rcases h5 with h5 | h5
      · rw [h6] at h5; cases h5
      · rw [h7] at h5; cases h5
  constructor
  · rintro (⟨i, a, b⟩ | a)
    · exact ⟨i, by omega, b⟩
    · exact ⟨k, by omega, key.1 (h1.1 a)⟩
  · rintro ⟨i, a, b⟩
    by_cases hik : i = k
    · subst hik; exact .inr (h1.2 (key.2 b))
    · exact .inl ⟨i, by omega, b⟩
theorem EntsOk.done {v : List Rul} {es : List Ent} (h : EntsOk v v.length es) {xs ys : List Str} (hf : Full xs) : relM es xs ys ↔ relV v xs ys := by
  rw [h xs ys hf]
  exact ⟨fun ⟨i, _, h⟩ => ⟨i, h⟩, fun ⟨i, r, h1, h2⟩ => ⟨i, (List.getElem?_eq_some_iff.1 h1).1, r, h1, h2⟩⟩

/-- The components are those of a path. -/
def PathOk (xs : List Str) : Prop := 2 ≤ xs.length ∧ ∀ x ∈ xs, compB x = true
theorem PathOk.full {xs : List Str} (h : PathOk xs) : Full xs := fun x hx => (comp_parts.1 (h.2 x hx)).1

theorem capt_comps : ∀ (ps : List Str) (r : Bool) (xs : List Str) (l : List (List Str)), (∀ x ∈ xs, compB x = true) → capt ps r xs = some l → ∀ cs ∈ l, ∀ c ∈ cs, compB c = true
  | [], r, xs, l, hx, h => by
    unfold capt at h
    cases r with
    | true =>
      simp only [if_true] at h
      split at h
      · cases h
      · cases h
        intro cs hcs
        obtain rfl : cs = xs := by simpa using hcs
        exact hx
    | false =>
      simp only [Bool.false_eq_true, if_false] at h
      split at h
      · cases h; intro cs hcs; cases hcs
      · cases h
  | a :: ps, r, [], l, hx, h => by cases h
  | a :: ps, r, x :: xs, l, hx, h => by
    obtain ⟨z, l', hz, hl, rfl⟩ := capt_cons.1 h
    have ih := capt_comps ps r xs l' (fun y hy => hx y (List.mem_cons_of_mem _ hy)) hl
    cases hs : star a with
    | false => exact ih
    | true =>
      obtain ⟨h1, h2⟩ := (mpart_starred hs).1 hz
      intro cs hcs c hc
      rcases List.mem_cons.1 hcs with rfl | hcs
      · obtain rfl : c = z := by simpa using hc
        have := hx x (List.mem_cons_self ..)
        rw [h2] at this
        have := comp_app h1 this (t := []) rfl
        rwa [List.append_nil] at this
      · exact ih cs hcs c hc
theorem comps_capt : ∀ (ps : List Str) (r : Bool) (xs : List Str) (l : List (List Str)), (∀ a ∈ ps, form a ≠ 0) → (∀ cs ∈ l, ∀ c ∈ cs, compB c = true) → capt ps r xs = some l → ∀ x ∈ xs, compB x = true
  | [], r, xs, l, hf, hx, h => by
    unfold capt at h
    cases r with
    | true =>
      simp only [if_true] at h
      split at h
      · cases h
      · cases h; exact hx xs (by simp)
    | false =>
      simp only [Bool.false_eq_true, if_false] at h
      split at h
      · next he => rw [he]; intro x hx; cases hx
      · cases h
  | a :: ps, r, [], l, hf, hx, h => by cases h
  | a :: ps, r, x :: xs, l, hf, hx, h => by
    obtain ⟨z, l', hz, hl, rfl⟩ := capt_cons.1 h
    have ha := hf a (List.mem_cons_self ..)
    have hfs := fun b (hb : b ∈ ps) => hf b (List.mem_cons_of_mem _ hb)
    cases hs : star a with
    | false =>
      rw [hs, if_neg (by decide)] at hx
      have ih := comps_capt ps r xs l' hfs hx hl
      obtain ⟨rfl, -⟩ := (mpart_lit hs).1 hz
      intro y hy
      rcases List.mem_cons.1 hy with rfl | hy
      · exact form_lit ha hs
      · exact ih y hy
    | true =>
      rw [hs, if_pos rfl] at hx
      have ih := comps_capt ps r xs l' hfs (fun cs hcs => hx cs (List.mem_cons_of_mem _ hcs)) hl
      obtain ⟨h1, h2⟩ := (mpart_starred hs).1 hz
      intro y hy
      rcases List.mem_cons.1 hy with rfl | hy
      · have := hx [z] (List.mem_cons_self ..) z (by simp)
        rw [h2]
        have h3 := comp_app (s := []) h1 (by rwa [List.append_nil]) (form_star ha hs)
        exact h3
      · exact ih y hy
theorem has_two {p : Pat} (hp : OkP p) {xs : List Str} (h : p.has xs = true) : 2 ≤ xs.length := by
  have hl := mtch_len _ _ _ h
  obtain ⟨a, ps, ha, -⟩ := hp.head
  cases hr : p.rest with
  | true => rw [hr] at hl; simp only [if_true] at hl; rw [ha] at hl; simp only [List.length_cons] at hl; omega
  | false =>
    rw [hr] at hl
    simp only [Bool.false_eq_true, if_false] at hl
    by_cases h1 : p.parts.length = 1
    · rw [hp.one h1] at hr; cases hr
    · rw [ha] at hl h1; simp only [List.length_cons] at hl h1; omega
theorem rel_path {p q : Pat} (hq : OkP q) {xs ys : List Str} (hx : PathOk xs) (h : rel p q xs ys) : PathOk ys := by
  obtain ⟨l, h1, h2⟩ := h
  exact ⟨has_two hq (has_iff.2 ⟨l, h2⟩), comps_capt _ _ _ _ hq.form (capt_comps _ _ _ _ hx.2 h1) h2⟩

end Go.Proofs.YtejljmikammcdaaGreatDoor
/-
  Paths and patterns as texts, in plain words: joining and splitting are inverse, and unlike patterns have unlike texts (chapters 2 and 3). No program stands in it.
-/
namespace Go.Proofs.YtejljmikammcdaaGreatDoor

/-- The texts with "/" between them. -/
def joinS : List Str → Str
  | [] => []
  | [a] => a
  | a :: b :: l => a ++ 47 :: joinS (b :: l)
theorem joinS_cons (a : Str) (l : List Str) (h : l ≠ []) : joinS (a :: l) = a ++ 47 :: joinS l := by
  cases l with
  | nil => exact absurd rfl h
  | cons b l => rfl
/-- A text cut at each "/". -/
def splitS : Str → List Str
  | [] => [[]]
  | c :: s => if c = 47 then [] :: splitS s else match splitS s with | [] => [[c]] | a :: l => (c :: a) :: l
theorem splitS_ne (s : Str) : splitS s ≠ [] := by
  cases s with
  | nil => simp [splitS]
  | cons c s =>
    unfold splitS
    split
    · simp
    · split <;> simp
theorem joinS_split : ∀ s : Str, joinS (splitS s) = s
  | [] => rfl
  | c :: s => by
    have ih := joinS_split s
    unfold splitS
    split
    · next hc => rw [joinS_cons _ _ (splitS_ne s), ih, hc]; rfl
    · cases hs : splitS s with
      | nil => exact absurd hs (splitS_ne s)
      | cons a l =>
        rw [hs] at ih
        cases l with
        | nil => show c :: a = c :: s; rw [← ih]; rfl
        | cons b l => show (c :: a) ++ 47 :: joinS (b :: l) = c :: s; rw [← ih]; rfl
theorem splitS_slash (s : Str) : splitS (47 :: s) = [] :: splitS s := by
  conv => lhs; unfold splitS
  rw [if_pos rfl]
theorem splitS_char {c : UInt8} {s a : Str} {l : List Str} (hc : c ≠ 47) (h : splitS s = a :: l) : splitS (c :: s) = (c :: a) :: l := by
  conv => lhs; unfold splitS
  rw [if_neg hc, h]
theorem splitS_app {a : Str} (ha : ∀ c ∈ a, c ≠ 47) (s : Str) : splitS (a ++ 47 :: s) = a :: splitS s := by
  induction a with
  | nil => exact splitS_slash s
  | cons c a ih => exact splitS_char (ha c (List.mem_cons_self ..)) (ih (fun x hx => ha x (List.mem_cons_of_mem _ hx)))
theorem splitS_one {a : Str} (ha : ∀ c ∈ a, c ≠ 47) : splitS a = [a] := by
  induction a with
  | nil => rfl
  | cons c a ih => exact splitS_char (ha c (List.mem_cons_self ..)) (ih (fun x hx => ha x (List.mem_cons_of_mem _ hx)))
theorem splitS_join : ∀ (l : List Str), l ≠ [] → (∀ a ∈ l, ∀ c ∈ a, c ≠ 47) → splitS (joinS l) = l
  | [], h, _ => absurd rfl h
  | [a], _, h => splitS_one (h a (List.mem_cons_self ..))
  | a :: b :: l, _, h => by
    rw [joinS_cons _ _ (by simp), splitS_app (h a (List.mem_cons_self ..)), splitS_join (b :: l) (by simp) (fun x hx => h x (List.mem_cons_of_mem _ hx))]
theorem joinS_append : ∀ (l m : List Str), l ≠ [] → m ≠ [] → joinS (l ++ m) = joinS l ++ 47 :: joinS m
  | [], m, h, _ => absurd rfl h
  | [a], m, _, h => joinS_cons a m h
  | a :: b :: l, m, _, h => by
    have e1 : a :: b :: l ++ m = a :: (b :: l ++ m) := rfl
    rw [e1, joinS_cons a (b :: l ++ m) (by simp), joinS_append (b :: l) m (by simp) h, joinS_cons a (b :: l) (by simp)]
    simp
theorem joinS_last (l m : List Str) (hl : l ≠ []) (hm : m ≠ []) : joinS (l ++ [joinS m]) = joinS (l ++ m) := by
  rw [joinS_append l _ hl (by simp), joinS_append l m hl hm]; rfl

theorem all_noslash {a : Str} (h : a.all isB = true) : ∀ c ∈ a, c ≠ 47 := by
  intro c hc e
  have := List.all_eq_true.1 h c hc
  rw [e, isB_slash] at this; cases this
theorem comp_noslash {a : Str} (h : compB a = true) : ∀ c ∈ a, c ≠ 47 := all_noslash (comp_parts.1 h).2.2
theorem form_noslash {a : Str} (h : form a ≠ 0) : ∀ c ∈ a, c ≠ 47 := by
  cases hs : star a with
  | false => exact comp_noslash (form_lit h hs)
  | true =>
    have := form_star h hs
    obtain ⟨u, rfl⟩ := star_iff.1 hs
    intro c hc
    rcases List.mem_cons.1 hc with rfl | hc
    · decide
    · exact all_noslash this c hc

/-- The text of a path. -/
def pathS (xs : List Str) : Str := 47 :: 47 :: joinS xs
/-- path.Split. -/
def splitP (s : Str) : Option (List Str) :=
  if [47, 47].isPrefixOf s then (if decide (2 ≤ (splitS (s.drop 2)).length) && (splitS (s.drop 2)).all compB then some (splitS (s.drop 2)) else none) else none
theorem splitP_path {xs : List Str} (h : PathOk xs) : splitP (pathS xs) = some xs := by
  have hn : xs ≠ [] := by rintro rfl; have := h.1; simp at this
  have hs : splitS ((pathS xs).drop 2) = xs := splitS_join xs hn (fun a ha => comp_noslash (h.2 a ha))
  unfold splitP
  rw [hs, if_pos (by simp [pathS]), if_pos (by rw [Bool.and_eq_true]; exact ⟨decide_eq_true h.1, List.all_eq_true.2 h.2⟩)]
theorem splitP_some {s : Str} {xs : List Str} (h : splitP s = some xs) : PathOk xs ∧ s = pathS xs := by
  unfold splitP at h
  split at h
  · next hp =>
    split at h
    · next hc =>
      cases h
      rw [Bool.and_eq_true] at hc
      refine ⟨⟨of_decide_eq_true hc.1, List.all_eq_true.1 hc.2⟩, ?_⟩
      unfold pathS
      rw [joinS_split]
      obtain ⟨t, rfl⟩ := List.isPrefixOf_iff_prefix.1 hp
      rfl
    · cases h
  · cases h
theorem pathS_inj {xs ys : List Str} (hx : PathOk xs) (hy : PathOk ys) (h : pathS xs = pathS ys) : xs = ys := by
  have := splitP_path hx
  rw [h, splitP_path hy] at this
  cases this; rfl

/-- The text of a pattern. -/
def textP (p : Pat) : Str := 47 :: 47 :: (joinS p.parts ++ if p.rest then [47, 46, 46, 46] else [])
theorem textP_inj {p q : Pat} (hp : OkP p) (hq : OkP q) (h : textP p = textP q) : p = q := by
  have key : ∀ r : Pat, OkP r → textP r = 47 :: 47 :: joinS (r.parts ++ if r.rest then [[46, 46, 46]] else []) ∧ splitS (joinS (r.parts ++ if r.rest then [[46, 46, 46]] else [])) = r.parts ++ if r.rest then [[46, 46, 46]] else [] := by
    intro r hr
    obtain ⟨a, ps, ha, -⟩ := hr.head
    have hn : r.parts ≠ [] := by rw [ha]; simp
    constructor
    · unfold textP
      cases r.rest with
      | true => rw [if_pos rfl, if_pos rfl, joinS_append _ _ hn (by simp)]; rfl
      | false => rw [if_neg (by decide), if_neg (by decide)]; simp
    · refine splitS_join _ (by simp [hn]) fun b hb => ?_
      rcases List.mem_append.1 hb with hb | hb
      · exact form_noslash (hr.form b hb)
      · cases hrr : r.rest with
        | true =>
          rw [hrr, if_pos rfl] at hb
          obtain rfl : b = [46, 46, 46] := by simpa using hb
          decide
        | false => rw [hrr, if_neg (by decide)] at hb; cases hb
  have e : p.parts ++ (if p.rest then [[46, 46, 46]] else []) = q.parts ++ (if q.rest then [[46, 46, 46]] else []) := by
    rw [← (key p hp).2, ← (key q hq).2]
    have h1 := (key p hp).1
    have h2 := (key q hq).1
    rw [h, h2] at h1
    simp only [List.cons.injEq, true_and] at h1
    rw [h1]
  have hdot : form [46, 46, 46] = 0 := by decide
  have last : ∀ (r : Pat), OkP r → ∀ l, r.parts ≠ l ++ [[46, 46, 46]] := fun r hr l e => hr.form [46, 46, 46] (by rw [e]; simp) hdot
  cases hpr : p.rest with
  | true =>
    cases hqr : q.rest with
    | true =>
      rw [hpr, hqr, if_pos rfl] at e
      exact Pat.ext' (List.append_cancel_right e) (by rw [hpr, hqr])
    | false =>
      rw [hpr, hqr, if_pos rfl, if_neg (by decide), List.append_nil] at e
      exact absurd e.symm (last q hq _)
  | false =>
    cases hqr : q.rest with
    | true =>
      rw [hpr, hqr, if_pos rfl, if_neg (by decide), List.append_nil] at e
      exact absurd e (last p hp _)
    | false =>
      rw [hpr, hqr, if_neg (by decide), List.append_nil, List.append_nil] at e
      exact Pat.ext' e (by rw [hpr, hqr])

/-- A text that is a path and the other path that a relation gives for it (view.Forward and mapping.Forward): the answer's text and whether there is one. -/
def FwdOk (R : List Str → List Str → Prop) (s : Str) (t : Str) (b : Bool) : Prop :=
  (b = true ∧ ∃ xs ys, PathOk xs ∧ PathOk ys ∧ s = pathS xs ∧ t = pathS ys ∧ R xs ys) ∨ (b = false ∧ t = [] ∧ ∀ xs, PathOk xs → s = pathS xs → ∀ ys, ¬ R xs ys)

/-- What one client sees and another one: the law's last lines. -/
theorem two_clients {v w : List Rul} {a b back m : List Ent} {one two p q : Str} {ok is has : Bool}
    (hv : EntsOk v v.length a) (hw : EntsOk w w.length b) (hb : InvOk a back) (hm : CmpOk (pairsL back b) m)
    (h1 : FwdOk (relM m) one two ok) (h2 : FwdOk (relV (v.map Rul.turn)) one p is) (h3 : is = true → FwdOk (relV w) p q has)
    (hpath : ∀ xs ys, PathOk xs → relM back xs ys → PathOk ys) :
    if is then ok = has ∧ two = q else ok = false := by
  cases is with
  | false =>
    rw [if_neg (by decide)]
    rcases h2 with ⟨h, -⟩ | ⟨-, -, hn⟩
    · cases h
    rcases h1 with ⟨-, xs, zs, hx, hz, rfl, rfl, hr⟩ | ⟨h, -⟩
    · obtain ⟨ys, h4, h5⟩ := (pairs_rel hm hx.full).1 hr
      have hy := hpath xs ys hx h4
      exact (hn xs hx rfl ys (relV_swap.2 ((hv.done hy.full).1 ((hb ys xs hy.full hx.full).1 h4)))).elim
    · exact h
  | true =>
    rw [if_pos rfl]
    rcases h2 with ⟨-, xs, ys, hx, hy, rfl, rfl, hr⟩ | ⟨h, -⟩
    · have hr' := relV_swap.1 hr
      have hbk' : relM back xs ys := (hb ys xs hy.full hx.full).2 ((hv.done hy.full).2 hr')
      have uniq : ∀ ys', relM back xs ys' → ys' = ys := fun ys' h' => by
        have hy' := hpath xs ys' hx h'
        exact relV_inj' ((hv.done hy'.full).1 ((hb ys' xs hy'.full hx.full).1 h')) hr'
      have iff1 : ∀ zs, relM m xs zs ↔ relV w ys zs := fun zs => by
        rw [pairs_rel hm hx.full]
        constructor
        · rintro ⟨ys', h4, h5⟩
          rw [uniq ys' h4] at h5
          exact (hw.done hy.full).1 h5
        · exact fun h => ⟨ys, hbk', (hw.done hy.full).2 h⟩
      rcases h1 with ⟨rfl, xs', zs, hx', hz, e1, rfl, h4⟩ | ⟨rfl, rfl, hn⟩
      · obtain rfl := pathS_inj hx hx' e1
        rcases h3 rfl with ⟨rfl, ys', zs', hy', hz', e2, rfl, h5⟩ | ⟨rfl, rfl, hn⟩
        · obtain rfl := pathS_inj hy hy' e2
          exact ⟨rfl, by rw [relV_inj ((iff1 zs).1 h4) h5]⟩
        · exact (hn ys hy rfl zs ((iff1 zs).1 h4)).elim
      · rcases h3 rfl with ⟨rfl, ys', zs', hy', hz', e2, rfl, h5⟩ | ⟨rfl, rfl, hn2⟩
        · obtain rfl := pathS_inj hy hy' e2
          exact (hn xs hx rfl zs' ((iff1 zs').2 h5)).elim
        · exact ⟨rfl, rfl⟩
    · cases h

/-- The composition of a view with its inverse. -/
theorem round_left {v : List Rul} {a b m : List Ent} {s t u : Str} {ok is : Bool} (hv : EntsOk v v.length a) (hb : InvOk a b) (hm : CmpOk (pairsL a b) m)
    (hpath : ∀ xs ys, PathOk xs → relM a xs ys → PathOk ys) (h1 : FwdOk (relM m) s t ok) (h2 : FwdOk (relV v) s u is) : ok = is ∧ (ok = true → t = s) := by
  have key : ∀ xs zs, PathOk xs → PathOk zs → (relM m xs zs ↔ ∃ ys, relV v xs ys ∧ relV v zs ys) := fun xs zs hx hz => by
    rw [pairs_rel hm hx.full]
    constructor
    · rintro ⟨ys, h3, h4⟩
      have hy := hpath xs ys hx h3
      exact ⟨ys, (hv.done hx.full).1 h3, (hv.done hz.full).1 ((hb zs ys hz.full hy.full).1 h4)⟩
    · rintro ⟨ys, h3, h4⟩
      have h3' := (hv.done hx.full).2 h3
      have hy := hpath xs ys hx h3'
      exact ⟨ys, h3', (hb zs ys hz.full hy.full).2 ((hv.done hz.full).2 h4)⟩
  rcases h1 with ⟨rfl, xs, zs, hx, hz, rfl, rfl, hr⟩ | ⟨rfl, rfl, hn⟩
  · obtain ⟨ys, h3, h4⟩ := (key xs zs hx hz).1 hr
    obtain rfl := relV_inj' h4 h3
    refine ⟨?_, fun _ => rfl⟩
    rcases h2 with ⟨rfl, -⟩ | ⟨-, -, hn⟩
    · rfl
    · exact (hn zs hx rfl ys h3).elim
  · refine ⟨?_, fun h => by cases h⟩
    rcases h2 with ⟨rfl, xs, ys, hx, hy, rfl, rfl, hr⟩ | ⟨rfl, -⟩
    · exact (hn xs hx rfl xs ((key xs xs hx hx).2 ⟨ys, hr, hr⟩)).elim
    · rfl
/-- The composition of a view's inverse with the view. -/
theorem round_right {v : List Rul} {a b m : List Ent} {s t u : Str} {ok is : Bool} (hv : EntsOk v v.length a) (hb : InvOk a b) (hm : CmpOk (pairsL b a) m)
    (hpath : ∀ xs ys, PathOk xs → relM b xs ys → PathOk ys) (h1 : FwdOk (relM m) s t ok) (h2 : FwdOk (relV (v.map Rul.turn)) s u is) : ok = is ∧ (ok = true → t = s) := by
  have key : ∀ xs zs, PathOk xs → (relM m xs zs ↔ ∃ ys, PathOk ys ∧ relV v ys xs ∧ relV v ys zs) := fun xs zs hx => by
    rw [pairs_rel hm hx.full]
    constructor
    · rintro ⟨ys, h3, h4⟩
      have hy := hpath xs ys hx h3
      exact ⟨ys, hy, (hv.done hy.full).1 ((hb ys xs hy.full hx.full).1 h3), (hv.done hy.full).1 h4⟩
    · rintro ⟨ys, hy, h3, h4⟩
      exact ⟨ys, (hb ys xs hy.full hx.full).2 ((hv.done hy.full).2 h3), (hv.done hy.full).2 h4⟩
  rcases h1 with ⟨rfl, xs, zs, hx, hz, rfl, rfl, hr⟩ | ⟨rfl, rfl, hn⟩
  · obtain ⟨ys, hy, h3, h4⟩ := (key xs zs hx).1 hr
    obtain rfl := relV_inj h4 h3
    refine ⟨?_, fun _ => rfl⟩
    rcases h2 with ⟨rfl, -⟩ | ⟨-, -, hn⟩
    · rfl
    · exact (hn zs hx rfl ys (relV_swap.2 h3)).elim
  · refine ⟨?_, fun h => by cases h⟩
    rcases h2 with ⟨rfl, xs, ys, hx, hy, rfl, rfl, hr⟩ | ⟨rfl, -⟩
    · have hr' := relV_swap.1 hr
      exact (hn xs hx rfl xs ((key xs xs hx).2 ⟨ys, hy, hr', hr'⟩)).elim
    · rfl

end Go.Proofs.YtejljmikammcdaaGreatDoor
