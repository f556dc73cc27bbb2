/-
  Several texts in one: OwnF, OwnS, Map.
-/
import Derived.Test.YtejljmikammcdaaGreatDoorBase
import Derived.ArgAppend
import Derived.Lib.SlBytesConst
import Derived.Laws.OwnMore
import Derived.Deep.MidRow
import Derived.Maps.Keyed
import Derived.WideKeyArgs2
import Derived.Carry
/-
  A slice that is owned, or is full (as '[]byte("..")' of a constant is): what an append to it gives is owned.
-/
namespace Go.Proofs.YtejljmikammcdaaGreatDoor
open Go.RowKit

def OwnF (w : World) (B e s : Nat) (a : Option Addr) (n c : Nat) (xs : List Value) : Prop := w.ownsRow B e s (.slice a n c) n xs ∨ (n = c ∧ Row w a n c s xs)

theorem OwnF.ext {w w' : World} {B e s n c : Nat} {a : Option Addr} {xs : List Value} (h : OwnF w B e s a n c xs) (hx : Ext w w') : OwnF w' B e s a n c xs := by
  rcases h with h | ⟨h1, h2⟩
  · exact .inl (own_ext h hx)
  · exact .inr ⟨h1, h2.ext hx⟩
theorem OwnF.row {w : World} {B e s n c : Nat} {a : Option Addr} {xs : List Value} (h : OwnF w B e s a n c xs) : Row w a n c s xs := by
  rcases h with h | ⟨_, h2⟩
  · exact Row.of_own h
  · exact h2

theorem Row.newF (w : World) (cs : Array Value) (e n s : Nat) (fr : Nat × Nat) (h : cs.size = n * s) (hm : n ≤ maxLen) : Row (w.alloc (.cells cs e fr)) (some ⟨w.heap.size, 0, none⟩) n n s cs.toList :=
  ⟨by simpa using h, Nat.le_refl _, hm, (fun h => nomatch h), (fun p hp => .inr ⟨_, _, (Option.some.inj hp).symm⟩), fun p hp j u hj => by
    cases hp
    rw [Addr.add_lit, Nat.zero_add, cell_of_row _ _ _ _ _ _ (heap_alloc_new w _)]
    simpa using hj⟩

section
variable {P : Program} {w : World}
theorem wpList_appF {ops : Array Oper} {rest : List Oper} {o : Oper} {f : Act} {Q : Exit → Act → World → Prop} (hgd : o.guard = none) (sO xO : Operand) {t : TypeId}
    (ho : o.op = .call { callee := .builtin .append, args := #[sO, xO], argTypes := #[t, t] })
    {e s b : Nat} {z : Value} (E : Elem P t e s b z) {B : Nat} {a : Option Addr} {n c : Nat} {xs : List Value} (hs : f.eval sO = .slice a n c) (hown : OwnF w B e s a n c xs)
    {xa : Option Addr} {m xc : Nat} {news : List Value} (hx : f.eval xO = .slice xa m xc) (hrow : Row w xa m xc s news) (h1 : ∀ u ∈ news, u.oneCell' = true) (hm0 : 0 < m)
    (hb : (n + m) * b ≤ 140737488355328) (hm : n + m ≤ maxLen) (hB : B ≤ w.heap.size)
    (h : ∀ a' c' w', w'.ownsRow B e s (.slice a' (n + m) c') (n + m) (xs ++ news) → Below B w w' → wpList P ops Q rest (f.put o.dst (.slice a' (n + m) c')) w') : wpList P ops Q (o :: rest) f w := by
  rcases hown with hown | ⟨hnc, hr⟩
  · exact wpList_app hgd sO xO ho E hs hown hx hrow h1 hb hm hB fun a' c' w' h2 h3 => h a' c' w' h2 (below_app (Below.refl _ _) hown h3 hB)
  · obtain ⟨i, hi, hz0, hz1, hz2⟩ := info_parts E.info
    cases hxa : xa with
    | none => have := hrow.nil hxa; have := hrow.le; omega
    | some p =>
      subst hxa
      refine wpList_append_grows w hgd sO xO t ho e i z s b E.und hi hz0 hz1 hz2 E.zs E.pos a n c xs hs (fun ha => ?_) hr.len (fun q hq => hr.cell q hq) p m xc news hx hrow.len (hrow.cell p rfl) h1 (by omega) hm hb ?_
      · have := hr.nil ha; omega
      · intro v' w' ho' hg'
        obtain ⟨a', c', rfl⟩ := own_shape ho'
        exact h a' c' w' (own_base ho' hB) ((Ext.of_grown hg').mono hB)
/-- A block of another element type is not the slice's. -/
theorem own_apart {B e s n c k : Nat} {a : Option Addr} {xs : List Value} {cs : Array Value} {t : TypeId} {fr : Nat × Nat} (h : w.ownsRow B e s (.slice a n c) n xs) (hk : w.heap[k]? = some (.cells cs t fr)) (ht : t ≠ e) : some k ≠ blockOf a := by
  rcases h.2 with ⟨hv, _⟩ | ⟨g, cap, cur, hv, hB, hg, _⟩
  · simp only [Value.slice.injEq] at hv
    rw [hv.1]
    exact fun h => nomatch h
  · simp only [Value.slice.injEq] at hv
    rw [hv.1]
    intro h
    simp only [blockOf, Option.some.injEq] at h
    rw [h, hg] at hk
    simp only [Option.some.injEq, Obj.cells.injEq] at hk
    exact ht hk.2.1.symm
/-- Blocks of other element types stand as they stood. -/
def KeepT (e : TypeId) (w w' : World) : Prop := ∀ (k : Nat) (cs : Array Value) (t : TypeId) (fr : Nat × Nat), t ≠ e → w.heap[k]? = some (Obj.cells cs t fr) → w'.heap[k]? = some (Obj.cells cs t fr)
theorem KeepT.of_ext {e : TypeId} {w w' : World} (h : Ext w w') : KeepT e w w' := fun _ _ _ _ _ hk => h.heap' hk
theorem KeepT.trans {e : TypeId} {a b c : World} (h : KeepT e a b) (h2 : KeepT e b c) : KeepT e a c := fun k cs t fr ht hk => h2 k cs t fr ht (h k cs t fr ht hk)
theorem wpList_appK {ops : Array Oper} {rest : List Oper} {o : Oper} {f : Act} {Q : Exit → Act → World → Prop} (hgd : o.guard = none) (sO xO : Operand) {t : TypeId}
    (ho : o.op = .call { callee := .builtin .append, args := #[sO, xO], argTypes := #[t, t] })
    {e s b : Nat} {z : Value} (E : Elem P t e s b z) {B : Nat} {a : Option Addr} {n c : Nat} {xs : List Value} (hs : f.eval sO = .slice a n c) (hown : OwnF w B e s a n c xs)
    {xa : Option Addr} {m xc : Nat} {news : List Value} (hx : f.eval xO = .slice xa m xc) (hrow : Row w xa m xc s news) (h1 : ∀ u ∈ news, u.oneCell' = true) (hm0 : 0 < m)
    (hb : (n + m) * b ≤ 140737488355328) (hm : n + m ≤ maxLen) (hB : B ≤ w.heap.size)
    (h : ∀ a' c' w', w'.ownsRow B e s (.slice a' (n + m) c') (n + m) (xs ++ news) → Below B w w' → KeepT e w w' → wpList P ops Q rest (f.put o.dst (.slice a' (n + m) c')) w') : wpList P ops Q (o :: rest) f w := by
  rcases hown with hown | ⟨hnc, hr⟩
  · exact wpList_app hgd sO xO ho E hs hown hx hrow h1 hb hm hB fun a' c' w' h2 h3 => h a' c' w' h2 (below_app (Below.refl _ _) hown h3 hB)
      (fun k cs t fr ht hk => (h3.block k (Array.getElem?_eq_some_iff.1 hk).1 (own_apart hown hk ht)).trans hk)
  · obtain ⟨i, hi, hz0, hz1, hz2⟩ := info_parts E.info
    cases hxa : xa with
    | none => have := hrow.nil hxa; have := hrow.le; omega
    | some p =>
      subst hxa
      refine wpList_append_grows w hgd sO xO t ho e i z s b E.und hi hz0 hz1 hz2 E.zs E.pos a n c xs hs (fun ha => ?_) hr.len (fun q hq => hr.cell q hq) p m xc news hx hrow.len (hrow.cell p rfl) h1 (by omega) hm hb ?_
      · have := hr.nil ha; omega
      · intro v' w' ho' hg'
        obtain ⟨a', c', rfl⟩ := own_shape ho'
        exact h a' c' w' (own_base ho' hB) ((Ext.of_grown hg').mono hB) (KeepT.of_ext (Ext.of_grown hg'))
end
end Go.Proofs.YtejljmikammcdaaGreatDoor
/-
  Stores into a slice of one's own.
-/
namespace Go.Proofs.YtejljmikammcdaaGreatDoor
open Go.RowKit

theorem grown_setCell' (w : World) (g j : Nat) (v : Value) : w.grownBy (w.setCell ⟨g, j, none⟩ v) (some g) :=
  ⟨rfl, rfl, rfl, by simp [World.setCell], fun k _ hk => Below.heap_setCell _ _ _ _ (fun e => hk (by rw [e]))⟩
theorem grown_trans' {w w1 w2 : World} {g : Option Nat} (h : w.grownBy w1 g) (h2 : w1.grownBy w2 g) : w.grownBy w2 g :=
  ⟨h2.os.trans h.os, h2.tape.trans h.tape, h2.output.trans h.output, Nat.le_trans h.size h2.size, fun k hk hg => (h2.block k (Nat.lt_of_lt_of_le hk h.size) hg).trans (h.block k hk hg)⟩
theorem grown_setCells (g : Nat) : ∀ (vs : List Value) (o : Nat) (w : World), w.grownBy (w.setCells g o vs) (some g)
  | [], _, w => World.grownBy.refl w _
  | v :: vs, o, w => grown_trans' (grown_setCell' w g o v) (grown_setCells g vs (o + 1) _)

theorem own_setCell {w : World} {B e s n c g j : Nat} {xs : List Value} {v : Value} (h : w.ownsRow B e s (.slice (some ⟨g, 0, none⟩) n c) n xs) (hj : j < n * s) :
    (w.setCell ⟨g, j, none⟩ v).ownsRow B e s (.slice (some ⟨g, 0, none⟩) n c) n (xs.set j v) := by
  obtain ⟨hl, hh⟩ := h
  refine ⟨by simpa using hl, ?_⟩
  rcases hh with ⟨hv, _⟩ | ⟨g', cap, cur, hv, hB, hg, hle, hm, hs, ht⟩
  · simp at hv
  · simp only [Value.slice.injEq, Option.some.injEq, Addr.mk.injEq, and_true, true_and] at hv
    obtain ⟨rfl, rfl⟩ := hv
    refine .inr ⟨g, c, cur.setIfInBounds j v, rfl, hB, ?_, hle, hm, by simpa using hs, ?_⟩
    · simp [World.setCell, Array.getElem?_modify, hg]
    · rw [Array.toList_setIfInBounds, ← ht]
      apply List.ext_getElem?
      intro i
      simp only [List.getElem?_take, List.getElem?_set, List.length_take]
      by_cases hi : i < n * s
      · simp only [hi, if_true]
        by_cases hij : j = i
        · subst hij
          simp only [if_true]
          have : j < cur.toList.length := by
            have h1 := hl; rw [← ht, List.length_take] at h1; omega
          rw [if_pos this, if_pos (by omega)]
        · simp only [hij, if_false]
      · simp only [hi, if_false]
        split <;> simp_all

theorem own_setCells {B e s n c g : Nat} : ∀ (vs : List Value) (o : Nat) (w : World) (xs : List Value), w.ownsRow B e s (.slice (some ⟨g, 0, none⟩) n c) n xs → o + vs.length ≤ n * s →
    (w.setCells g o vs).ownsRow B e s (.slice (some ⟨g, 0, none⟩) n c) n (xs.take o ++ vs ++ xs.drop (o + vs.length))
  | [], o, w, xs, h, _ => by simpa [World.setCells] using h
  | v :: vs, o, w, xs, h, hle => by
    simp only [List.length_cons] at hle ⊢
    have h1 := own_setCell (j := o) (v := v) h (by omega)
    have h2 := own_setCells vs (o + 1) _ _ h1 (by omega)
    have hl := h.1
    have e : (xs.set o v).take (o + 1) ++ vs ++ (xs.set o v).drop (o + 1 + vs.length) = xs.take o ++ v :: vs ++ xs.drop (o + (vs.length + 1)) := by
      rw [List.drop_set, if_pos (by omega), List.take_succ_eq_append_getElem (by simp; omega), List.take_set_of_le (Nat.le_refl _)]
      simp [show o + 1 + vs.length = o + (vs.length + 1) by omega]
    rw [e] at h2
    exact h2
/-- An owned slice that is not empty has its block. -/
theorem own_some {w : World} {B e s n c : Nat} {a : Option Addr} {xs : List Value} (h : w.ownsRow B e s (.slice a n c) n xs) (hn : 0 < n) :
    ∃ g cur, a = some ⟨g, 0, none⟩ ∧ B ≤ g ∧ w.heap[g]? = some (.cells cur e (0, 0)) ∧ n ≤ c ∧ ∀ i, i < n * s → cur[i]? = xs[i]? := by
  obtain ⟨hl, hh⟩ := h
  rcases hh with ⟨hv, rfl⟩ | ⟨g', cap, cur, hv, hB, hg, hle, hm, hs, ht⟩
  · simp only [Value.slice.injEq] at hv
    omega
  · simp only [Value.slice.injEq] at hv
    obtain ⟨rfl, -, rfl⟩ := hv
    refine ⟨g', cur, rfl, hB, hg, hle, fun i hi => ?_⟩
    rw [← ht, List.getElem?_take, if_pos hi, Array.getElem?_toList]
/-- A store into a block keeps what is owned in another one. -/
theorem own_other {w w' : World} {B e s n c g : Nat} {a : Option Addr} {xs : List Value} (h : w.ownsRow B e s (.slice a n c) n xs) (hw : w.grownBy w' (some g)) (hg : blockOf a ≠ some g) : w'.ownsRow B e s (.slice a n c) n xs :=
  h.kept (row := some g) hw (by
    rw [ownBlock_slice]
    cases ha : blockOf a with
    | none => simp
    | some b => rw [ha] at hg; simpa using hg)
/-- A byte is stored: bytes stay bytes. -/
theorem own_setByte {w : World} {B e n c g j : Nat} {a : Option Addr} {l : List UInt8} (x : UInt8) (h : w.ownsRow B e 1 (.slice a n c) n (l.map u8)) (hg : ∃ cur, w.heap[g]? = some (.cells cur e (0, 0)) ∧ j < cur.size) :
    ∃ l' : List UInt8, l'.length = l.length ∧ (w.setCell ⟨g, j, none⟩ (u8 x)).ownsRow B e 1 (.slice a n c) n (l'.map u8) := by
  by_cases hb : blockOf a = some g
  · by_cases hj : j < n
    · obtain ⟨g', cur, rfl, -⟩ := own_some h (by omega)
      obtain rfl : g' = g := by simpa [blockOf] using hb
      exact ⟨l.set j x, by simp, by rw [List.map_set]; exact own_setCell h (by omega)⟩
    · refine ⟨l, rfl, h.1, ?_⟩
      rcases h.2 with h2 | ⟨g', cap, cur, hv, hB, hg', hle, hm, hs, ht⟩
      · exact .inl h2
      · simp only [Value.slice.injEq] at hv
        obtain ⟨rfl, -, rfl⟩ := hv
        obtain rfl : g' = g := by simpa [blockOf] using hb
        refine .inr ⟨g', c, cur.setIfInBounds j (u8 x), rfl, hB, by simp [World.setCell, Array.getElem?_modify, hg'], hle, hm, by simpa using hs, ?_⟩
        rw [Array.toList_setIfInBounds, List.take_set_of_le (by omega)]
        exact ht
  · exact ⟨l, rfl, own_other h (grown_setCell' w g j _) hb⟩
end Go.Proofs.YtejljmikammcdaaGreatDoor
/-
  A map in a block as a function from keys: look-up, store, delete, make.
-/
namespace Go.Proofs.YtejljmikammcdaaGreatDoor
open Go.RowKit Go.WideMaps

/-- Keys as values. -/
structure KV (P : Program) (kt : TypeId) {κ : Type} (kv : κ → Value) : Prop where
  law : KeyLaw P kt
  lit : ∀ a, ∃ l, keyOf P kt (kv a) = some l
  inj : ∀ a b, kv a = kv b → a = b
/-- Entries that hold f: one for a key, each with its own stamp. -/
structure MapEs {κ : Type} (kv : κ → Value) (es : List MapEntry) (clock : Nat) (f : κ → Option Value) : Prop where
  keys : ∀ e ∈ es, ∃ a, e.key = kv a
  apart : es.Pairwise (fun x y => x.key ≠ y.key)
  born : es.Pairwise (fun x y => x.born ≠ y.born)
  old : ∀ e ∈ es, e.born < clock
  iff : ∀ a v, f a = some v ↔ ∃ e ∈ es, e.key = kv a ∧ e.val = v
/-- Block b is a map that holds f. -/
def MapF {κ : Type} (kv : κ → Value) (w : World) (b : Nat) (f : κ → Option Value) : Prop :=
  ∃ es clock, w.heap[b]? = some (.map es clock) ∧ MapEs kv es.toList clock f

section
variable {κ : Type} {kv : κ → Value} {es : List MapEntry} {clock : Nat} {f : κ → Option Value}
open Classical in
theorem MapEs.push (hinj : ∀ a b, kv a = kv b → a = b) (h : MapEs kv es clock f) (a : κ) (v : Value) (hn : ∀ e ∈ es, e.key ≠ kv a) : MapEs kv (es ++ [⟨kv a, v, clock⟩]) (clock + 1) (fun x => if x = a then some v else f x) where
  keys x hx := by
    rcases List.mem_append.1 hx with hx | hx
    · exact h.keys x hx
    · rw [List.mem_singleton] at hx; subst hx; exact ⟨a, rfl⟩
  apart := by
    rw [List.pairwise_append]
    exact ⟨h.apart, List.pairwise_singleton _ _, fun x hx y hy => by rw [List.mem_singleton] at hy; subst hy; exact hn x hx⟩
  born := by
    rw [List.pairwise_append]
    exact ⟨h.born, List.pairwise_singleton _ _, fun x hx y hy => by rw [List.mem_singleton] at hy; subst hy; exact Nat.ne_of_lt (h.old x hx)⟩
  old x hx := by
    rcases List.mem_append.1 hx with hx | hx
    · exact Nat.lt_succ_of_lt (h.old x hx)
    · rw [List.mem_singleton] at hx; subst hx; exact Nat.lt_succ_self _
  iff x u := by
    show (if x = a then some v else f x) = some u ↔ _
    simp only [List.mem_append, List.mem_singleton]
    by_cases hxa : x = a
    · subst hxa
      rw [if_pos rfl]
      constructor
      · intro h; cases h; exact ⟨_, .inr rfl, rfl, rfl⟩
      · rintro ⟨y, hy | rfl, hyk, rfl⟩
        · exact absurd hyk (hn y hy)
        · rfl
    · rw [if_neg hxa, h.iff]
      constructor
      · rintro ⟨y, hy, h1, h2⟩; exact ⟨y, .inl hy, h1, h2⟩
      · rintro ⟨y, hy | rfl, h1, h2⟩
        · exact ⟨y, hy, h1, h2⟩
        · exact absurd (hinj _ _ h1).symm hxa
theorem pair_set {α : Type} {R : α → α → Prop} {l : List α} {j : Nat} {e e' : α} (h : l.Pairwise R) (hj : l[j]? = some e) (h1 : ∀ y, R e y → R e' y) (h2 : ∀ y, R y e → R y e') : (l.set j e').Pairwise R := by
  obtain ⟨hjl, hjv⟩ := List.getElem?_eq_some_iff.1 hj
  rw [List.pairwise_iff_getElem] at h ⊢
  intro p q hp hq hpq
  simp only [List.length_set] at hp hq
  have h5 := h p q hp hq hpq
  simp only [List.getElem_set]
  by_cases hjp : j = p
  · subst hjp
    rw [if_pos rfl, if_neg (by omega)]
    rw [hjv] at h5
    exact h1 _ h5
  · rw [if_neg hjp]
    by_cases hjq : j = q
    · subst hjq
      rw [if_pos rfl]
      rw [hjv] at h5
      exact h2 _ h5
    · rw [if_neg hjq]; exact h5
theorem pair_ne {l : List MapEntry} (h : l.Pairwise (fun x y => x.key ≠ y.key)) {i j : Nat} {x y : MapEntry} (hi : l[i]? = some x) (hj : l[j]? = some y) (hk : x.key = y.key) : i = j := by
  obtain ⟨h1, rfl⟩ := List.getElem?_eq_some_iff.1 hi
  obtain ⟨h2, rfl⟩ := List.getElem?_eq_some_iff.1 hj
  rcases Nat.lt_trichotomy i j with h3 | h3 | h3
  · exact absurd hk (List.pairwise_iff_getElem.1 h i j h1 h2 h3)
  · exact h3
  · exact absurd hk.symm (List.pairwise_iff_getElem.1 h j i h2 h1 h3)
open Classical in
theorem MapEs.set (hinj : ∀ a b, kv a = kv b → a = b) (h : MapEs kv es clock f) {a : κ} {j : Nat} {e : MapEntry} (v : Value) (hj : es[j]? = some e) (hk : e.key = kv a) : MapEs kv (es.set j { e with key := kv a, val := v }) clock (fun x => if x = a then some v else f x) where
  keys x hx := by
    rcases List.mem_or_eq_of_mem_set hx with hx | rfl
    · exact h.keys x hx
    · exact ⟨a, rfl⟩
  apart := pair_set h.apart hj (fun y hy => by rw [hk] at hy; exact hy) (fun y hy => by rw [hk] at hy; exact hy)
  born := pair_set h.born hj (fun _ hy => hy) (fun _ hy => hy)
  old x hx := by
    rcases List.mem_or_eq_of_mem_set hx with hx | rfl
    · exact h.old x hx
    · exact h.old e (List.mem_of_getElem? hj)
  iff x u := by
    show (if x = a then some v else f x) = some u ↔ _
    have hjl := (List.getElem?_eq_some_iff.1 hj).1
    by_cases hxa : x = a
    · subst hxa
      rw [if_pos rfl]
      constructor
      · intro h; cases h; exact ⟨_, List.mem_set hjl _, rfl, rfl⟩
      · rintro ⟨y, hy, hyk, rfl⟩
        obtain ⟨i, hi⟩ := List.getElem?_of_mem hy
        rw [List.getElem?_set] at hi
        by_cases hij : j = i
        · rw [if_pos hij, if_pos hjl] at hi
          cases hi; rfl
        · rw [if_neg hij] at hi
          exact absurd (pair_ne h.apart hj hi (by rw [hk, hyk])) hij
    · rw [if_neg hxa, h.iff]
      constructor
      · rintro ⟨y, hy, h1, h2⟩
        obtain ⟨i, hi⟩ := List.getElem?_of_mem hy
        have hij : j ≠ i := fun hij => by
          subst hij
          rw [hj] at hi; cases hi
          rw [hk] at h1
          exact hxa (hinj _ _ h1).symm
        exact ⟨y, List.mem_of_getElem? (by rw [List.getElem?_set, if_neg hij]; exact hi), h1, h2⟩
      · rintro ⟨y, hy, h1, h2⟩
        rcases List.mem_or_eq_of_mem_set hy with hy | rfl
        · exact ⟨y, hy, h1, h2⟩
        · exact absurd (hinj _ _ h1).symm hxa
open Classical in
theorem MapEs.erase (hinj : ∀ a b, kv a = kv b → a = b) (h : MapEs kv es clock f) {a : κ} {j : Nat} {e : MapEntry} (hj : es[j]? = some e) (hk : e.key = kv a) : MapEs kv (es.eraseIdx j) clock (fun x => if x = a then none else f x) where
  keys x hx := h.keys x (List.mem_of_mem_eraseIdx hx)
  apart := h.apart.sublist (List.eraseIdx_sublist _ _)
  born := h.born.sublist (List.eraseIdx_sublist _ _)
  old x hx := h.old x (List.mem_of_mem_eraseIdx hx)
  iff x u := by
    show (if x = a then none else f x) = some u ↔ _
    by_cases hxa : x = a
    · subst hxa
      rw [if_pos rfl]
      constructor
      · intro h; cases h
      · rintro ⟨y, hy, hyk, -⟩
        exfalso
        obtain ⟨i, hij, hi⟩ := List.mem_eraseIdx_iff_getElem?.1 hy
        exact hij (pair_ne h.apart hi hj (by rw [hk, hyk]))
    · rw [if_neg hxa, h.iff]
      constructor
      · rintro ⟨y, hy, h1, h2⟩
        obtain ⟨i, hi⟩ := List.getElem?_of_mem hy
        have hij : i ≠ j := fun hij => by
          subst hij
          rw [hj] at hi; cases hi
          rw [hk] at h1
          exact hxa (hinj _ _ h1).symm
        exact ⟨y, List.mem_eraseIdx_iff_getElem?.2 ⟨i, hij, hi⟩, h1, h2⟩
      · rintro ⟨y, hy, h1, h2⟩
        exact ⟨y, List.mem_of_mem_eraseIdx hy, h1, h2⟩
end

section
variable {P : Program} {κ : Type} {kv : κ → Value} {kt : TypeId} {w : World} {b : Nat} {f : κ → Option Value}

theorem MapF.ext {w' : World} (h : MapF kv w b f) (hx : Ext w w') : MapF kv w' b f := by
  obtain ⟨es, c, h1, h2⟩ := h
  exact ⟨es, c, hx.heap' h1, h2⟩
theorem MapF.lt (h : MapF kv w b f) : b < w.heap.size := by
  obtain ⟨es, c, h1, -⟩ := h
  exact (Array.getElem?_eq_some_iff.1 h1).1
theorem MapF.other {w' : World} {g : Nat} (h : MapF kv w b f) (hg : w.grownBy w' (some g)) (hne : b ≠ g) : MapF kv w' b f := by
  have hl := h.lt
  obtain ⟨es, c, h1, h2⟩ := h
  exact ⟨es, c, by rw [hg.block _ hl (fun h => hne (Option.some.inj h))]; exact h1, h2⟩
theorem MapF.new (w : World) : MapF kv (w.alloc (.map #[] 0)) w.heap.size (fun _ => none) :=
  ⟨#[], 0, heap_alloc_new w _, (fun e he => by simp at he), by simp, by simp, (fun e he => by simp at he), fun a v => by simp⟩
theorem MapF.congr {f' : κ → Option Value} (h : MapF kv w b f) (hf : ∀ a, f' a = f a) : MapF kv w b f' := by
  obtain rfl : f' = f := funext hf
  exact h
/-- What the search finds. -/
theorem MapF.find (K : KV P kt kv) {es : Array MapEntry} {clock : Nat} (h : MapEs kv es.toList clock f) (w : World) (a : κ) :
    (f a = none ∧ (Instr.findKey kt (kv a) es.toList).run P w = .ok none w ∧ ∀ e ∈ es.toList, e.key ≠ kv a) ∨ ∃ j e, f a = some e.val ∧ (Instr.findKey kt (kv a) es.toList).run P w = .ok (some (j, e.val)) w ∧ es.toList[j]? = some e ∧ e.key = kv a := by
  obtain ⟨l, hl⟩ := K.lit a
  rcases K.law.find w hl es.toList (fun e he => by obtain ⟨a', ha⟩ := h.keys e he; rw [ha]; exact K.lit a') with ⟨hr, hn⟩ | ⟨j, e, hr, hj, hk⟩
  · refine .inl ⟨?_, hr, hn⟩
    cases hfa : f a with
    | none => rfl
    | some v =>
      obtain ⟨e, he, hk, -⟩ := (h.iff a v).1 hfa
      exact absurd hk (hn e he)
  · exact .inr ⟨j, e, (h.iff a e.val).2 ⟨e, List.mem_of_getElem? hj, hk, rfl⟩, hr, hj, hk⟩
theorem grown_setObj (w : World) (b : Nat) (o : Obj) : w.grownBy { w with heap := w.heap.setIfInBounds b o } (some b) := ⟨rfl, rfl, rfl, by simp, fun k _ hk => by
  simp only [Array.getElem?_setIfInBounds]
  rw [if_neg (fun e => hk (by rw [e]))]⟩
theorem heap_setObj {w : World} {b : Nat} (h : b < w.heap.size) (o : Obj) : ({ w with heap := w.heap.setIfInBounds b o } : World).heap[b]? = some o := by simp [h]
theorem modify_set {es : Array MapEntry} {j : Nat} {e : MapEntry} (hj : es.toList[j]? = some e) (g : MapEntry → MapEntry) : (es.modify j g).toList = es.toList.set j (g e) := by
  have hjl := (List.getElem?_eq_some_iff.1 hj).1
  apply List.ext_getElem?
  intro i
  rw [Array.getElem?_toList, Array.getElem?_modify, List.getElem?_set]
  by_cases hij : j = i
  · subst hij
    rw [if_pos rfl, if_pos rfl, if_pos hjl, ← Array.getElem?_toList, hj]; rfl
  · rw [if_neg hij, if_neg hij, Array.getElem?_toList]

theorem MapF.run_look (K : KV P kt kv) (h : MapF kv w b f) {t et : TypeId} (ht : P.underlying t = some (.map kt et)) {z : Value} (hz : (zeroValue et).run P w = .ok z w) (a : κ) (ok : Bool) :
    (Instr.lookup t (.map (some b)) (kv a) ok).run P w = .ok (if ok then .tuple #[(f a).getD z, .bool (f a).isSome] else (f a).getD z) w := by
  obtain ⟨es, c, h1, he⟩ := h
  obtain ⟨l, hl⟩ := K.lit a
  rcases MapF.find K he w a with ⟨hf, hr, -⟩ | ⟨j, e, hf, hr, -, -⟩
  · cases ok <;> simp [Instr.lookup, run_underlying ht, MapKept.run_getObj_map h1, K.law.check w _ hl, hr, hz, hf, Result.andThen]
  · cases ok <;> simp [Instr.lookup, run_underlying ht, MapKept.run_getObj_map h1, K.law.check w _ hl, hr, hf, Result.andThen]

open Classical in
theorem MapF.run_put (K : KV P kt kv) (h : MapF kv w b f) {t et : TypeId} (ht : P.underlying t = some (.map kt et)) (a : κ) (v : Value) :
    ∃ w', (Instr.mapUpdate t (.map (some b)) (kv a) v).run P w = .ok () w' ∧ MapF kv w' b (fun x => if x = a then some v else f x) ∧ w.grownBy w' (some b) := by
  have hblt := h.lt
  obtain ⟨es, c, g1, he⟩ := h
  obtain ⟨l, hl⟩ := K.lit a
  rcases MapF.find K he w a with ⟨hf, hr, hn⟩ | ⟨j, e, hf, hr, hj, hk⟩
  · refine ⟨_, ?_, ⟨es.push ⟨kv a, v, c⟩, c + 1, heap_setObj hblt _, ?_⟩, grown_setObj _ _ _⟩
    · simp [Instr.mapUpdate, run_underlying ht, MapKept.run_getObj_map g1, K.law.check w false hl, hr, MapKept.run_setObj_map _ g1, Result.andThen]
    · rw [Array.toList_push]; exact he.push K.inj a v hn
  · have hje : es[j]? = some e := by rw [← Array.getElem?_toList]; exact hj
    refine ⟨_, ?_, ⟨es.modify j fun e => { e with key := kv a, val := v }, c, heap_setObj hblt _, ?_⟩, grown_setObj _ _ _⟩
    · simp [Instr.mapUpdate, run_underlying ht, MapKept.run_getObj_map g1, K.law.check w false hl, hr, hje, hk, K.law.stays w hl, MapKept.run_setObj_map _ g1, Result.andThen]
    · rw [modify_set hj]; exact he.set K.inj v hj hk

open Classical in
theorem MapF.run_del (K : KV P kt kv) (h : MapF kv w b f) {t et : TypeId} (ht : P.underlying t = some (.map kt et)) (a : κ) (ty : TypeId) :
    ∃ w', (Builtin.delete_ #[t, kt] ty #[.map (some b), kv a]).run P w = .ok (.tuple #[]) w' ∧ MapF kv w' b (fun x => if x = a then none else f x) ∧ w.grownBy w' (some b) := by
  have hblt := h.lt
  obtain ⟨es, c, g1, he⟩ := h
  obtain ⟨l, hl⟩ := K.lit a
  rcases MapF.find K he w a with ⟨hf, hr, hn⟩ | ⟨j, e, hf, hr, hj, hk⟩
  · refine ⟨_, ?_, ⟨es, c, heap_setObj hblt _, he.keys, he.apart, he.born, he.old, ?_⟩, grown_setObj _ _ _⟩
    · simp [Builtin.delete_, run_underlying ht, MapKept.run_getObj_map g1, K.law.check w _ hl, hr, MapKept.run_setObj_map _ g1, Result.andThen]
    · intro x u
      show (if x = a then none else f x) = some u ↔ _
      by_cases hxa : x = a
      · subst hxa
        rw [if_pos rfl]
        constructor
        · intro h; cases h
        · rintro ⟨y, hy, hyk, -⟩; exact absurd hyk (hn y hy)
      · rw [if_neg hxa, he.iff]
  · refine ⟨_, ?_, ⟨es.eraseIdxIfInBounds j, c, heap_setObj hblt _, ?_⟩, grown_setObj _ _ _⟩
    · simp [Builtin.delete_, run_underlying ht, MapKept.run_getObj_map g1, K.law.check w _ hl, hr, MapKept.run_setObj_map _ g1, Result.andThen]
    · rw [show (es.eraseIdxIfInBounds j).toList = es.toList.eraseIdx j by simp]; exact he.erase K.inj hj hk

/-- The stamp of a key's entry. -/
def Stamp (kv : κ → Value) (w : World) (b : Nat) (a : κ) (st : Nat) : Prop := ∃ es clock, w.heap[b]? = some (.map es clock) ∧ ∃ e ∈ es.toList, e.key = kv a ∧ e.born = st
theorem Stamp.ext {w' : World} {a : κ} {st : Nat} (h : Stamp kv w b a st) (hx : Ext w w') : Stamp kv w' b a st := by
  obtain ⟨es, c, h1, h2⟩ := h
  exact ⟨es, c, hx.heap' h1, h2⟩
theorem Stamp.other {w' : World} {a : κ} {st g : Nat} (h : Stamp kv w b a st) (hg : w.grownBy w' (some g)) (hne : b ≠ g) : Stamp kv w' b a st := by
  obtain ⟨es, c, h1, h2⟩ := h
  exact ⟨es, c, by rw [hg.block _ (Array.getElem?_eq_some_iff.1 h1).1 (fun h => hne (Option.some.inj h))]; exact h1, h2⟩
open Classical in
theorem MapF.run_entry (K : KV P kt kv) (h : MapF kv w b f) {t et : TypeId} (ht : P.underlying t = some (.map kt et)) {z : Value} (hz : (zeroValue et).run P w = .ok z w) (a : κ) :
    ∃ (w' : World) (st : Nat), (Instr.mapEntry t (.map (some b)) (kv a)).run P w = .ok (.tuple #[(f a).getD z, goInt st]) w' ∧ MapF kv w' b (fun x => if x = a then some ((f a).getD z) else f x) ∧ Stamp kv w' b a st ∧ w.grownBy w' (some b) := by
  have hblt := h.lt
  obtain ⟨es, c, g1, he⟩ := h
  obtain ⟨l, hl⟩ := K.lit a
  rcases MapF.find K he w a with ⟨hf, hr, hn⟩ | ⟨j, e, hf, hr, hj, hk⟩
  · refine ⟨_, c, ?_, ⟨es.push ⟨kv a, z, c⟩, c + 1, heap_setObj hblt _, ?_⟩, ⟨_, _, heap_setObj hblt _, ⟨kv a, z, c⟩, by simp, rfl, rfl⟩, grown_setObj _ _ _⟩
    · simp [Instr.mapEntry, run_underlying ht, MapKept.run_getObj_map g1, K.law.check w false hl, hr, hz, hf, MapKept.run_setObj_map _ g1, Result.andThen]
    · rw [Array.toList_push, hf]; exact he.push K.inj a z hn
  · have hje : es[j]? = some e := by rw [← Array.getElem?_toList]; exact hj
    have hm := modify_set hj (fun e => { e with key := kv a })
    have he' := he.set K.inj e.val hj hk
    refine ⟨_, e.born, ?_, ⟨es.modify j fun e => { e with key := kv a }, c, heap_setObj hblt _, ?_⟩, ⟨_, _, heap_setObj hblt _, { e with key := kv a }, by rw [hm]; exact List.mem_set (List.getElem?_eq_some_iff.1 hj).1 _, rfl, rfl⟩, grown_setObj _ _ _⟩
    · simp [Instr.mapEntry, run_underlying ht, MapKept.run_getObj_map g1, K.law.check w false hl, hr, hje, hk, hf, K.law.stays w hl, MapKept.run_setObj_map _ g1, Result.andThen]
    · rw [hm, hf]; exact he'
open Classical in
theorem MapF.run_store (K : KV P kt kv) (h : MapF kv w b f) {a : κ} {st : Nat} (hs : Stamp kv w b a st) (t : TypeId) (v : Value) :
    ∃ w', (Instr.entryStore t (.map (some b)) (goInt st) v).run P w = .ok () w' ∧ MapF kv w' b (fun x => if x = a then some v else f x) ∧ w.grownBy w' (some b) := by
  have hblt := h.lt
  obtain ⟨es, c, g1, he⟩ := h
  obtain ⟨es', c', g2, e, hem, hek, heb⟩ := hs
  obtain ⟨rfl, rfl⟩ : es = es' ∧ c = c' := by rw [g1] at g2; simpa using g2
  obtain ⟨j, hj⟩ := List.getElem?_of_mem hem
  obtain ⟨hjl, hjv⟩ := List.getElem?_eq_some_iff.1 hj
  have hidx : es.findIdx? (fun e => (e.born : Int) == (st : Int)) = some j := by
    rw [Array.findIdx?_eq_some_iff_getElem]
    have hjl' : j < es.size := by simpa using hjl
    have hjv' : es[j] = e := by rw [← hjv]; simp
    refine ⟨hjl', by rw [hjv', heb]; simp, fun i hi => ?_⟩
    have hb := List.pairwise_iff_getElem.1 he.born i j (by omega) hjl hi
    rw [hjv, heb] at hb
    simp only [Array.getElem_toList] at hb
    simp only [Bool.not_eq_true, beq_eq_false_iff_ne, ne_eq]
    intro h; exact hb (by omega)
  have hm := modify_set hj (fun e => { e with val := v })
  refine ⟨_, ?_, ⟨es.modify j fun e => { e with val := v }, c, heap_setObj hblt _, ?_⟩, grown_setObj _ _ _⟩
  · simp [Instr.entryStore, MapKept.run_getObj_map g1, goInt, asInt, asIntOf, hidx, MapKept.run_setObj_map _ g1, Result.andThen]
  · rw [hm]
    have h2 := he.set K.inj v hj hek
    rw [show ({ e with key := kv a, val := v } : MapEntry) = { e with val := v } by rw [← hek]] at h2
    exact h2

/-! ### At the operation -/
open Classical in
/-- The entry that m[k] op= v begins with. -/
theorem owp_entry {o : Oper} {a : Act} {K : Act → World → Prop} {Q : Exit → Act → World → Prop} (H : KV P kt kv) (m x : Operand) {t et : TypeId} (hop : o.op = .mapEntry t m x) (ht : P.underlying t = some (.map kt et))
    {z : Value} (hz : (zeroValue et).run P w = .ok z w) (hm : a.eval m = .map (some b)) (hf : MapF kv w b f) (k : κ) (hx : a.eval x = kv k)
    (hK : ∀ (w' : World) (st : Nat), MapF kv w' b (fun y => if y = k then some ((f k).getD z) else f y) → Stamp kv w' b k st → w.grownBy w' (some b) → K (a.put o.dst (.tuple #[(f k).getD z, .int .i64 st])) w') : o.wp P a w K Q := by
  obtain ⟨w', st, hr, h1, h2, h3⟩ := hf.run_entry H ht hz k
  unfold Oper.wp
  simp only [execOp, hop, hm, hx, hr, Sem.run_bind, Sem.run_pure, Result.andThen_ok]
  exact hK _ _ h1 h2 h3
open Classical in
theorem owp_estore {o : Oper} {a : Act} {K : Act → World → Prop} {Q : Exit → Act → World → Prop} (H : KV P kt kv) (m s v : Operand) {t : TypeId} (hop : o.op = .entryStore t m s v)
    (hm : a.eval m = .map (some b)) (hf : MapF kv w b f) (k : κ) {st : Nat} (hst : Stamp kv w b k st) (hs : a.eval s = .int .i64 st) {val : Value} (hv : a.eval v = val)
    (hK : ∀ w', MapF kv w' b (fun y => if y = k then some val else f y) → w.grownBy w' (some b) → K (a.put o.dst undef) w') : o.wp P a w K Q := by
  obtain ⟨w', hr, h1, h2⟩ := hf.run_store H hst t val
  have hr' : (Instr.entryStore t (.map (some b)) (.int .i64 st) val).run P w = .ok () w' := hr
  unfold Oper.wp
  simp only [execOp, hop, hm, hs, hv, hr', Sem.run_bind, Sem.run_pure, Result.andThen_ok]
  exact hK _ h1 h2
/-- v, ok := m[k] (or v := m[k]) -/
theorem owp_look {o : Oper} {a : Act} {K : Act → World → Prop} {Q : Exit → Act → World → Prop} (H : KV P kt kv) (m x : Operand) {t et : TypeId} {ok : Bool} (hop : o.op = .lookup t m x ok) (ht : P.underlying t = some (.map kt et))
    {z : Value} (hz : (zeroValue et).run P w = .ok z w) (hm : a.eval m = .map (some b)) (hf : MapF kv w b f) (k : κ) (hx : a.eval x = kv k)
    (hK : K (a.put o.dst (if ok then .tuple #[(f k).getD z, .bool (f k).isSome] else (f k).getD z)) w) : o.wp P a w K Q := by
  unfold Oper.wp
  simp only [execOp, hop, hm, hx, hf.run_look H ht hz k ok, Sem.run_bind, Sem.run_pure, Result.andThen_ok]
  exact hK
open Classical in
/-- m[k] = v -/
theorem owp_put {o : Oper} {a : Act} {K : Act → World → Prop} {Q : Exit → Act → World → Prop} (H : KV P kt kv) (m x v : Operand) {t et : TypeId} (hop : o.op = .mapUpdate t m x v) (ht : P.underlying t = some (.map kt et))
    (hm : a.eval m = .map (some b)) (hf : MapF kv w b f) (k : κ) (hx : a.eval x = kv k) {val : Value} (hv : a.eval v = val)
    (hK : ∀ w', MapF kv w' b (fun y => if y = k then some val else f y) → w.grownBy w' (some b) → K (a.put o.dst undef) w') : o.wp P a w K Q := by
  obtain ⟨w', hr, h1, h2⟩ := hf.run_put H ht k val
  unfold Oper.wp
  simp only [execOp, hop, hm, hx, hv, hr, Sem.run_bind, Sem.run_pure, Result.andThen_ok]
  exact hK _ h1 h2
open Classical in
/-- delete(m, k) -/
theorem owp_del {o : Oper} {a : Act} {K : Act → World → Prop} {Q : Exit → Act → World → Prop} (H : KV P kt kv) (m x : Operand) {t et : TypeId} (hop : o.op = .call { callee := .builtin .delete, args := #[m, x], argTypes := #[t, kt] }) (ht : P.underlying t = some (.map kt et))
    (hm : a.eval m = .map (some b)) (hf : MapF kv w b f) (k : κ) (hx : a.eval x = kv k)
    (hK : ∀ w', MapF kv w' b (fun y => if y = k then none else f y) → w.grownBy w' (some b) → K (a.put o.dst (.tuple #[])) w') : o.wp P a w K Q := by
  obtain ⟨w', hr, h1, h2⟩ := hf.run_del H ht k o.type
  unfold Oper.wp
  simp only [execOp, hop, resolve, invoke, builtin, Sem.run_bind, Sem.run_pure, Result.andThen_ok, List.map_toArray, List.map_cons, List.map_nil, hm, hx, hr]
  exact hK _ h1 h2
end
end Go.Proofs.YtejljmikammcdaaGreatDoor
