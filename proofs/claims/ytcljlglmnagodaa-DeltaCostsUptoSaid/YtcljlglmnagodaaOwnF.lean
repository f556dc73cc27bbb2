/-
  A slice that is owned, or is full (as '[]byte("..")' of a constant is): what an append to it gives is owned.
-/
import Derived.Test.YtcljlglmnagodaaBase
import Derived.ArgAppend
import Derived.Lib.SlBytesConst
namespace Go.Proofs.Ytcljlglmnagodaa
open Go.RowKit

def OwnF (w : World) (B e s : Nat) (a : Option Addr) (n c : Nat) (xs : List Value) : Prop := w.ownsRow B e s (.slice a n c) n xs ∨ (n = c ∧ Row w a n c s xs)

theorem OwnF.ext {w w' : World} {B e s n c : Nat} {a : Option Addr} {xs : List Value} (h : OwnF w B e s a n c xs) (hx : Ext w w') : OwnF w' B e s a n c xs := by
  rcases h with h | ⟨h1, h2⟩
  · exact .inl (own_ext h hx)
  · exact .inr ⟨h1, h2.ext hx⟩
theorem OwnF.row {w : World} {B e s n c : Nat} {a : Option Addr} {xs : List Value} (h : OwnF w B e s a n c xs) : Row w a n c s xs := by
  rcases h with h | ⟨_, h2⟩
  · exact Row.of_own h
  · exact h2

theorem Row.newF (w : World) (cs : Array Value) (e n s : Nat) (fr : Nat × Nat) (h : cs.size = n * s) (hm : n ≤ maxLen) : Row (w.alloc (.cells cs e fr)) (some ⟨w.heap.size, 0, none⟩) n n s cs.toList :=
  ⟨by simpa using h, Nat.le_refl _, hm, (fun h => nomatch h), (fun p hp => .inr ⟨_, _, (Option.some.inj hp).symm⟩), fun p hp j u hj => by
    cases hp
    rw [Addr.add_lit, Nat.zero_add, cell_of_row _ _ _ _ _ _ (heap_alloc_new w _)]
    simpa using hj⟩

section
variable {P : Program} {w : World}
theorem wpList_appF {ops : Array Oper} {rest : List Oper} {o : Oper} {f : Act} {Q : Exit → Act → World → Prop} (hgd : o.guard = none) (sO xO : Operand) {t : TypeId}
    (ho : o.op = .call { callee := .builtin .append, args := #[sO, xO], argTypes := #[t, t] })
    {e s b : Nat} {z : Value} (E : Elem P t e s b z) {B : Nat} {a : Option Addr} {n c : Nat} {xs : List Value} (hs : f.eval sO = .slice a n c) (hown : OwnF w B e s a n c xs)
    {xa : Option Addr} {m xc : Nat} {news : List Value} (hx : f.eval xO = .slice xa m xc) (hrow : Row w xa m xc s news) (h1 : ∀ u ∈ news, u.oneCell' = true) (hm0 : 0 < m)
    (hb : (n + m) * b ≤ 140737488355328) (hm : n + m ≤ maxLen) (hB : B ≤ w.heap.size)
    (h : ∀ a' c' w', w'.ownsRow B e s (.slice a' (n + m) c') (n + m) (xs ++ news) → Below B w w' → wpList P ops Q rest (f.put o.dst (.slice a' (n + m) c')) w') : wpList P ops Q (o :: rest) f w := by
  rcases hown with hown | ⟨hnc, hr⟩
  · exact wpList_app hgd sO xO ho E hs hown hx hrow h1 hb hm hB fun a' c' w' h2 h3 => h a' c' w' h2 (below_app (Below.refl _ _) hown h3 hB)
  · obtain ⟨i, hi, hz0, hz1, hz2⟩ := info_parts E.info
    cases hxa : xa with
    | none => have := hrow.nil hxa; have := hrow.le; omega
    | some p =>
      subst hxa
      refine wpList_append_grows w hgd sO xO t ho e i z s b E.und hi hz0 hz1 hz2 E.zs E.pos a n c xs hs (fun ha => ?_) hr.len (fun q hq => hr.cell q hq) p m xc news hx hrow.len (hrow.cell p rfl) h1 (by omega) hm hb ?_
      · have := hr.nil ha; omega
      · intro v' w' ho' hg'
        obtain ⟨a', c', rfl⟩ := own_shape ho'
        exact h a' c' w' (own_base ho' hB) ((Ext.of_grown hg').mono hB)
/-- A block of another element type is not the slice's. -/
theorem own_apart {B e s n c k : Nat} {a : Option Addr} {xs : List Value} {cs : Array Value} {t : TypeId} {fr : Nat × Nat} (h : w.ownsRow B e s (.slice a n c) n xs) (hk : w.heap[k]? = some (.cells cs t fr)) (ht : t ≠ e) : some k ≠ blockOf a := by
  rcases h.2 with ⟨hv, _⟩ | ⟨g, cap, cur, hv, hB, hg, _⟩
  · simp only [Value.slice.injEq] at hv
    rw [hv.1]
    exact fun h => nomatch h
  · simp only [Value.slice.injEq] at hv
    rw [hv.1]
    intro h
    simp only [blockOf, Option.some.injEq] at h
    rw [h, hg] at hk
    simp only [Option.some.injEq, Obj.cells.injEq] at hk
    exact ht hk.2.1.symm
/-- Blocks of other element types stand as they stood. -/
def KeepT (e : TypeId) (w w' : World) : Prop := ∀ (k : Nat) (cs : Array Value) (t : TypeId) (fr : Nat × Nat), t ≠ e → w.heap[k]? = some (Obj.cells cs t fr) → w'.heap[k]? = some (Obj.cells cs t fr)
theorem KeepT.of_ext {e : TypeId} {w w' : World} (h : Ext w w') : KeepT e w w' := fun _ _ _ _ _ hk => h.heap' hk
theorem KeepT.trans {e : TypeId} {a b c : World} (h : KeepT e a b) (h2 : KeepT e b c) : KeepT e a c := fun k cs t fr ht hk => h2 k cs t fr ht (h k cs t fr ht hk)
theorem wpList_appK {ops : Array Oper} {rest : List Oper} {o : Oper} {f : Act} {Q : Exit → Act → World → Prop} (hgd : o.guard = none) (sO xO : Operand) {t : TypeId}
    (ho : o.op = .call { callee := .builtin .append, args := #[sO, xO], argTypes := #[t, t] })
    {e s b : Nat} {z : Value} (E : Elem P t e s b z) {B : Nat} {a : Option Addr} {n c : Nat} {xs : List Value} (hs : f.eval sO = .slice a n c) (hown : OwnF w B e s a n c xs)
    {xa : Option Addr} {m xc : Nat} {news : List Value} (hx : f.eval xO = .slice xa m xc) (hrow : Row w xa m xc s news) (h1 : ∀ u ∈ news, u.oneCell' = true) (hm0 : 0 < m)
    (hb : (n + m) * b ≤ 140737488355328) (hm : n + m ≤ maxLen) (hB : B ≤ w.heap.size)
    (h : ∀ a' c' w', w'.ownsRow B e s (.slice a' (n + m) c') (n + m) (xs ++ news) → Below B w w' → KeepT e w w' → wpList P ops Q rest (f.put o.dst (.slice a' (n + m) c')) w') : wpList P ops Q (o :: rest) f w := by
  rcases hown with hown | ⟨hnc, hr⟩
  · exact wpList_app hgd sO xO ho E hs hown hx hrow h1 hb hm hB fun a' c' w' h2 h3 => h a' c' w' h2 (below_app (Below.refl _ _) hown h3 hB)
      (fun k cs t fr ht hk => (h3.block k (Array.getElem?_eq_some_iff.1 hk).1 (own_apart hown hk ht)).trans hk)
  · obtain ⟨i, hi, hz0, hz1, hz2⟩ := info_parts E.info
    cases hxa : xa with
    | none => have := hrow.nil hxa; have := hrow.le; omega
    | some p =>
      subst hxa
      refine wpList_append_grows w hgd sO xO t ho e i z s b E.und hi hz0 hz1 hz2 E.zs E.pos a n c xs hs (fun ha => ?_) hr.len (fun q hq => hr.cell q hq) p m xc news hx hrow.len (hrow.cell p rfl) h1 (by omega) hm hb ?_
      · have := hr.nil ha; omega
      · intro v' w' ho' hg'
        obtain ⟨a', c', rfl⟩ := own_shape ho'
        exact h a' c' w' (own_base ho' hB) ((Ext.of_grown hg').mono hB) (KeepT.of_ext (Ext.of_grown hg'))
end
end Go.Proofs.Ytcljlglmnagodaa
