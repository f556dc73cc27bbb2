/-
  Append to one's own list: where the list lies afterwards.
-/
import Derived.Test.YtpiodpljiklfkaaTail
namespace Go.Proofs.Ytpiodpljiklfkaa
open Go.RowKit
/-- The list stays in its block, or has moved to new memory. -/
def Moved (w : World) (a a' : Option Addr) : Prop := blockOf a' = blockOf a ∨ ∀ b, blockOf a' = some b → w.heap.size ≤ b
section
variable {P : Program} {w : World}
theorem run_app_at {t e b : Nat} {z : Value} (E : Elem P t e 1 b z) (ty : TypeId) {B : Nat} {a : Option Addr} {n c : Nat} {xs : List Value} (hown : w.ownsRow B e 1 (.slice a n c) n xs)
    {xa : Option Addr} {m xc : Nat} {news : List Value} (hrow : Row w xa m xc 1 news) (h1 : ∀ u ∈ news, u.oneCell' = true)
    (hb : (n + m) * b ≤ 140737488355328) (hm : n + m ≤ maxLen) (hB : B ≤ w.heap.size) :
    ∃ a' c' w', (Builtin.append_ #[t, t] ty #[.slice a n c, .slice xa m xc]).run P w = .ok (.slice a' (n + m) c') w' ∧
      w'.ownsRow B e 1 (.slice a' (n + m) c') (n + m) (xs ++ news) ∧ w.grownBy w' (blockOf a) ∧ Moved w a a' := by
  obtain ⟨a', c', w', hr, ho, hg⟩ := run_app E ty hown hrow h1 hb hm hB
  refine ⟨a', c', w', hr, ho, hg, ?_⟩
  obtain ⟨i, hi, hz0, hz1, hz2⟩ := info_parts E.info
  cases hxa : xa with
  | none =>
    subst hxa
    have hc0 := hrow.nil rfl
    have hle := hrow.le
    obtain rfl : m = 0 := by omega
    subst hc0
    have hr2 := run_append_owned_none (P := P) (w := w) B t ty e i 1 E.und hi _ n xs hown
    have h := hr.symm.trans hr2
    simp only [Result.ok.injEq, Value.slice.injEq] at h
    exact .inl (by rw [h.1.1])
  | some p =>
    subst hxa
    rcases hown.2 with ⟨hv, rfl⟩ | ⟨g, cap, cur, hv, hBg, hg2, hle, hmx, hs, ht⟩
    · simp only [Value.slice.injEq] at hv
      obtain ⟨rfl, -, rfl⟩ := hv
      obtain ⟨v', w2, hr2, r1, -, -⟩ := run_append_own (P := P) w w.heap.size t ty e i z 1 b E.und hi hz0 hz1 hz2 E.zs E.pos (.slice none 0 0) 0 [] (World.ownsRow_nil w _ e 1) p m xc news hrow.len (hrow.cell p rfl) h1 hm hb (Nat.le_refl _)
      have h := hr.symm.trans hr2
      simp only [Result.ok.injEq] at h
      obtain ⟨rfl, rfl⟩ := h
      exact .inr fun k hk => (own_block r1 k hk).1
    · simp only [Value.slice.injEq, true_and] at hv
      obtain ⟨rfl, rfl⟩ := hv
      rw [Nat.mul_one] at hs ht
      by_cases hroom : n + m ≤ c
      · have hnl : news.length = m := by rw [hrow.len, Nat.mul_one]
        have hfc := run_firstCells_some (P := P) w i.size m p m xc news (by rw [hz1, Nat.mul_one]; exact hnl) (hrow.cell p rfl)
        have hst := run_storeCells_at P g (0 + n * i.size) e news 0 cur w hg2 (by rw [hz1]; simp; omega) h1
        simp only [Nat.add_zero] at hst
        have hr2 : (Builtin.append_ #[t, t] ty #[.slice (some ⟨g, 0, none⟩) n c, .slice (some p) m xc]).run P w = .ok (.slice (some ⟨g, 0, none⟩) (n + m) c) (w.setRow g (cur.toList.take (0 + n * i.size) ++ news ++ cur.toList.drop (0 + n * i.size + news.length)).toArray) := by
          simp only [Nat.zero_add] at hst
          simp [Builtin.append_, run_underlying E.und, sizeOf, typeInfo, hi, Builtin.lenOf, hroom, hfc, Addr.add_lit, hst]
        have h := hr.symm.trans hr2
        simp only [Result.ok.injEq, Value.slice.injEq] at h
        exact .inl (by rw [h.1.1])
      · have hR := Row.of_own hown
        obtain ⟨v', w2, hr2, r1, r2⟩ := run_append_arg_grows (P := P) w t ty e i z 1 b E.und hi hz0 hz1 hz2 E.zs E.pos ⟨g, 0, none⟩ n c xs hR.len (hR.cell _ rfl) p m xc news hrow.len (hrow.cell p rfl) (by omega) hm hb
        have h := hr.symm.trans hr2
        simp only [Result.ok.injEq] at h
        obtain ⟨rfl, rfl⟩ := h
        exact .inr fun k hk => (own_block r1 k hk).1
theorem owp_app_at {o : Oper} {f : Act} {K : Act → World → Prop} {Q : Exit → Act → World → Prop} (sO xO : Operand) {t : TypeId}
    (ho : o.op = .call { callee := .builtin .append, args := #[sO, xO], argTypes := #[t, t] })
    {e b : Nat} {z : Value} (E : Elem P t e 1 b z) {B : Nat} {a : Option Addr} {n c : Nat} {xs : List Value} (hs : f.eval sO = .slice a n c) (hown : w.ownsRow B e 1 (.slice a n c) n xs)
    {xa : Option Addr} {m xc : Nat} {news : List Value} (hx : f.eval xO = .slice xa m xc) (hrow : Row w xa m xc 1 news) (h1 : ∀ u ∈ news, u.oneCell' = true)
    (hb : (n + m) * b ≤ 140737488355328) (hm : n + m ≤ maxLen) (hB : B ≤ w.heap.size)
    (h : ∀ a' c' w', w'.ownsRow B e 1 (.slice a' (n + m) c') (n + m) (xs ++ news) → w.grownBy w' (blockOf a) → Moved w a a' → K (f.put o.dst (.slice a' (n + m) c')) w') : o.wp P f w K Q := by
  obtain ⟨a', c', w', hr, h2, h3, h4⟩ := run_app_at E o.type hown hrow h1 hb hm hB
  unfold Oper.wp execOp
  simp only [ho, resolve, invoke, builtin, Sem.run_bind, Sem.run_pure, Result.andThen_ok, List.map_toArray, List.map_cons, List.map_nil, hs, hx, hr]
  exact h a' c' w' h2 h3 h4
end
end Go.Proofs.Ytpiodpljiklfkaa
