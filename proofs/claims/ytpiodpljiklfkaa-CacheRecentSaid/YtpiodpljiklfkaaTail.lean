/-
  Lists of one's own of which the front may have been cut off: reads, cuts, appends.
-/
import Derived.Test.YtpiodpljiklfkaaGen
import Derived.ArgAppend
namespace Go.Proofs.Ytpiodpljiklfkaa
open Go.RowKit

/-- A list of one's own of which the front may have been cut off. -/
structure Tl (w : World) (B e : Nat) (a : Option Addr) (n c : Nat) (xs : List Value) : Prop where
  len : xs.length = n
  le : n ≤ c
  max : c ≤ maxLen
  nil : a = none → c = 0
  at_ : 0 < c → ∃ (g o : Nat) (cur : Array Value), a = some ⟨g, o, none⟩ ∧ B ≤ g ∧ w.heap[g]? = some (.cells cur e (0, 0)) ∧ cur.size = o + c ∧ (cur.toList.drop o).take n = xs
theorem Tl.empty (w : World) (B e : Nat) : Tl w B e none 0 0 [] := ⟨rfl, Nat.le_refl _, Nat.zero_le _, fun _ => rfl, fun h => absurd h (Nat.lt_irrefl _)⟩
theorem Tl.row {w : World} {B e n c : Nat} {a : Option Addr} {xs : List Value} (h : Tl w B e a n c xs) : Row w a n c 1 xs := by
  refine ⟨by rw [h.len, Nat.mul_one], h.le, h.max, h.nil, fun p hp => ?_, fun p hp j u hj => ?_⟩
  · by_cases hc : c = 0
    · exact .inl hc
    · obtain ⟨g, o, cur, ha, -⟩ := h.at_ (by omega)
      rw [hp] at ha
      exact .inr ⟨g, o, by simpa using ha⟩
  · have hjn := (List.getElem?_eq_some_iff.1 hj).1
    have hl := h.len
    have hle := h.le
    obtain ⟨g, o, cur, ha, -, hg, hs, hx⟩ := h.at_ (by omega)
    rw [hp] at ha
    obtain rfl : p = ⟨g, o, none⟩ := by simpa using ha
    rw [Addr.add_lit, cell_of_row w g (o + j) cur e (0, 0) hg]
    rw [← hx, List.getElem?_take, if_pos (by omega), List.getElem?_drop] at hj
    simpa using hj
theorem Tl.keep {w w' : World} {B e n c : Nat} {a : Option Addr} {xs : List Value} (h : Tl w B e a n c xs) (hk : ∀ (g : Nat) (cur : Array Value), B ≤ g → w.heap[g]? = some (.cells cur e (0, 0)) → w'.heap[g]? = some (.cells cur e (0, 0))) : Tl w' B e a n c xs :=
  ⟨h.len, h.le, h.max, h.nil, fun hc => by
    obtain ⟨g, o, cur, ha, hB, hg, hs, hx⟩ := h.at_ hc
    exact ⟨g, o, cur, ha, hB, hk g cur hB hg, hs, hx⟩⟩
theorem Tl.ext {w w' : World} {B e n c : Nat} {a : Option Addr} {xs : List Value} (h : Tl w B e a n c xs) (hx : Ext w w') : Tl w' B e a n c xs := h.keep fun _ _ _ hg => hx.heap' hg
theorem Tl.kept {w w' : World} {B e n c k : Nat} {a : Option Addr} {xs : List Value} (h : Tl w B e a n c xs) (hg : w.grownBy w' (some k)) (hk : k < B) : Tl w' B e a n c xs :=
  h.keep fun g _ hB hh => (hg.block g (Array.getElem?_eq_some_iff.1 hh).1 (fun e => by cases e; omega)).trans hh
/-- An append to a list of another type leaves it alone. -/
theorem Tl.appo {w w' : World} {B e n c B' e' s' n' c' : Nat} {a a' : Option Addr} {xs ys : List Value} (h : Tl w B e a n c xs) (h' : w.ownsRow B' e' s' (.slice a' n' c') n' ys) (hg : w.grownBy w' (blockOf a')) (ht : e ≠ e') : Tl w' B e a n c xs :=
  h.keep fun g _ _ hh => (hg.block g (Array.getElem?_eq_some_iff.1 hh).1 (own_apart h' hh ht)).trans hh
theorem Tl.drop {w : World} {B e n c : Nat} {a : Option Addr} {xs : List Value} (h : Tl w B e a n c xs) {l : Nat} (hl : l ≤ n) : Tl w B e (subA a l c 1) (n - l) (c - l) (xs.drop l) := by
  refine ⟨by rw [List.length_drop, h.len], by have := h.le; omega, by have := h.max; omega, fun ha => ?_, fun hc => ?_⟩
  · unfold subA at ha
    split at ha
    · omega
    · rw [Option.map_eq_none_iff] at ha
      have := h.nil ha
      omega
  · obtain ⟨g, o, cur, ha, hB, hg, hs, hx⟩ := h.at_ (by omega)
    refine ⟨g, o + l, cur, ?_, hB, hg, by omega, ?_⟩
    · unfold subA
      rw [if_neg (by omega), ha, Option.map_some, Nat.mul_one, Addr.add_lit]
    · rw [← hx, List.drop_take, List.drop_drop]
/-- What an append to a list may change: its own block. -/
def OfType (w : World) (B e : Nat) (r : Option Nat) : Prop := ∀ k, r = some k → B ≤ k ∧ ∃ cur, w.heap[k]? = some (.cells cur e (0, 0))
theorem Tl.of_own {w : World} {B B' e n : Nat} {v : Value} {xs : List Value} (h : w.ownsRow B e 1 v n xs) (hB : B' ≤ B) (hn : 0 < n) : ∃ a' c', v = .slice a' n c' ∧ Tl w B' e a' n c' xs := by
  obtain ⟨hl, hh⟩ := h
  rw [Nat.mul_one] at hl
  rcases hh with ⟨-, h0⟩ | ⟨g, cap, cur, rfl, hb, hg, hle, hm, hs, ht⟩
  · omega
  · refine ⟨_, cap, rfl, hl, hle, hm, (fun h => by cases h), fun _ => ⟨g, 0, cur, rfl, Nat.le_trans hB hb, hg, by rw [hs]; omega, ?_⟩⟩
    rw [Nat.mul_one] at ht
    rw [List.drop_zero]
    exact ht

section
variable {P : Program} {w : World}
theorem run_app_tl {t e b : Nat} {z : Value} (E : Elem P t e 1 b z) (ty : TypeId) {B : Nat} {a : Option Addr} {n c : Nat} {xs : List Value} (h : Tl w B e a n c xs)
    {xa : Option Addr} {m xc : Nat} {news : List Value} (hrow : Row w xa m xc 1 news) (h1 : ∀ u ∈ news, u.oneCell' = true) (hm0 : 0 < m)
    (hb : (n + m) * b ≤ 140737488355328) (hm : n + m ≤ maxLen) (hB : B ≤ w.heap.size) :
    ∃ a' c' w', (Builtin.append_ #[t, t] ty #[.slice a n c, .slice xa m xc]).run P w = .ok (.slice a' (n + m) c') w' ∧ Tl w' B e a' (n + m) c' (xs ++ news) ∧
      ∃ r, w.grownBy w' r ∧ OfType w B e r := by
  obtain ⟨i, hi, hz0, hz1, hz2⟩ := info_parts E.info
  have hnl : news.length = m := by rw [hrow.len, Nat.mul_one]
  cases hxa : xa with
  | none => have h2 := hrow.nil hxa; have h3 := hrow.le; omega
  | some p =>
    subst hxa
    by_cases hroom : n + m ≤ c
    · obtain ⟨g, o, cur, rfl, hBg, hg, hs, hx⟩ := h.at_ (by omega)
      have hfc := run_firstCells_some (P := P) w i.size m p m xc news (by rw [hz1, Nat.mul_one]; exact hnl) (hrow.cell p rfl)
      have hst := run_storeCells_at P g (o + n * i.size) e news 0 cur w hg (by rw [hz1]; simp; omega) h1
      simp only [Nat.add_zero] at hst
      have hr : (Builtin.append_ #[t, t] ty #[.slice (some ⟨g, o, none⟩) n c, .slice (some p) m xc]).run P w = .ok (.slice (some ⟨g, o, none⟩) (n + m) c) (w.setRow g (cur.toList.take (o + n * i.size) ++ news ++ cur.toList.drop (o + n * i.size + news.length)).toArray) := by
        simp [Builtin.append_, run_underlying E.und, sizeOf, typeInfo, hi, Builtin.lenOf, hroom, hfc, Addr.add_lit, hst]
      refine ⟨_, _, _, hr, ⟨by rw [List.length_append, h.len, hnl], hroom, h.max, (fun h => by cases h), fun _ => ⟨g, o, _, rfl, hBg, setRow_heap w g cur _ e _ hg, ?_, ?_⟩⟩, some g, grown_setRow w g _, fun k hk => ?_⟩
      · rw [hz1]; simp; omega
      · rw [hz1, Nat.mul_one]
        have hcl : cur.toList.length = o + c := by simpa using hs
        simp only
        rw [List.append_assoc, List.drop_append, List.length_take, hcl, Nat.min_eq_left (by omega), show o - (o + n) = 0 by omega, List.drop_zero, List.drop_take, show o + n - o = n by omega, hx]
        rw [← List.append_assoc, List.take_append_of_le_length (by rw [List.length_append, h.len, hnl]; exact Nat.le_refl _)]
        exact List.take_of_length_le (by rw [List.length_append, h.len, hnl]; exact Nat.le_refl _)
      · cases hk
        exact ⟨hBg, _, hg⟩
    · cases a with
      | none =>
        have h2 := h.nil rfl
        have h3 := h.le
        obtain rfl : c = 0 := h2
        obtain rfl : n = 0 := by omega
        obtain rfl : xs = [] := List.eq_nil_of_length_eq_zero h.len
        obtain ⟨v', w', hr, r1, r2, -⟩ := run_append_own (P := P) w w.heap.size t ty e i z 1 b E.und hi hz0 hz1 hz2 E.zs E.pos (.slice none 0 0) 0 [] (World.ownsRow_nil w _ e 1) p m xc news hrow.len (hrow.cell p rfl) h1 hm hb (Nat.le_refl _)
        obtain ⟨a', c', rfl, hT⟩ := Tl.of_own r1 hB (by omega)
        exact ⟨a', c', w', hr, hT, none, r2, fun k hk => by cases hk⟩
      | some q =>
        obtain ⟨v', w', hr, r1, r2⟩ := run_append_arg_grows (P := P) w t ty e i z 1 b E.und hi hz0 hz1 hz2 E.zs E.pos q n c xs h.row.len (h.row.cell q rfl) p m xc news hrow.len (hrow.cell p rfl) (by omega) hm hb
        obtain ⟨a', c', rfl, hT⟩ := Tl.of_own r1 hB (by omega)
        exact ⟨a', c', w', hr, hT, none, r2, fun k hk => by cases hk⟩
theorem owp_app_tl {o : Oper} {f : Act} {K : Act → World → Prop} {Q : Exit → Act → World → Prop} (sO xO : Operand) {t : TypeId}
    (ho : o.op = .call { callee := .builtin .append, args := #[sO, xO], argTypes := #[t, t] })
    {e b : Nat} {z : Value} (E : Elem P t e 1 b z) {B : Nat} {a : Option Addr} {n c : Nat} {xs : List Value} (hs : f.eval sO = .slice a n c) (hT : Tl w B e a n c xs)
    {xa : Option Addr} {m xc : Nat} {news : List Value} (hx : f.eval xO = .slice xa m xc) (hrow : Row w xa m xc 1 news) (h1 : ∀ u ∈ news, u.oneCell' = true) (hm0 : 0 < m)
    (hb : (n + m) * b ≤ 140737488355328) (hm : n + m ≤ maxLen) (hB : B ≤ w.heap.size)
    (h : ∀ a' c' w' r, Tl w' B e a' (n + m) c' (xs ++ news) → w.grownBy w' r → OfType w B e r → K (f.put o.dst (.slice a' (n + m) c')) w') : o.wp P f w K Q := by
  obtain ⟨a', c', w', hr, h2, r, h3, h4⟩ := run_app_tl E o.type hT hrow h1 hm0 hb hm hB
  unfold Oper.wp execOp
  simp only [ho, resolve, invoke, builtin, Sem.run_bind, Sem.run_pure, Result.andThen_ok, List.map_toArray, List.map_cons, List.map_nil, hs, hx, hr]
  exact h a' c' w' r h2 h3 h4
theorem owp_sl_tl {o : Oper} {f : Act} {K : Act → World → Prop} {Q : Exit → Act → World → Prop} (xO lO : Operand) {t : TypeId}
    (ho : o.op = .slice t xO (some lO) none none) {e b : Nat} {z : Value} (E : Elem P t e 1 b z) {B : Nat} {a : Option Addr} {n c : Nat} {xs : List Value} (hx : f.eval xO = .slice a n c) (hT : Tl w B e a n c xs)
    (l : Nat) {kl : IntKind} {L : Int} (hl : f.eval lO = .int kl L) (hL : L = (l : Int)) (hlh : l ≤ n)
    (hk : ∀ a', Tl w B e a' (n - l) (c - l) (xs.drop l) → K (f.put o.dst (.slice a' (n - l) (c - l))) w) : o.wp P f w K Q := by
  subst hL
  have hr := hT.row
  unfold Oper.wp
  simp [execOp, ho, hx, hl, Instr.sliceAt, run_underlying E.und, run_sl_lo E a n c kl l hlh, Result.andThen]
  exact hk _ (hT.drop hlh)
/-- Rows of another type stay. -/
theorem own_typed {w' : World} {B B' e e' s n c : Nat} {a : Option Addr} {xs : List Value} {r : Option Nat} (h : w.ownsRow B e s (.slice a n c) n xs) (hg : w.grownBy w' r) (ho : OfType w B' e' r) (ht : e ≠ e') : w'.ownsRow B e s (.slice a n c) n xs := by
  cases r with
  | none => exact own_ext h (Ext.of_grown hg)
  | some k =>
    obtain ⟨-, cur, hc⟩ := ho k rfl
    exact own_other h hg (fun e => own_apart h hc (Ne.symm ht) e.symm)
end
end Go.Proofs.Ytpiodpljiklfkaa
