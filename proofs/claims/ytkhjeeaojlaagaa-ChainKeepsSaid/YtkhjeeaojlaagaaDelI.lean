/-
  The map of places of Make: keys of four bytes; where they stand in the base.
-/
import Derived.Test.YtkhjeeaojlaagaaDelH
import Derived.WideKeyPair
import Derived.Laws.Cover3
namespace Go.Proofs.Ytkhjeeaojlaagaa
open Go.RowKit Go.WideMaps

/-- Four bytes. -/
def K4 := { l : List UInt8 // l.length = 4 }
def kv4 (k : K4) : Value := .agg (k.1.map u8).toArray
theorem u8_inj {x y : UInt8} (h : u8 x = u8 y) : x = y := by
  simp only [u8, Value.int.injEq, true_and] at h
  exact UInt8.toNat_inj.1 (by omega)
theorem map_u8_inj : ∀ {l m : List UInt8}, l.map u8 = m.map u8 → l = m
  | [], [], _ => rfl
  | [], _ :: _, h => by simp at h
  | _ :: _, [], h => by simp at h
  | x :: l, y :: m, h => by
    simp only [List.map_cons, List.cons.injEq] at h
    rw [u8_inj h.1, map_u8_inj h.2]
theorem u8_wf (x : UInt8) : (Lit.int .u8 (x.toNat : Int)).wf = true := by
  have := x.toNat_lt
  have h1 : IntKind.min .u8 = 0 := rfl
  have h2 : IntKind.max .u8 = 255 := rfl
  simp [Lit.wf, h1, h2]
  omega
theorem Try.arr4 : ArrKey Try.prog 69 5 4 := ⟨Try.underlying69, by kernel_rfl, by kernel_rfl, by kernel_rfl⟩
theorem keyOf_four {P : Program} {k e : TypeId} {q : IntKind} (A : ArrKey P k e 4) (he : P.underlying e = some (.int q)) (hsz : ∃ m, P.types.size = m + 1) {a b c d : Int} (wa : (Lit.int q a).wf = true) (wb : (Lit.int q b).wf = true) (wc : (Lit.int q c).wf = true) (wd : (Lit.int q d).wf = true) :
    keyOf P k (.agg #[.int q a, .int q b, .int q c, .int q d]) = some (.string (keyBytes [.int q a, .int q b, .int q c, .int q d])) := by
  have hkt := A.keyType hsz
  obtain ⟨m, hm⟩ := hsz
  unfold keyOf
  simp only [A.hu]
  rw [if_pos (by simp [hkt, Value.formed, A.hu, A.size]), hm]
  unfold Program.keyLits
  simp only [A.hu, Value.cells]
  rw [if_pos (by rw [A.size]; rfl), show List.range 4 = [0, 1, 2, 3] from rfl, List.mapM_cons, List.mapM_cons, List.mapM_cons, List.mapM_cons, List.mapM_nil]
  simp [A.one, Program.keyLits, he, wa, wb, wc, wd]
theorem Try.size_pos : ∃ m, Try.prog.types.size = m + 1 := ⟨Try.prog.types.size - 1, by
  have : 0 < Try.prog.types.size := of_decide_eq_true (by kernel_rfl)
  omega⟩
theorem Try.kv4 : KV Try.prog 69 kv4 where
  law := Try.arr4.law
  lit k := by
    obtain ⟨l, hl⟩ := k
    match l, hl with
    | [a, b, c, d], _ => exact ⟨_, keyOf_four Try.arr4 Try.underlying5 Try.size_pos (u8_wf a) (u8_wf b) (u8_wf c) (u8_wf d)⟩
  inj a b h := by
    simp only [Proofs.Ytkhjeeaojlaagaa.kv4, Value.agg.injEq] at h
    exact Subtype.ext (map_u8_inj (by simpa using congrArg Array.toList h))

/-! ### Where four bytes stand -/
def posL (b : List UInt8) (j : Nat) (k : List UInt8) : List Nat := (List.range j).filter fun i => decide ((b.drop i).take 4 = k)
theorem posL_succ (b : List UInt8) (j : Nat) (k : List UInt8) : posL b (j + 1) k = if (b.drop j).take 4 = k then posL b j k ++ [j] else posL b j k := by
  unfold posL
  rw [List.range_succ, List.filter_append]
  by_cases h : (b.drop j).take 4 = k
  · simp [h]
  · simp [h]
theorem posL_mem {b : List UInt8} {j : Nat} {k : List UInt8} {i : Nat} (h : i ∈ posL b j k) : i < j ∧ (b.drop i).take 4 = k := by
  unfold posL at h
  rw [List.mem_filter, List.mem_range] at h
  exact ⟨h.1, by simpa using h.2⟩
theorem posL_more {b : List UInt8} {k : List UInt8} (hk : k.length = 4) : ∀ (m j : Nat), b.length < j + 4 → posL b (j + m) k = posL b j k
  | 0, _, _ => rfl
  | m + 1, j, h => by
    rw [← Nat.add_assoc, posL_succ, if_neg, posL_more hk m j h]
    intro e
    have := congrArg List.length e
    rw [List.length_take, List.length_drop] at this
    omega
theorem candF_range (b T : List UInt8) : ∀ (n s : Nat), candF b T n s = (List.range' s n).filter (fun i => decide (4 ≤ cmn (b.drop i) T))
  | 0, _ => rfl
  | n + 1, s => by
    unfold candF
    rw [List.range'_succ, List.filter_cons, candF_range b T n (s + 1)]
    simp only [decide_eq_true_eq]
theorem cand_pos {b T : List UInt8} {k : List UInt8} (hT : T.take 4 = k) (hk : k.length = 4) : candF b T b.length 0 = posL b b.length k := by
  have hT4 : 4 ≤ T.length := by
    have := congrArg List.length hT
    rw [List.length_take] at this; omega
  rw [candF_range, posL, List.range_eq_range']
  apply List.filter_congr
  intro i _
  rw [Bool.eq_iff_iff, decide_eq_true_eq, decide_eq_true_eq, cmn_ge]
  constructor
  · rintro ⟨-, -, h⟩; rw [h, hT]
  · intro h
    have h1 := congrArg List.length h
    rw [List.length_take, hk] at h1
    exact ⟨by omega, hT4, by rw [h, hT]⟩
def posV (l : List Nat) : List Value := l.map fun (i : Nat) => Value.int .i64 i
theorem posV_length (l : List Nat) : (posV l).length = l.length := List.length_map ..

/-- The map at block mb: each key's places among the first j offsets, in rows from block B on. -/
structure Places (w : World) (B mb : Nat) (b : List UInt8) (j : Nat) (f : K4 → Option Value) : Prop where
  map : MapF kv4 w mb f
  row : ∀ k, ∃ a n c, (f k).getD (.slice none 0 0) = .slice a n c ∧ w.ownsRow B 3 1 (.slice a n c) n (posV (posL b j k.1)) ∧ (n = 0 → a = none)
theorem Places.nil (w : World) (B : Nat) (b : List UInt8) : Places (w.alloc (.map #[] 0)) B w.heap.size b 0 (fun _ => none) :=
  ⟨MapF.new w, fun _ => ⟨none, 0, 0, rfl, own_nil _ _ _ _, fun _ => rfl⟩⟩
theorem Places.ext {w w' : World} {B mb j : Nat} {b : List UInt8} {f : K4 → Option Value} (h : Places w B mb b j f) (hx : Ext w w') : Places w' B mb b j f :=
  ⟨h.map.ext hx, fun k => by
    obtain ⟨a, n, c, h1, h2, h3⟩ := h.row k
    exact ⟨a, n, c, h1, own_ext h2 hx, h3⟩⟩
/-- Rows of unlike keys lie apart. -/
theorem pos_apart {w : World} {B n n' c c' j : Nat} {a a' : Option Addr} {b : List UInt8} {k k' : List UInt8} (h : w.ownsRow B 3 1 (.slice a n c) n (posV (posL b j k))) (h' : w.ownsRow B 3 1 (.slice a' n' c') n' (posV (posL b j k')))
    (h0 : n = 0 → a = none) (h0' : n' = 0 → a' = none) (hk : k ≠ k') {g : Nat} (hg : blockOf a = some g) : blockOf a' ≠ some g := by
  intro hg'
  have hn : 0 < n := Nat.pos_of_ne_zero fun e => by rw [h0 e] at hg; cases hg
  have hn' : 0 < n' := Nat.pos_of_ne_zero fun e => by rw [h0' e] at hg'; cases hg'
  obtain ⟨g1, cur, rfl, -, hc, -, hx⟩ := own_some h hn
  obtain ⟨g2, cur', rfl, -, hc', -, hx'⟩ := own_some h' hn'
  simp only [blockOf, Option.some.injEq] at hg hg'
  subst hg; subst hg'
  rw [hc] at hc'
  simp only [Option.some.injEq, Obj.cells.injEq, and_true] at hc'
  subst hc'
  have e1 := hx 0 (by omega)
  have e2 := hx' 0 (by omega)
  rw [e1] at e2
  have l1 := h.1
  have l2 := h'.1
  rw [posV_length, Nat.mul_one] at l1 l2
  obtain ⟨i, hi⟩ : ∃ i, (posL b j k)[0]? = some i := ⟨_, List.getElem?_eq_getElem (by omega)⟩
  obtain ⟨i', hi'⟩ : ∃ i, (posL b j k')[0]? = some i := ⟨_, List.getElem?_eq_getElem (by omega)⟩
  unfold posV at e2
  rw [List.getElem?_map, List.getElem?_map, hi, hi'] at e2
  simp only [Option.map_some, Option.some.injEq, Value.int.injEq, true_and] at e2
  obtain rfl : i = i' := by omega
  have p1 := (posL_mem (List.mem_of_getElem? hi)).2
  have p2 := (posL_mem (List.mem_of_getElem? hi')).2
  exact hk (p1.symm.trans p2)
open Classical in
/-- One more place. -/
theorem Places.step {w0 w1 w2 w3 : World} {B mb j n c n' c' : Nat} {a a' : Option Addr} {b : List UInt8} {f : K4 → Option Value} {k : K4} (h : Places w0 B mb b j f) (hmb : mb < B) (hj : (b.drop j).take 4 = k.1)
    (hv : (f k).getD (.slice none 0 0) = .slice a n c) (hg1 : w0.grownBy w1 (some mb)) (hg2 : w1.grownBy w2 (blockOf a))
    (ho : w2.ownsRow B 3 1 (.slice a' n' c') n' (posV (posL b j k.1) ++ [.int .i64 (j : Int)])) (hn' : 0 < n') (hg3 : w2.grownBy w3 (some mb))
    (hm : MapF kv4 w3 mb (fun x => if x = k then some (.slice a' n' c') else (if x = k then some ((f k).getD (.slice none 0 0)) else f x))) :
    Places w3 B mb b (j + 1) (fun x => if x = k then some (.slice a' n' c') else f x) where
  map := hm.congr fun x => by by_cases hx : x = k <;> simp [hx]
  row x := by
    by_cases hx : x = k
    · subst hx
      refine ⟨a', n', c', by simp, ?_, fun e => by omega⟩
      rw [posL_succ, if_pos hj]
      unfold posV at ho ⊢
      rw [List.map_append]
      exact own_kept ho hg3 hmb
    · obtain ⟨a1, n1, c1, h1, h2, h3⟩ := h.row x
      refine ⟨a1, n1, c1, by simp only [hx, if_false]; exact h1, ?_, h3⟩
      rw [posL_succ, if_neg (fun e => hx (Subtype.ext (by rw [← e, hj])))]
      obtain ⟨a2, n2, c2, g1, g2, g3⟩ := h.row k
      rw [hv] at g1
      simp only [Value.slice.injEq] at g1
      obtain ⟨rfl, rfl, rfl⟩ := g1
      have e1 := own_kept h2 hg1 hmb
      have e2 : w2.ownsRow B 3 1 (.slice a1 n1 c1) n1 (posV (posL b j x.1)) := by
        cases hb : blockOf a with
        | none => rw [hb] at hg2; exact own_ext e1 (Ext.of_grown hg2)
        | some g =>
          rw [hb] at hg2
          exact own_other e1 hg2 (pos_apart g2 h2 g3 h3 (fun e => hx (Subtype.ext e.symm)) hb)
      exact own_kept e2 hg3 hmb
/-- Four bytes at the front, in memory. -/
theorem Bytes.four {w : World} {a : Option Addr} {n c : Nat} {l : List UInt8} (h : Bytes w a n c l) (hn : 4 ≤ n) : ∃ b o, a = some ⟨b, o, none⟩ ∧ w.rangeAt b o ((l.take 4).map u8) := by
  have hle := h.2.le
  cases a with
  | none => have := h.2.nil rfl; omega
  | some p =>
    rcases h.2.at_ p rfl with h0 | ⟨b, o, rfl⟩
    · omega
    refine ⟨b, o, rfl, fun j v hj => ?_⟩
    have hj4 : j < 4 := by
      have := (List.getElem?_eq_some_iff.1 hj).1
      rw [List.length_map, List.length_take] at this; omega
    have := h.2.cell _ rfl j v (by rw [← hj, List.getElem?_map, List.getElem?_map, List.getElem?_take, if_pos hj4])
    rw [Addr.add_lit] at this
    exact this
/-- [n]T(s): the array's address. -/
theorem owp_arr {P : Program} {w : World} {o : Oper} {f : Act} {K : Act → World → Prop} {Q : Exit → Act → World → Prop} (xO : Operand) {arr e : TypeId} {m : Nat} (ho : o.op = .sliceToArrayPointer arr xO) (hu : P.underlying arr = some (.array m e))
    {a : Option Addr} {n c : Nat} (hx : f.eval xO = .slice a n c) (hn : m ≤ n) (h : K (f.put o.dst (.pointer a)) w) : o.wp P f w K Q := by
  unfold Oper.wp execOp
  simp only [ho, hx, run_arrayAt w arr e m a n c hu hn, Sem.run_bind, Sem.run_pure, Result.andThen_ok]
  exact h
end Go.Proofs.Ytkhjeeaojlaagaa
