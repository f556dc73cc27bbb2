/-
  The vocabulary of this seat's walks: what a slice value reads as ('Row'), worlds that only grow ('Ext'), and laws of append, make, copy, conversion in these words. No program stands in it.
-/
import Derived.WalkKit
import Derived.WalkSpells
import Derived.WalkLawsBesides
import Derived.Lib.Hide
import Derived.Lib.AppendStr
import Derived.Lib.ConvBytes
import Derived.Laws.AppendOwnNone
import Derived.Laws.CopyOwn
namespace Go.Proofs.YtejljmikammcdaaGreatDoor
open Go.RowKit

/-- The later world has all blocks of the earlier one, unchanged. -/
abbrev Ext (w w' : World) : Prop := Below w.heap.size w w'

theorem Ext.trans' {a b c : World} (h : Ext a b) (k : Ext b c) : Ext a c := Below.trans h (k.mono h.size)
theorem Ext.cell' {w w' : World} (h : Ext w w') {p : Addr} {v : Value} (hp : w.cell? p = some v) : w'.cell? p = some v := by
  rw [h.cell (World.block_lt_of_cell? w p hp)]; exact hp
theorem Ext.alloc' (w : World) (o : Obj) : Ext w (w.alloc o) := (Below.refl _ _).alloc (Nat.le_refl _) o
theorem Ext.drew' (w : World) : Ext w w.drew := (Below.refl _ _).drew
theorem Ext.of_grown {w w' : World} (h : w.grownBy w' none) : Ext w w' := (Below.refl _ _).grown h (Nat.le_refl _) (by simp)
theorem Ext.heap' {w w' : World} (h : Ext w w') {k : Nat} {o : Obj} (hp : w.heap[k]? = some o) : w'.heap[k]? = some o := by
  rw [h.block k (Array.getElem?_eq_some_iff.1 hp).1]; exact hp

/-- A slice value of n elements of s cells each, at address a, of capacity c, reads as the cells xs. -/
structure Row (w : World) (a : Option Addr) (n c s : Nat) (xs : List Value) : Prop where
  len : xs.length = n * s
  le : n ≤ c
  max : c ≤ maxLen
  nil : a = none → c = 0
  at_ : ∀ p, a = some p → c = 0 ∨ ∃ b o, p = ⟨b, o, none⟩
  cell : ∀ p, a = some p → ∀ j u, xs[j]? = some u → w.cell? (p.add j) = some u

theorem Row.ext {w w' : World} {a : Option Addr} {n c s : Nat} {xs : List Value} (h : Row w a n c s xs) (hx : Ext w w') : Row w' a n c s xs :=
  ⟨h.len, h.le, h.max, h.nil, h.at_, fun p hp j u hj => hx.cell' (h.cell p hp j u hj)⟩

/-- Below a block number that bounds its own block. -/
theorem Row.below {B : Nat} {w w' : World} {a : Option Addr} {n c s : Nat} {xs : List Value} (h : Row w a n c s xs) (hx : Below B w w') (hb : ∀ p, a = some p → p.block < B) : Row w' a n c s xs :=
  ⟨h.len, h.le, h.max, h.nil, h.at_, fun p hp j u hj => by
    have hc := h.cell p hp j u hj
    have : (p.add j).block = p.block := by unfold Addr.add; split <;> rfl
    rw [hx.cell (by rw [this]; exact hb p hp)]; exact hc⟩

theorem Row.drew {w : World} {a : Option Addr} {n c s : Nat} {xs : List Value} (h : Row w a n c s xs) : Row w.drew a n c s xs := ⟨h.len, h.le, h.max, h.nil, h.at_, h.cell⟩

theorem Row.empty (w : World) (s : Nat) : Row w none 0 0 s [] := ⟨by simp, Nat.le_refl _, Nat.zero_le _, fun _ => rfl, (fun _ h => nomatch h), (fun _ h => nomatch h)⟩

/-- What is owned reads. -/
theorem Row.of_own {w : World} {B e s : Nat} {a : Option Addr} {n c : Nat} {xs : List Value} (h : w.ownsRow B e s (.slice a n c) n xs) : Row w a n c s xs := by
  obtain ⟨hl, h⟩ := h
  rcases h with ⟨hv, rfl⟩ | ⟨g, cap, cur, hv, hB, hg, hle, hm, hs, ht⟩
  · simp only [Value.slice.injEq] at hv
    obtain ⟨rfl, -, rfl⟩ := hv
    obtain rfl : xs = [] := List.eq_nil_of_length_eq_zero (by simpa using hl)
    exact Row.empty w s
  · simp only [Value.slice.injEq] at hv
    obtain ⟨rfl, -, rfl⟩ := hv
    refine ⟨hl, hle, hm, (fun h => nomatch h), (fun p hp => .inr ⟨_, _, (Option.some.inj hp).symm⟩), fun p hp j u hj => ?_⟩
    cases hp
    rw [Addr.add_lit, Nat.zero_add, cell_of_row w g j cur e (0, 0) hg]
    rw [← ht, List.getElem?_take] at hj
    split at hj
    · simpa using hj
    · cases hj

/-- A new block reads as a row. -/
theorem Row.new (w : World) (cs : Array Value) (e n s : Nat) (h : cs.size = n * s) (hm : n ≤ maxLen) : Row (w.alloc (.cells cs e)) (some ⟨w.heap.size, 0, none⟩) n n s cs.toList :=
  ⟨by simpa using h, Nat.le_refl _, hm, (fun h => nomatch h), (fun p hp => .inr ⟨_, _, (Option.some.inj hp).symm⟩), fun p hp j u hj => by
    cases hp
    rw [Addr.add_lit, Nat.zero_add, World.cell?_alloc_at _ _ _ _ rfl]
    simpa using hj⟩
/-- append(out, x): the one new element, in a block of its own. -/
theorem Row.one (w : World) (v : Value) (e : Nat) : Row (w.alloc (.cells #[v] e)) (some ⟨w.heap.size, 0, none⟩) 1 1 1 [v] :=
  Row.new w #[v] e 1 1 rfl (by decide)

/-- The operation at hand writes slot k (a quick test ahead of an arm). -/
theorem atSlot {P : Program} {ops : Array Oper} {Q : Exit → Act → World → Prop} {rest : List Oper} {a : Act} {w : World} (k : Nat) {op : Op} {ty : TypeId} {pos : String} {af : Array Edge} {gd : Option (Nat × Bool)}
    (h : wpList P ops Q (⟨some k, op, ty, pos, af, gd⟩ :: rest) a w) : wpList P ops Q (⟨some k, op, ty, pos, af, gd⟩ :: rest) a w := h

/-- The walk stops at this goal. -/
def Stop (p : Prop) : Prop := p
theorem Stop.of {p : Prop} (h : Stop p) : p := h
theorem Stop.out {p : Prop} (h : p) : Stop p := h

/-- A slice's type: its element type, the cells and bytes of one element, the zero value. -/
structure Elem (P : Program) (t e s b : Nat) (z : Value) : Prop where
  und : P.underlying t = some (.slice e)
  info : (P.info? e).map (fun i => (i.zero, i.size, i.bytes)) = some (some z, s, b)
  zs : z.cells.size = s
  pos : 0 < s

/-- The block of a slice's address. -/
def blockOf : Option Addr → Option Nat
  | some a => some a.block
  | none => none

section
variable {P : Program} {w : World}

theorem own_shape {B e s : Nat} {v : Value} {n : Nat} {xs : List Value} (h : w.ownsRow B e s v n xs) : ∃ a c, v = .slice a n c := by
  rcases h.2 with ⟨rfl, rfl⟩ | ⟨g, cap, cur, rfl, _⟩
  · exact ⟨none, 0, rfl⟩
  · exact ⟨_, _, rfl⟩

theorem own_nil (w : World) (B e s : Nat) : w.ownsRow B e s (.slice none 0 0) 0 [] := World.ownsRow_nil w B e s

theorem ownBlock_slice (a : Option Addr) (n c : Nat) : (Value.slice a n c).ownBlock = blockOf a := by cases a <;> rfl

theorem own_block {B e s n c : Nat} {a : Option Addr} {xs : List Value} (h : w.ownsRow B e s (.slice a n c) n xs) (k : Nat) (hk : blockOf a = some k) : B ≤ k ∧ k < w.heap.size :=
  h.lt k (by rw [ownBlock_slice]; exact hk)
theorem below_app {B e s n c : Nat} {a : Option Addr} {xs : List Value} {w0 w' : World} (hb : Below B w0 w) (h : w.ownsRow B e s (.slice a n c) n xs) (hg : w.grownBy w' (blockOf a)) (hB : B ≤ w.heap.size) : Below B w0 w' :=
  hb.grown hg hB (fun k hk => (own_block h k hk.symm.symm).1)

/-- append(s, x...): s owned (or nil), x read. -/
theorem run_app {t e s b : Nat} {z : Value} (E : Elem P t e s b z) (ty : TypeId) {B : Nat} {a : Option Addr} {n c : Nat} {xs : List Value} (hown : w.ownsRow B e s (.slice a n c) n xs)
    {xa : Option Addr} {m xc : Nat} {news : List Value} (hrow : Row w xa m xc s news) (h1 : ∀ u ∈ news, u.oneCell' = true)
    (hb : (n + m) * b ≤ 140737488355328) (hm : n + m ≤ maxLen) (hB : B ≤ w.heap.size) :
    ∃ a' c' w', (Builtin.append_ #[t, t] ty #[.slice a n c, .slice xa m xc]).run P w = .ok (.slice a' (n + m) c') w' ∧
      w'.ownsRow B e s (.slice a' (n + m) c') (n + m) (xs ++ news) ∧ w.grownBy w' (blockOf a) := by
  obtain ⟨i, hi, hz0, hz1, hz2⟩ := info_parts E.info
  cases hxa : xa with
  | none =>
    subst hxa
    have hc0 := hrow.nil rfl
    have hle := hrow.le
    obtain rfl : m = 0 := by omega
    obtain rfl : news = [] := List.eq_nil_of_length_eq_zero (by simpa using hrow.len)
    subst hc0
    refine ⟨a, c, w, ?_, by simpa using hown, World.grownBy.refl _ _⟩
    simpa using run_append_owned_none (P := P) (w := w) B t ty e i s E.und hi _ n xs hown
  | some p =>
    subst hxa
    obtain ⟨v', w', hr, ho, hg, _⟩ := run_append_own (P := P) w B t ty e i z s b E.und hi hz0 hz1 hz2 E.zs E.pos _ n xs hown p m xc news hrow.len (hrow.cell p rfl) h1 hm hb hB
    obtain ⟨a', c', rfl⟩ := own_shape ho
    exact ⟨a', c', w', hr, ho, by simpa [ownBlock_slice] using hg⟩

theorem wpList_app {ops : Array Oper} {rest : List Oper} {o : Oper} {f : Act} {Q : Exit → Act → World → Prop} (hgd : o.guard = none) (sO xO : Operand) {t : TypeId}
    (ho : o.op = .call { callee := .builtin .append, args := #[sO, xO], argTypes := #[t, t] })
    {e s b : Nat} {z : Value} (E : Elem P t e s b z) {B : Nat} {a : Option Addr} {n c : Nat} {xs : List Value} (hs : f.eval sO = .slice a n c) (hown : w.ownsRow B e s (.slice a n c) n xs)
    {xa : Option Addr} {m xc : Nat} {news : List Value} (hx : f.eval xO = .slice xa m xc) (hrow : Row w xa m xc s news) (h1 : ∀ u ∈ news, u.oneCell' = true)
    (hb : (n + m) * b ≤ 140737488355328) (hm : n + m ≤ maxLen) (hB : B ≤ w.heap.size)
    (h : ∀ a' c' w', w'.ownsRow B e s (.slice a' (n + m) c') (n + m) (xs ++ news) → w.grownBy w' (blockOf a) → wpList P ops Q rest (f.put o.dst (.slice a' (n + m) c')) w') : wpList P ops Q (o :: rest) f w :=
  wpList_plain hgd fun _ hK => by
    obtain ⟨a', c', w', hr, h2, h3⟩ := run_app E o.type hown hrow h1 hb hm hB
    unfold Oper.wp execOp
    simp only [ho, resolve, invoke, builtin, Sem.run_bind, Sem.run_pure, Result.andThen_ok, List.map_toArray, List.map_cons, List.map_nil, hs, hx, hr]
    exact hK _ _ (h a' c' w' h2 h3)

/-- append([]T(nil), x...): a copy in new memory. -/
theorem wpList_clone {ops : Array Oper} {rest : List Oper} {o : Oper} {f : Act} {Q : Exit → Act → World → Prop} (hgd : o.guard = none) (sO xO : Operand) {t : TypeId}
    (ho : o.op = .call { callee := .builtin .append, args := #[sO, xO], argTypes := #[t, t] })
    {e s b : Nat} {z : Value} (E : Elem P t e s b z) (hs : f.eval sO = .slice none 0 0)
    {xa : Option Addr} {m xc : Nat} {news : List Value} (hx : f.eval xO = .slice xa m xc) (hrow : Row w xa m xc s news) (h1 : ∀ u ∈ news, u.oneCell' = true)
    (hb : m * b ≤ 140737488355328)
    (h : ∀ a' c' w', w'.ownsRow w.heap.size e s (.slice a' m c') m news → Ext w w' → wpList P ops Q rest (f.put o.dst (.slice a' m c')) w') : wpList P ops Q (o :: rest) f w :=
  wpList_app hgd sO xO ho E hs (own_nil w w.heap.size e s) hx hrow h1 (by simpa using hb) (by have := hrow.le; have := hrow.max; omega) (Nat.le_refl _)
    (fun a' c' w' h2 h3 => by simpa using h a' c' w' (by simpa using h2) (Ext.of_grown h3))
end

/-- n zero elements. -/
def zeros (z : Value) (n s : Nat) : List Value := (madeCells z.cells (n * s)).toList
theorem zeros_length (z : Value) (n s : Nat) : (zeros z n s).length = n * s := by simp [zeros, size_madeCells]
theorem zeros_take (z : Value) (m k s : Nat) (h : m ≤ k) : (zeros z k s).take (m * s) = zeros z m s := by
  apply List.ext_getElem?
  intro i
  have := Nat.mul_le_mul_right s h
  simp only [zeros, madeCells, List.getElem?_take, Array.getElem?_toList, Array.getElem?_map, Array.getElem?_range]
  by_cases hi : i < m * s
  · rw [if_pos hi, if_pos (by omega), if_pos hi]
  · rw [if_neg hi, if_neg hi]; rfl
theorem zeros_one {z : Value} (hz : z.cells = #[z]) (n : Nat) : zeros z n 1 = List.replicate n z := by
  rw [zeros, hz, Nat.mul_one, toList_madeCells_one]

section
variable {P : Program} {w : World}
/-- make([]T, m, k) -/
theorem wpList_mk {ops : Array Oper} {rest : List Oper} {o : Oper} {f : Act} {Q : Exit → Act → World → Prop} (hgd : o.guard = none) (lO cO : Operand) {t : TypeId}
    (ho : o.op = .makeSlice t lO cO) {e s b : Nat} {z : Value} (E : Elem P t e s b z) (m k : Nat) {kl kc : IntKind} {L C : Int} (hl : f.eval lO = .int kl L) (hc : f.eval cO = .int kc C)
    (hL : L = (m : Int)) (hC : C = (k : Int)) (hmk : m ≤ k) (hb : b * k ≤ 281474976710656) (hm : k ≤ maxLen)
    (h : ∀ g w', w'.ownsRow w.heap.size e s (.slice (some ⟨g, 0, none⟩) m k) m (zeros z m s) → Ext w w' → wpList P ops Q rest (f.put o.dst (.slice (some ⟨g, 0, none⟩) m k)) w') : wpList P ops Q (o :: rest) f w :=
  wpList_plain hgd fun _ hK => by
    obtain ⟨i, hi, hz0, hz1, hz2⟩ := info_parts E.info
    subst hL hC
    have h63 : (k : Int) ≤ 9223372036854775807 := by have h := hm; simp [maxLen] at h; omega
    have hb' : (i.bytes : Int) * (k : Int) ≤ 281474976710656 := by
      have h : ((i.bytes * k : Nat) : Int) ≤ 281474976710656 := by rw [hz2]; omega
      rwa [Int.natCast_mul] at h
    have hr := run_make (P := P) w t e i z E.und hi hz0 kl kc m k (by omega) (by omega) hb' h63
    simp only [Int.toNat_natCast] at hr
    unfold Oper.wp
    simp [execOp, ho, hl, hc, hr, Result.andThen]
    refine hK _ _ (h _ _ ?_ (Ext.of_grown (World.grownBy_alloc w _ none)))
    refine ⟨zeros_length z m s, .inr ⟨w.heap.size, k, _, rfl, Nat.le_refl _, heap_alloc_new w _, hmk, hm, by rw [hz1]; simp [size_madeCells], ?_⟩⟩
    rw [hz1]; exact zeros_take z m k s hmk

/-- copy(d, x), d owned and at least as long, one cell an element. -/
theorem wpList_cp {ops : Array Oper} {rest : List Oper} {o : Oper} {f : Act} {Q : Exit → Act → World → Prop} (hgd : o.guard = none) (dO xO : Operand) {t : TypeId}
    (ho : o.op = .call { callee := .builtin .copy, args := #[dO, xO], argTypes := #[t, t] })
    {e b : Nat} {z : Value} (E : Elem P t e 1 b z) {B g n c : Nat} {xs : List Value} (hd : f.eval dO = .slice (some ⟨g, 0, none⟩) n c) (hown : w.ownsRow B e 1 (.slice (some ⟨g, 0, none⟩) n c) n xs)
    {xa : Option Addr} {m xc : Nat} {news : List Value} (hx : f.eval xO = .slice xa m xc) (hrow : Row w xa m xc 1 news) (h1 : ∀ u ∈ news, u.oneCell' = true) (hmn : m ≤ n)
    (h : ∀ w', w'.ownsRow B e 1 (.slice (some ⟨g, 0, none⟩) n c) n (news ++ xs.drop m) → w.grownBy w' (some g) → wpList P ops Q rest (f.put o.dst (goInt m)) w') : wpList P ops Q (o :: rest) f w := by
  obtain ⟨i, hi, hz0, hz1, hz2⟩ := info_parts E.info
  have hsz : (P.info? e).map (·.size) = some 1 := by rw [hi]; simp [hz1]
  have hml : news.length = m := by simpa using hrow.len
  cases hxa : xa with
  | none =>
    subst hxa
    have hc0 := hrow.nil rfl
    have hle := hrow.le
    obtain rfl : m = 0 := by omega
    obtain rfl : news = [] := List.eq_nil_of_length_eq_zero hml
    refine wpList_copy_nothing hgd dO xO t t ho e E.und hsz _ _ n c 0 xc hd hx (Nat.zero_min _) ?_
    exact h w (by simpa using hown) (World.grownBy.refl _ _)
  | some p =>
    subst hxa
    obtain ⟨hl, hh⟩ := hown
    rcases hh with ⟨hv, _⟩ | ⟨g', cap, cur, hv, hB, hg, hle, hm, hs, ht⟩
    · simp at hv
    · simp only [Value.slice.injEq, Option.some.injEq, Addr.mk.injEq, and_true, true_and] at hv
      obtain ⟨rfl, rfl⟩ := hv
      simp only [Nat.mul_one] at hs ht hl
      refine wpList_copy_own hgd dO xO t t ho e E.und hsz g 0 n c p m xc hd hx cur e hg news (by rw [hml]; exact (Nat.min_eq_left hmn).symm) (hrow.cell p rfl) (by omega) h1 ?_
      rw [hml]
      refine h _ ⟨by simp [hml, hl]; omega, .inr ⟨g, c, _, rfl, hB, setRow_heap w g cur _ e _ hg, hle, hm, by simp [hml, hs]; omega, ?_⟩⟩ ⟨rfl, rfl, rfl, by simp, fun k _ hk => setRow_other w g k _ (fun e => hk (by simp [e]))⟩
      rw [← ht]
      simp only [Nat.mul_one, List.take_zero, List.nil_append, Nat.zero_add]
      rw [List.take_append, List.take_of_length_le (by omega), hml, List.drop_take]
end

/-! ### Parts of a slice; its elements -/

/-- The address of x[l:..]. -/
def subA (a : Option Addr) (l c s : Nat) : Option Addr := if c = l then a else a.map (·.add (l * s))

theorem addr_add_add (p : Addr) (hp : p.spot = none) (i j : Nat) : (p.add i).add j = p.add (i + j) := by
  obtain ⟨b, o, s⟩ := p
  simp only at hp
  subst hp
  simp [Addr.add_lit, Nat.add_assoc]

theorem Row.sub {w : World} {a : Option Addr} {n c s : Nat} {xs : List Value} (hr : Row w a n c s xs) (l h : Nat) (hlh : l ≤ h) (hhn : h ≤ n) : Row w (subA a l c s) (h - l) (c - l) s ((xs.drop (l * s)).take ((h - l) * s)) := by
  have hl := hr.len
  have hle := hr.le
  have hmul : h * s ≤ n * s := Nat.mul_le_mul_right s hhn
  have hlm : l * s ≤ h * s := Nat.mul_le_mul_right s hlh
  have hsub : (h - l) * s = h * s - l * s := Nat.sub_mul h l s
  refine ⟨?_, by omega, by have := hr.max; omega, ?_, ?_, ?_⟩
  · rw [List.length_take, List.length_drop, hl, hsub]; omega
  · intro hn
    unfold subA at hn
    split at hn
    · omega
    · rw [Option.map_eq_none_iff] at hn
      have := hr.nil hn
      omega
  · intro p hp
    unfold subA at hp
    split at hp
    · left; omega
    · obtain ⟨q, hq, rfl⟩ := Option.map_eq_some_iff.1 hp
      rcases hr.at_ q hq with h0 | ⟨b, o, rfl⟩
      · left; omega
      · exact .inr ⟨b, o + l * s, by rw [Addr.add_lit]⟩
  · intro p hp j u hj
    rw [List.getElem?_take] at hj
    split at hj
    · rename_i hjl
      rw [List.getElem?_drop] at hj
      unfold subA at hp
      split at hp
      · exfalso
        have : h - l = 0 := by omega
        rw [this] at hjl
        simp at hjl
      · obtain ⟨q, hq, rfl⟩ := Option.map_eq_some_iff.1 hp
        rcases hr.at_ q hq with h0 | ⟨b, o, rfl⟩
        · omega
        rw [addr_add_add _ rfl]
        exact hr.cell _ hq _ u hj
    · cases hj

section
variable {P : Program} {w : World}

theorem Elem.elem {t e s b : Nat} {z : Value} (E : Elem P t e s b z) : P.elem t = e := by simp [Program.elem, E.und]
theorem Elem.und' {t e s b : Nat} {z : Value} (E : Elem P t e s b z) : P.underlying t = some (.slice (P.elem t)) := by rw [E.elem]; exact E.und
theorem Elem.size {t e s b : Nat} {z : Value} (E : Elem P t e s b z) : (sizeOf (P.elem t)).run P w = .ok s w := by
  obtain ⟨i, hi, hz0, hz1, hz2⟩ := info_parts E.info
  rw [E.elem]
  simp [sizeOf, typeInfo, hi, hz1]

theorem run_sl {t e s b : Nat} {z : Value} (E : Elem P t e s b z) (a : Option Addr) (n c : Nat) (kl kh : IntKind) (l h : Nat) (hlh : l ≤ h) (hhc : h ≤ c) :
    (Instr.slice t (.slice a n c) (some (.int kl l)) (some (.int kh h)) none).run P w = .ok (.slice (subA a l c s) (h - l) (c - l)) w := by
  rw [run_slice_lh w t a n c E.und' kl kh l h (by omega) (by omega) (by omega), E.size]
  rfl
theorem run_sl_lo {t e s b : Nat} {z : Value} (E : Elem P t e s b z) (a : Option Addr) (n c : Nat) (kl : IntKind) (l : Nat) (hlh : l ≤ n) :
    (Instr.slice t (.slice a n c) (some (.int kl l)) none none).run P w = .ok (.slice (subA a l c s) (n - l) (c - l)) w := by
  rw [run_slice_l w t a n c E.und' kl l (by omega) (by omega), E.size]
  rfl
theorem run_sl_hi {t e s b : Nat} {z : Value} (E : Elem P t e s b z) (a : Option Addr) (n c : Nat) (kh : IntKind) (h : Nat) (hhc : h ≤ c) :
    (Instr.slice t (.slice a n c) none (some (.int kh h)) none).run P w = .ok (.slice (subA a 0 c s) h c) w := by
  rw [run_slice_h w t a n c E.und' kh h (by omega) (by omega), E.size]
  rfl

/-- x[l:l+m] -/
theorem wpList_sl {ops : Array Oper} {rest : List Oper} {o : Oper} {f : Act} {Q : Exit → Act → World → Prop} (hgd : o.guard = none) (xO lO hO : Operand) {t : TypeId}
    (ho : o.op = .slice t xO (some lO) (some hO) none) {e s b : Nat} {z : Value} (E : Elem P t e s b z) {a : Option Addr} {n c : Nat} {xs : List Value} (hx : f.eval xO = .slice a n c) (hr : Row w a n c s xs)
    (l m : Nat) {kl kh : IntKind} {L H : Int} (hl : f.eval lO = .int kl L) (hh : f.eval hO = .int kh H) (hL : L = (l : Int)) (hH : H = (l : Int) + (m : Int)) (hhn : l + m ≤ n)
    (hk : ∀ a', Row w a' m (c - l) s ((xs.drop (l * s)).take (m * s)) → wpList P ops Q rest (f.put o.dst (.slice a' m (c - l))) w) : wpList P ops Q (o :: rest) f w :=
  wpList_plain hgd fun _ hK => by
    have hH' : H = ((l + m : Nat) : Int) := by omega
    subst hL hH'
    have e := run_sl (w := w) E a n c kl kh l (l + m) (by omega) (by have := hr.le; omega)
    have hs := hr.sub l (l + m) (by omega) hhn
    rw [show l + m - l = m by omega] at e hs
    unfold Oper.wp
    simp only [execOp, ho, hx, hl, hh, Instr.sliceAt, Option.map_some, Option.map_none, Sem.run_bind, run_underlying E.und, Result.andThen_ok, e]
    exact hK _ _ (hk _ hs)
theorem wpList_sl_lo {ops : Array Oper} {rest : List Oper} {o : Oper} {f : Act} {Q : Exit → Act → World → Prop} (hgd : o.guard = none) (xO lO : Operand) {t : TypeId}
    (ho : o.op = .slice t xO (some lO) none none) {e s b : Nat} {z : Value} (E : Elem P t e s b z) {a : Option Addr} {n c : Nat} {xs : List Value} (hx : f.eval xO = .slice a n c) (hr : Row w a n c s xs)
    (l : Nat) {kl : IntKind} {L : Int} (hl : f.eval lO = .int kl L) (hL : L = (l : Int)) (hlh : l ≤ n)
    (hk : ∀ a', Row w a' (n - l) (c - l) s (xs.drop (l * s)) → wpList P ops Q rest (f.put o.dst (.slice a' (n - l) (c - l))) w) : wpList P ops Q (o :: rest) f w :=
  wpList_plain hgd fun _ hK => by
    subst hL
    unfold Oper.wp
    simp [execOp, ho, hx, hl, Instr.sliceAt, run_underlying E.und, run_sl_lo E a n c kl l hlh, Result.andThen]
    refine hK _ _ (hk _ ?_)
    have h := hr.sub l n hlh (Nat.le_refl _)
    rwa [List.take_of_length_le (by rw [List.length_drop, hr.len, Nat.sub_mul]; omega)] at h
theorem wpList_sl_hi {ops : Array Oper} {rest : List Oper} {o : Oper} {f : Act} {Q : Exit → Act → World → Prop} (hgd : o.guard = none) (xO hO : Operand) {t : TypeId}
    (ho : o.op = .slice t xO none (some hO) none) {e s b : Nat} {z : Value} (E : Elem P t e s b z) {a : Option Addr} {n c : Nat} {xs : List Value} (hx : f.eval xO = .slice a n c) (hr : Row w a n c s xs)
    (h : Nat) {kh : IntKind} {H : Int} (hh : f.eval hO = .int kh H) (hH : H = (h : Int)) (hhn : h ≤ n)
    (hk : ∀ a', Row w a' h c s (xs.take (h * s)) → wpList P ops Q rest (f.put o.dst (.slice a' h c)) w) : wpList P ops Q (o :: rest) f w :=
  wpList_plain hgd fun _ hK => by
    subst hH
    unfold Oper.wp
    simp [execOp, ho, hx, hh, Instr.sliceAt, run_underlying E.und, run_sl_hi E a n c kh h (by have := hr.le; omega), Result.andThen]
    refine hK _ _ (hk _ ?_)
    have h := hr.sub 0 h (Nat.zero_le _) hhn
    simpa using h

/-- &x[i]: the cells of the element lie there. -/
theorem wpList_ix {ops : Array Oper} {rest : List Oper} {o : Oper} {f : Act} {Q : Exit → Act → World → Prop} (hgd : o.guard = none) (xO iO : Operand) {t : TypeId}
    (ho : o.op = .indexAddr t xO iO) {e s b : Nat} {z : Value} (E : Elem P t e s b z) {a : Option Addr} {n c : Nat} {xs : List Value} (hx : f.eval xO = .slice a n c) (hr : Row w a n c s xs)
    (i : Nat) {k : IntKind} {I : Int} (hi : f.eval iO = .int k I) (hI : I = (i : Int)) (hin : i < n)
    (hk : ∀ b o', (∀ j, j < s → w.cell? ⟨b, o' + j, none⟩ = xs[i * s + j]?) → wpList P ops Q rest (f.put o.dst (.pointer (some ⟨b, o', none⟩))) w) : wpList P ops Q (o :: rest) f w := by
  have hle := hr.le
  cases ha : a with
  | none => have := hr.nil ha; omega
  | some p =>
    subst ha
    rcases hr.at_ p rfl with h0 | ⟨bb, oo, rfl⟩
    · omega
    refine wpList_plain hgd fun _ hK => ?_
    subst hI
    have hrun := run_indexAt_slice (P := P) (w := w) t ⟨bb, oo, none⟩ n c k (i : Int) E.und'
    rw [if_pos (by omega), E.size] at hrun
    simp only [Result.andThen, Int.toNat_natCast, Addr.add_lit] at hrun
    unfold Oper.wp
    simp [execOp, ho, hx, hi, hrun, Result.andThen]
    refine hK _ _ (hk _ _ fun j hj => ?_)
    have hlt : i * s + j < xs.length := by
      rw [hr.len]
      have h1 : (i + 1) * s ≤ n * s := Nat.mul_le_mul_right s hin
      rw [Nat.add_mul, Nat.one_mul] at h1
      omega
    have := hr.cell _ rfl (i * s + j) _ (List.getElem?_eq_getElem hlt)
    rw [Addr.add_lit, ← Nat.add_assoc] at this
    rw [this, List.getElem?_eq_getElem hlt]
end

/-! ### Bytes -/

def u8 (x : UInt8) : Value := .int .u8 (x.toNat : Int)
theorem u8_ofNat (k : Nat) (h : k < 256) : u8 (UInt8.ofNat k) = .int .u8 (k : Int) := by simp [u8, Nat.mod_eq_of_lt h]
/-- A byte slice reads as l. -/
def Bytes (w : World) (a : Option Addr) (n c : Nat) (l : List UInt8) : Prop := l.length = n ∧ Row w a n c 1 (l.map u8)

theorem Bytes.row {w : World} {a : Option Addr} {n c : Nat} {l : List UInt8} (h : Bytes w a n c l) : Row w a n c 1 (l.map u8) := h.2
theorem Bytes.ext {w w' : World} {a : Option Addr} {n c : Nat} {l : List UInt8} (h : Bytes w a n c l) (hx : Ext w w') : Bytes w' a n c l := ⟨h.1, h.2.ext hx⟩
theorem Bytes.len {w : World} {a : Option Addr} {n c : Nat} {l : List UInt8} (h : Bytes w a n c l) : l.length = n := h.1
theorem Bytes.mk' {w : World} {a : Option Addr} {n c : Nat} {l : List UInt8} (h : Row w a n c 1 (l.map u8)) : Bytes w a n c l := ⟨by simpa using h.len, h⟩
theorem Bytes.drop {w : World} {a : Option Addr} {n c : Nat} {l : List UInt8} {k : Nat} (h : Row w a n c 1 ((l.map u8).drop (k * 1))) : Bytes w a n c (l.drop k) := Bytes.mk' (by rw [List.map_drop]; simpa using h)
theorem Bytes.take {w : World} {a : Option Addr} {n c : Nat} {l : List UInt8} {k : Nat} (h : Row w a n c 1 ((l.map u8).take (k * 1))) : Bytes w a n c (l.take k) := Bytes.mk' (by rw [List.map_take]; simpa using h)
theorem Bytes.sub {w : World} {a : Option Addr} {n c : Nat} {l : List UInt8} {k m : Nat} (h : Row w a n c 1 (((l.map u8).drop (k * 1)).take (m * 1))) : Bytes w a n c ((l.drop k).take m) := Bytes.mk' (by rw [List.map_take, List.map_drop]; simpa using h)
theorem Bytes.nil (w : World) : Bytes w none 0 0 [] := ⟨rfl, Row.empty w 1⟩
theorem u8_oneCell (l : List UInt8) : ∀ u ∈ l.map u8, u.oneCell' = true := by
  intro u hu
  obtain ⟨_, _, rfl⟩ := List.mem_map.1 hu
  rfl
theorem Bytes.of_own {w : World} {B e : Nat} {a : Option Addr} {n c : Nat} {l : List UInt8} (h : w.ownsRow B e 1 (.slice a n c) n (l.map u8)) : Bytes w a n c l :=
  ⟨by simpa using h.1, Row.of_own h⟩

theorem Bytes.cellAt {w : World} {b o n c : Nat} {l : List UInt8} (h : Bytes w (some ⟨b, o, none⟩) n c l) (i : Nat) (hi : i < l.length) : w.cell? ⟨b, o + i, none⟩ = some (.int .u8 (l[i].toNat : Int)) := by
  have := h.2.cell _ rfl i (u8 l[i]) (by simp [hi])
  rwa [Addr.add_lit] at this

/-- b[i] -/
theorem wpList_ixB {P : Program} {w : World} {ops : Array Oper} {rest : List Oper} {o : Oper} {f : Act} {Q : Exit → Act → World → Prop} (hgd : o.guard = none) (xO iO : Operand) {t : TypeId}
    (ho : o.op = .indexAddr t xO iO) {e b : Nat} {z : Value} (E : Elem P t e 1 b z) {a : Option Addr} {n c : Nat} {l : List UInt8} (hx : f.eval xO = .slice a n c) (hr : Bytes w a n c l)
    (i : Nat) {k : IntKind} {I : Int} (hi : f.eval iO = .int k I) (hI : I = (i : Int)) (x : UInt8) (hin : l[i]? = some x)
    (hk : ∀ p, w.cell? p = some (.int .u8 (x.toNat : Int)) → wpList P ops Q rest (f.put o.dst (.pointer (some p))) w) : wpList P ops Q (o :: rest) f w := by
  obtain ⟨hil, hix⟩ := List.getElem?_eq_some_iff.1 hin
  refine wpList_ix hgd xO iO ho E hx hr.row i hi hI (by have := hr.len; omega) fun b' o' hc => hk _ ?_
  have := hc 0 (by decide)
  rw [Nat.add_zero] at this
  rw [this, Nat.mul_one, Nat.add_zero, List.getElem?_map, hin]
  rfl
theorem Bytes.get {w : World} {a : Option Addr} {n c : Nat} {l : List UInt8} (h : Bytes w a n c l) {i : Nat} (hi : i < n) : ∃ x, l[i]? = some x := ⟨_, List.getElem?_eq_getElem (by rw [h.len]; exact hi)⟩

/-- string(b) -/
theorem Bytes.conv {P : Program} {w : World} {a : Option Addr} {n c : Nat} {l : List UInt8} (h : Bytes w a n c l) (src e dst : TypeId) (hs : P.underlying src = some (.slice e)) (he : P.underlying e = some (.int .u8))
    (hd : P.underlying dst = some .string) : (convert src dst (.slice a n c)).run P w = .ok (.string ⟨l.toArray⟩) w := by
  obtain ⟨hl, hr⟩ := h
  cases a with
  | none =>
    have hc := hr.nil rfl
    have hle := hr.le
    obtain rfl : l = [] := List.eq_nil_of_length_eq_zero (by omega)
    exact run_convert_bytes_nil w src e hs he n c dst hd
  | some p =>
    rcases hr.at_ p rfl with h0 | ⟨b, o, rfl⟩
    · have hle := hr.le
      obtain rfl : l = [] := List.eq_nil_of_length_eq_zero (by omega)
      obtain rfl : n = 0 := by omega
      rw [run_convert_bytes_string w src dst e _ 0 c hs he hd, run_bytesToString w p 0 c [] (by simp [loadCells, loadCellsFrom])]
      rfl
    have hx := run_convert_bytes_arg (P := P) w src e hs he b o n c (l.map fun x => (x.toNat : Int)) (by simpa using hl) (fun i hi => by
      have := Bytes.cellAt ⟨hl, hr⟩ i (by omega)
      rw [this, List.getD_eq_getElem?_getD, List.getElem?_map, List.getElem?_eq_getElem (by omega)]; rfl) dst hd
    rw [hx]
    congr 2
    have : (strOfNums (l.map fun x => (x.toNat : Int))).data.toList = l := by
      rw [strOfNums_data, List.map_map]
      conv => rhs; rw [← List.map_id l]
      apply List.map_congr_left
      intro x _
      simp [UInt8.ofNat_toNat]
    cases hh : strOfNums (l.map fun x => (x.toNat : Int)) with
    | mk d => rw [hh] at this; simp only at this; rw [← this]

theorem own_len {w : World} {B e n c : Nat} {a : Option Addr} {l : List UInt8} (h : w.ownsRow B e 1 (.slice a n c) n (l.map u8)) : l.length = n := by simpa using h.1

theorem own_ext {w w' : World} {B e s n : Nat} {v : Value} {xs : List Value} (h : w.ownsRow B e s v n xs) (hx : Ext w w') : w'.ownsRow B e s v n xs :=
  h.kept (row := none) ⟨hx.os, hx.tape, hx.output, hx.size, fun k hk _ => hx.block k hk⟩ (by cases hv : v.ownBlock <;> simp)
theorem own_base {w : World} {B B' e s n : Nat} {v : Value} {xs : List Value} (h : w.ownsRow B e s v n xs) (hB : B' ≤ B) : w.ownsRow B' e s v n xs := by
  refine ⟨h.1, ?_⟩
  rcases h.2 with h2 | ⟨g, cap, cur, hv, hg, r⟩
  · exact .inl h2
  · exact .inr ⟨g, cap, cur, hv, Nat.le_trans hB hg, r⟩
/-- A literal's block is owned. -/
theorem own_lit (w : World) (cs : Array Value) (B e n s : Nat) (hB : B ≤ w.heap.size) (hm : n ≤ maxLen) (hs : cs.size = n * s) : (w.alloc (.cells cs e)).ownsRow B e s (.slice (some ⟨w.heap.size, 0, none⟩) n n) n cs.toList :=
  World.ownsRow_lit w cs n hB hm hs

/-- The call returns v and leaves the world alone. -/
def Ret (v : Value) (w : World) (e : Ending) (w' : World) : Prop := e = .returned v ∧ w = w'
theorem ret_int {k : IntKind} {a b : Int} (h : a = b) : Ending.returned (.int k a) = .returned (.int k b) := by rw [h]
theorem ret_bool {a b : Bool} (h : a = b) : Ending.returned (.bool a) = .returned (.bool b) := by rw [h]

theorem strCells_u8 (s : ByteArray) : Lib.strCells s = s.data.toList.map u8 := rfl

/-- append(b, s...), s a string. -/
theorem wpList_app_str {P : Program} {w : World} {ops : Array Oper} {rest : List Oper} {o : Oper} {f : Act} {Q : Exit → Act → World → Prop} (hgd : o.guard = none) (sO xO : Operand) {t u : TypeId}
    (ho : o.op = .call { callee := .builtin .append, args := #[sO, xO], argTypes := #[t, u] })
    {e : Nat} (E : Elem P t e 1 1 (.int .u8 0)) (hu : P.underlying u = some .string) {B : Nat} {a : Option Addr} {n c : Nat} {l : List UInt8} (hs : f.eval sO = .slice a n c) (hown : w.ownsRow B e 1 (.slice a n c) n (l.map u8))
    {s : ByteArray} (hx : f.eval xO = .string s) (hm : n + s.size ≤ 140737488355328) (hB : B ≤ w.heap.size)
    (h : ∀ a' c' w', w'.ownsRow B e 1 (.slice a' (n + s.size) c') (n + s.size) ((l ++ s.data.toList).map u8) → w.grownBy w' (blockOf a) → wpList P ops Q rest (f.put o.dst (.slice a' (n + s.size) c')) w') : wpList P ops Q (o :: rest) f w := by
  obtain ⟨i, hi, hz0, hz1, hz2⟩ := info_parts E.info
  refine Lib.wpList_append_own_string w hgd sO xO t u ho B e i E.und hu hi hz0 hz1 hz2 _ n _ hs hown s hx (by unfold maxLen; omega) hm hB ?_
  intro v' w' h2 h3 _
  obtain ⟨a', c', rfl⟩ := own_shape h2
  exact h a' c' w' (by simpa [strCells_u8] using h2) (by simpa [ownBlock_slice] using h3)

end Go.Proofs.YtejljmikammcdaaGreatDoor
