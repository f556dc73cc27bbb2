/-
  General laws (they began in the texts of the packs).
-/
import Derived.Test.YtejljmikammcdaaGreatDoorOwn1
import Derived.Test.YtejljmikammcdaaGreatDoorOrdU
import Derived.Test.YtejljmikammcdaaGreatDoorChecked
import Derived.Test.YtejljmikammcdaaGreatDoorFrame
import Derived.Laws.OwnMore
import Derived.Deep.MidRow
import Derived.Deep.Cut
import Derived.Deep.LoopGhost
namespace Go.Proofs.YtejljmikammcdaaGreatDoor
open Go.RowKit

variable {P : Program} {w : World}


/-- The value v; nothing old has changed. -/
def NewNone (v : Value) (w : World) (e : Ending) (w' : World) : Prop := e = .returned v ∧ Ext w w'
theorem setRow_size (w : World) (g : Nat) (cs : Array Value) : (w.setRow g cs).heap.size = w.heap.size := by
  simp [World.setRow]
theorem results_cells {fn : Func} {p : Tmp} {ty : TypeId} (h : fn.results = #[.cell p ty]) (tmps : Array Value) (g : Nat) (cs : List Value) (d : TypeDesc)
    (hp : tmps.getD p undef = .pointer (some ⟨g, 0, none⟩)) (hc : ∀ j v, cs[j]? = some v → w.cell? ⟨g, j, none⟩ = some v)
    (hu : P.underlying ty = some d) (hd : d.isRow = true) (hi : (P.info? ty).map (·.size) = some cs.length) :
    (results fn tmps).run P w = .ok (.agg cs.toArray) w := by
  have hp' : tmps[p]?.getD undef = .pointer (some ⟨g, 0, none⟩) := by simpa using hp
  simp [results, h, hp', asAddr, run_loadVar_mid w g 0 ty cs d (fun j v hj => by simpa using hc j v hj) hu hd hi]
theorem frozen_none {g : Nat} {cs : Array Value} {t : TypeId} (h : w.heap[g]? = some (.cells cs t (0, 0))) (j : Nat) : w.frozen? ⟨g, j, none⟩ = false := by
  simp [World.frozen?, h]
theorem eqI {x y : Int} (h : x = y) : (x == y) = true ∧ (x != y) = false := ⟨beq_iff_eq.2 h, by simp [bne, beq_iff_eq.2 h]⟩
theorem neI {x y : Int} (h : x ≠ y) : (x == y) = false ∧ (x != y) = true := ⟨beq_eq_false_iff_ne.2 h, by simp [bne, beq_eq_false_iff_ne.2 h]⟩
theorem ne0 {x : Int} (h : x ≠ 0) : (x == 0) = false ∧ (x != 0) = true := ⟨by simpa using h, by simpa using h⟩
/-- Bytes that do not lie in block g stay. -/
theorem Bytes.apart {w w' : World} {a : Option Addr} {n c g : Nat} {l : List UInt8} (h : Bytes w a n c l) (hg : w.grownBy w' (some g)) (hne : ∀ p, a = some p → p.block ≠ g) : Bytes w' a n c l :=
  ⟨h.1, h.2.len, h.2.le, h.2.max, h.2.nil, h.2.at_, fun p hp j u hj => by
    have hc := h.2.cell p hp j u hj
    have hlt := World.block_lt_of_cell? w _ hc
    have hb : (p.add j).block = p.block := by unfold Addr.add; split <;> rfl
    rw [World.cell?_of_block (hg.block _ hlt (by rw [hb]; intro h; exact hne p hp (by simpa using h)))]
    exact hc⟩
theorem grown_drews (w : World) (b : Nat) : w.grownBy w.drew (some b) := ⟨rfl, rfl, rfl, Nat.le_refl _, fun _ _ _ => rfl⟩
theorem grown_extS {w w' : World} (b : Nat) (h : Ext w w') : w.grownBy w' (some b) := ⟨h.os, h.tape, h.output, h.size, fun k hk _ => h.block k hk⟩
/-- b[i] in a region. -/
theorem wpY_ixB {P : Program} {ops : Array Oper} {B : Nat} {w0 : World} {fr : List Nat} {Q : Act → World → Prop} {k : Nat} {l : XP} {a : Act} {w : World} {o : Oper} (ho : ops[k]? = some o) (hw : Region.wanted o (yielded ops a.tmps) = true) (xO iO : Operand) {t : TypeId}
    (hop : o.op = .indexAddr t xO iO) {e b : Nat} {z : Value} (E : Elem P t e 1 b z) {p : Option Addr} {n c : Nat} {xs : List UInt8} (hx : a.eval xO = .slice p n c) (hr : ∀ w', Below B w0 w' → Bytes w' p n c xs)
    (i : Nat) {kd : IntKind} {I : Int} (hi : a.eval iO = .int kd I) (hI : I = (i : Int)) (x : UInt8) (hin : xs[i]? = some x)
    (h : ∀ q, (∀ w', Below B w0 w' → w'.cell? q = some (.int .u8 (x.toNat : Int))) → wpY P ops B w0 fr Q l (a.put o.dst (.pointer (some q))) w) : wpY P ops B w0 fr Q (.q k l) a w := by
  obtain ⟨hil, hix⟩ := List.getElem?_eq_some_iff.1 hin
  refine wpY_ix ho hw xO iO hop E hx (fun w' h => (hr w' h).row) i hi hI (by have := (hr w0 (Below.refl _ _)).len; omega) fun b' o' hc => h _ fun w' hx' => ?_
  have := hc 0 (by decide) w' hx'
  rw [Nat.add_zero] at this
  rw [this, Nat.mul_one, Nat.add_zero, List.getElem?_map, hin]
  rfl
theorem Ext.rd {w0 w w' : World} {g : Nat} (h : Ext w0 w) (hg : w.grownBy w' (some g)) (hB : w0.heap.size ≤ g) : Ext w0 w' := h.grown hg h.size (fun k hk => by cases hk; exact hB)
theorem Bytes.lt {w : World} {a : Option Addr} {n c : Nat} {l : List UInt8} (h : Bytes w a n c l) (hn : 0 < n) : ∀ p, a = some p → p.block < w.heap.size := fun p hp => by
  have h0 := h.2.cell p hp 0 (u8 (l[0]'(by have := h.1; omega))) (by rw [List.getElem?_map, List.getElem?_eq_getElem (by have := h.1; omega)]; rfl)
  have := World.block_lt_of_cell? w _ h0
  have hb : (p.add 0).block = p.block := by unfold Addr.add; split <;> rfl
  rw [hb] at this
  exact this
theorem grown_drewO (w : World) (o : Option Nat) : w.grownBy w.drew o := ⟨rfl, rfl, rfl, Nat.le_refl _, fun _ _ _ => rfl⟩
theorem own_heap {w : World} {B e s n c b : Nat} {a : Option Addr} {xs : List Value} (h : w.ownsRow B e s (.slice a n c) n xs) (hb : blockOf a = some b) : ∃ cur, w.heap[b]? = some (.cells cur e (0, 0)) := by
  rcases h.2 with ⟨hv, _⟩ | ⟨g, cap, cur, hv, hB, hg, _⟩
  · simp only [Value.slice.injEq] at hv
    rw [hv.1] at hb; cases hb
  · simp only [Value.slice.injEq] at hv
    rw [hv.1] at hb
    simp only [blockOf, Option.some.injEq] at hb
    exact ⟨cur, by rw [← hb]; exact hg⟩
theorem owp_ix {w : World} {o : Oper} {f : Act} {K : Act → World → Prop} {Q : Exit → Act → World → Prop} (xO iO : Operand) {t : TypeId}
    (ho : o.op = .indexAddr t xO iO) {e s b : Nat} {z : Value} (E : Elem P t e s b z) {a : Option Addr} {n c : Nat} {xs : List Value} (hx : f.eval xO = .slice a n c) (hr : Row w a n c s xs)
    (i : Nat) {k : IntKind} {I : Int} (hi : f.eval iO = .int k I) (hI : I = (i : Int)) (hin : i < n)
    (hk : ∀ b o', (∀ j, j < s → w.cell? ⟨b, o' + j, none⟩ = xs[i * s + j]?) → K (f.put o.dst (.pointer (some ⟨b, o', none⟩))) w) : o.wp P f w K Q := by
  have hle := hr.le
  cases ha : a with
  | none => have := hr.nil ha; omega
  | some p =>
    subst ha
    rcases hr.at_ p rfl with h0 | ⟨bb, oo, rfl⟩
    · omega
    subst hI
    have hrun := run_indexAt_slice (P := P) (w := w) t ⟨bb, oo, none⟩ n c k (i : Int) E.und'
    rw [if_pos (by omega), E.size] at hrun
    simp only [Result.andThen, Int.toNat_natCast, Addr.add_lit] at hrun
    unfold Oper.wp
    simp [execOp, ho, hx, hi, hrun, Result.andThen]
    refine hk _ _ fun j hj => ?_
    have hlt : i * s + j < xs.length := by
      rw [hr.len]
      have h1 : (i + 1) * s ≤ n * s := Nat.mul_le_mul_right s hin
      rw [Nat.add_mul, Nat.one_mul] at h1
      omega
    have := hr.cell _ rfl (i * s + j) _ (List.getElem?_eq_getElem hlt)
    rw [Addr.add_lit, ← Nat.add_assoc] at this
    rw [this, List.getElem?_eq_getElem hlt]
theorem owp_ixB {w : World} {o : Oper} {f : Act} {K : Act → World → Prop} {Q : Exit → Act → World → Prop} (xO iO : Operand) {t : TypeId}
    (ho : o.op = .indexAddr t xO iO) {e b : Nat} {z : Value} (E : Elem P t e 1 b z) {a : Option Addr} {n c : Nat} {l : List UInt8} (hx : f.eval xO = .slice a n c) (hr : Bytes w a n c l)
    (i : Nat) {k : IntKind} {I : Int} (hi : f.eval iO = .int k I) (hI : I = (i : Int)) (x : UInt8) (hin : l[i]? = some x)
    (hk : ∀ p, w.cell? p = some (.int .u8 (x.toNat : Int)) → K (f.put o.dst (.pointer (some p))) w) : o.wp P f w K Q := by
  obtain ⟨hil, hix⟩ := List.getElem?_eq_some_iff.1 hin
  refine owp_ix xO iO ho E hx hr.row i hi hI (by have := hr.len; omega) fun b' o' hc => hk _ ?_
  have := hc 0 (by decide)
  rw [Nat.add_zero] at this
  rw [this, Nat.mul_one, Nat.add_zero, List.getElem?_map, hin]
  rfl
/-- string(b) in a region. -/
theorem wpY_conv {P : Program} {ops : Array Oper} {B : Nat} {w0 : World} {fr : List Nat} {Q : Act → World → Prop} {k : Nat} {L : XP} {a : Act} {w : World} {o : Oper} (ho : ops[k]? = some o) (hw : Region.wanted o (yielded ops a.tmps) = true) (xO : Operand) {src dst : TypeId}
    (hop : o.op = .convert src dst xO) {p : Option Addr} {n c : Nat} {l : List UInt8} (hx : a.eval xO = .slice p n c) (hb : ∀ w', Below B w0 w' → Bytes w' p n c l) {e : TypeId} (hs : P.underlying src = some (.slice e)) (he : P.underlying e = some (.int .u8)) (hd : P.underlying dst = some .string)
    (h : wpY P ops B w0 fr Q L (a.put o.dst (.string ⟨l.toArray⟩)) w) : wpY P ops B w0 fr Q (.q k L) a w :=
  wpY_q ho hw (.string ⟨l.toArray⟩) (fun w' hx' => by
    unfold execOp
    simp only [hop, hx, (hb w' hx').conv src e dst hs he hd, Sem.run_bind, Sem.run_pure, Result.andThen_ok]) h
def SameRel (w : World) (n : Nat) (i : Value) (wr : World) : Prop := ∃ j : Nat, i = .int .i64 j ∧ j ≤ n ∧ Ext w wr
theorem blockOf_sub (a : Option Addr) (l c s : Nat) : blockOf (subA a l c s) = blockOf a := by
  unfold subA
  split
  · rfl
  · cases a with
    | none => rfl
    | some p => simp only [Option.map_some, blockOf]; congr 1; unfold Addr.add; split <;> rfl
/-- x[:h], with its block. -/
theorem owp_sl_hiA {P : Program} {w : World} {o : Oper} {f : Act} {K : Act → World → Prop} {Q : Exit → Act → World → Prop} (xO hO : Operand) {t : TypeId}
    (ho : o.op = .slice t xO none (some hO) none) {e s b : Nat} {z : Value} (E : Elem P t e s b z) {a : Option Addr} {n c : Nat} {xs : List Value} (hx : f.eval xO = .slice a n c) (hr : Row w a n c s xs)
    (h : Nat) {kh : IntKind} {H : Int} (hh : f.eval hO = .int kh H) (hH : H = (h : Int)) (hhn : h ≤ n)
    (hk : ∀ a', blockOf a' = blockOf a → Row w a' h c s (xs.take (h * s)) → K (f.put o.dst (.slice a' h c)) w) : o.wp P f w K Q := by
  subst hH
  unfold Oper.wp
  simp [execOp, ho, hx, hh, Instr.sliceAt, run_underlying E.und, run_sl_hi E a n c kh h (by have := hr.le; omega), Result.andThen]
  refine hk _ (blockOf_sub _ _ _ _) ?_
  have h := hr.sub 0 h (Nat.zero_le _) hhn
  simpa using h
/-- []byte("..") of a constant: the literal's slice, its block marked. -/
theorem owp_cc {P : Program} {w : World} {o : Oper} {f : Act} {K : Act → World → Prop} {Q : Exit → Act → World → Prop} (xO : Operand) {t e : TypeId} (ho : o.op = .convert t t xO) {g n c : Nat} (hx : f.eval xO = .slice (some ⟨g, 0, none⟩) n c)
    (ht : P.underlying t = some (.slice e)) (he : P.underlying e = some (.int .u8)) {C : Array Value} (hg : w.heap[g]? = some (.cells C e (0, 0)))
    (h : ∀ w', w'.heap[g]? = some (.cells C e (C.size, C.size + 1)) → w.grownBy w' (some g) → K (f.put o.dst (.slice (some ⟨g, 0, none⟩) n c)) w') : o.wp P f w K Q := by
  have hsh : w.shape? g = some (e, C.size) := by unfold World.shape?; rw [hg]
  have hrun : (convert t t (.slice (some ⟨g, 0, none⟩) n c)).run P w = .ok (.slice (some ⟨g, 0, none⟩) n c) (w.freeze ⟨g, C.size, none⟩ 1) := by
    simp [convert, run_underlying ht, run_underlying he, markStringish, hsh]
  have hlt : g < w.heap.size := (Array.getElem?_eq_some_iff.1 hg).1
  have hfz : (w.freeze ⟨g, C.size, none⟩ 1).heap[g]? = some (.cells C e (C.size, C.size + 1)) := by
    unfold World.freeze
    rw [if_neg (by decide)]
    simp [Array.getElem?_modify, hg]
  have hgr : w.grownBy (w.freeze ⟨g, C.size, none⟩ 1) (some g) := by
    unfold World.freeze
    rw [if_neg (by decide)]
    exact ⟨rfl, rfl, rfl, by simp, fun k _ hk => by
      simp only [Array.getElem?_modify]
      rw [if_neg (fun e => hk (by rw [e]))]⟩
  unfold Oper.wp execOp
  simp only [ho, hx, hrun, Sem.run_bind, Sem.run_pure, Result.andThen_ok]
  exact h _ hfz hgr
theorem wp_weaken' {P : Program} {o : Oper} {a : Act} {w : World} {K K' : Act → World → Prop} {Q Q' : Exit → Act → World → Prop} (h : ∀ a w, K a w → K' a w) (hq : ∀ e a w, e ≠ .normal → Q e a w → Q' e a w)
    (hh : o.wp P a w K Q) : o.wp P a w K' Q' := by
  unfold Oper.wp at *
  generalize (execOp a.eval o).run P w = r at *
  cases r with
  | ok n w' =>
    cases n <;> simp only [Oper.upon] at hh ⊢ <;>
      first
        | exact h _ _ hh
        | exact Calls.mono hh (fun e w'' he => by
            cases e <;> first | exact h _ _ he | exact hq _ _ _ (fun h => by cases h) he | (obtain ⟨a0, w0, h0⟩ := he; exact ⟨a0, w0, hq _ _ _ (fun h => by cases h) h0⟩))
        | exact Rows.mono hh (fun _ _ he => h _ _ he)
  | halt x w' => cases x <;> simp only [Oper.upon] at hh ⊢ <;> first | exact hq _ _ _ (fun h => by cases h) hh | exact hh
theorem owp_of_list {P : Program} {ops : Array Oper} {o : Oper} {a : Act} {w : World} {K : Act → World → Prop} {Q : Exit → Act → World → Prop} (hg : o.guard = none)
    (h : wpList P ops (fun e a w => e = .normal ∧ K a w) [o] a w) : o.wp P a w K Q := by
  unfold wpList at h
  rw [if_pos (by simp [Region.wanted, hg])] at h
  rcases h with h | ⟨-, -, -, h, -⟩
  · exact wp_weaken' (fun a w h => h.2) (fun e a w he h => absurd h.1 he) h
  · cases h
theorem owp_appF {P : Program} {w : World} {o : Oper} {f : Act} {K : Act → World → Prop} {Q : Exit → Act → World → Prop} (hgd : o.guard = none) (sO xO : Operand) {t : TypeId}
    (ho : o.op = .call { callee := .builtin .append, args := #[sO, xO], argTypes := #[t, t] })
    {e s b : Nat} {z : Value} (E : Elem P t e s b z) {B : Nat} {a : Option Addr} {n c : Nat} {xs : List Value} (hs : f.eval sO = .slice a n c) (hown : OwnF w B e s a n c xs)
    {xa : Option Addr} {m xc : Nat} {news : List Value} (hx : f.eval xO = .slice xa m xc) (hrow : Row w xa m xc s news) (h1 : ∀ u ∈ news, u.oneCell' = true) (hm0 : 0 < m)
    (hb : (n + m) * b ≤ 140737488355328) (hm : n + m ≤ maxLen) (hB : B ≤ w.heap.size)
    (h : ∀ a' c' w', w'.ownsRow B e s (.slice a' (n + m) c') (n + m) (xs ++ news) → Below B w w' → K (f.put o.dst (.slice a' (n + m) c')) w') : o.wp P f w K Q :=
  owp_of_list (ops := #[]) hgd (wpList_appF hgd sO xO ho E hs hown hx hrow h1 hm0 hb hm hB fun a' c' w' h2 h3 => ⟨rfl, h a' c' w' h2 h3⟩)
theorem own_fresh {w : World} {B e s n c : Nat} {a : Option Addr} {xs : List Value} (h : w.ownsRow B e s (.slice a n c) n xs) : ∀ p, a = some p → B ≤ p.block := fun p hp => (own_block (k := p.block) h (by rw [hp]; rfl)).1
theorem grown_setRow (w : World) (g : Nat) (cs : Array Value) : w.grownBy (w.setRow g cs) (some g) :=
  ⟨rfl, rfl, rfl, by simp [World.setRow], fun k _ hk => setRow_other w g k _ (fun e => hk (by rw [e]))⟩
theorem Ext.setRow {w w' : World} {g : Nat} {cs : Array Value} (h : Ext w w') (hg : w.heap.size ≤ g) : Ext w (w'.setRow g cs) :=
  h.grown (grown_setRow w' g cs) h.size (fun k hk => by cases hk; exact hg)
theorem own_setRow {w : World} {B e s n c g : Nat} {a : Option Addr} {xs : List Value} {cs : Array Value} (h : w.ownsRow B e s (.slice a n c) n xs) (hg : blockOf a ≠ some g) : (w.setRow g cs).ownsRow B e s (.slice a n c) n xs :=
  h.kept (row := some g) (grown_setRow w g cs) (by
    rw [ownBlock_slice]
    cases ha : blockOf a with
    | none => simp
    | some b => rw [ha] at hg; simpa using hg)
theorem alloc_gt (w : World) (o : Obj) : w.heap.size < (w.alloc o).heap.size := by simp
theorem own_keepT {w w' : World} {B e s n c t : Nat} {a : Option Addr} {xs : List Value} (h : w.ownsRow B e s (.slice a n c) n xs) (hk : KeepT t w w') (ht : e ≠ t) : w'.ownsRow B e s (.slice a n c) n xs := by
  refine ⟨h.1, ?_⟩
  rcases h.2 with h2 | ⟨g, cap, cur, hv, hB, hg, r⟩
  · exact .inl h2
  · exact .inr ⟨g, cap, cur, hv, hB, hk _ _ _ _ ht hg, r⟩
theorem grown_ext {w w' : World} (h : Ext w w') : w.grownBy w' none := ⟨h.os, h.tape, h.output, h.size, fun k hk _ => h.block k hk⟩
theorem u8_bits (op : BinOp) (a b : Int) : ∃ x, Value.int .u8 (bits op .u8 a b) = u8 x := by
  obtain ⟨n, hn⟩ : ∃ n : Nat, bits op .u8 a b = IntKind.wrap .u8 n := ⟨_, rfl⟩
  have h : IntKind.wrap .u8 (n : Int) = ((n % 256 : Nat) : Int) := by simp [IntKind.wrap, IntKind.bits, IntKind.signed]
  rw [hn, h]
  exact ⟨UInt8.ofNat (n % 256), (u8_ofNat _ (Nat.mod_lt _ (by decide))).symm⟩
theorem grown_of_drew (w : World) (b : Nat) : w.grownBy w.drew (some b) := ⟨rfl, rfl, rfl, Nat.le_refl _, fun _ _ _ => rfl⟩
theorem results_c2 {fn : Func} {p t1 t2 : Tmp} {ty : TypeId} (h : fn.results = #[.cell p ty, .tmp t1, .tmp t2]) (tmps : Array Value) (g : Nat) (cs : List Value) (d : TypeDesc)
    (hp : tmps.getD p undef = .pointer (some ⟨g, 0, none⟩)) (hc : w.rangeAt g 0 cs)
    (hu : P.underlying ty = some d) (hd : d.isRow = true) (hi : (P.info? ty).map (·.size) = some cs.length) :
    (results fn tmps).run P w = .ok (.tuple #[.agg cs.toArray, tmps.getD t1 undef, tmps.getD t2 undef]) w := by
  have hp' : tmps[p]?.getD undef = .pointer (some ⟨g, 0, none⟩) := by simpa using hp
  simp [results, h, hp', asAddr, run_loadVar_mid w g 0 ty cs d hc hu hd hi]
theorem range_of_heap {w : World} {g : Nat} {x y z : Value} {t : TypeId} {fr : Nat × Nat} (h : w.heap[g]? = some (.cells #[x, y, z] t fr)) : w.rangeAt g 0 [x, y, z] := fun j v hj => by
  rw [Nat.zero_add, cell_of_row _ _ _ _ _ _ h, ← hj]; simp
/-- The operation at hand stores at the address in slot k. -/
theorem atStore {P : Program} {ops : Array Oper} {Q : Exit → Act → World → Prop} {rest : List Oper} {a : Act} {w : World} (k : Nat) {sty : TypeId} {v : Operand} {ty : TypeId} {pos : String} {af : Array Edge} {gd : Option (Nat × Bool)}
    (h : wpList P ops Q (⟨none, .store sty (.tmp k) v, ty, pos, af, gd⟩ :: rest) a w) : wpList P ops Q (⟨none, .store sty (.tmp k) v, ty, pos, af, gd⟩ :: rest) a w := h
theorem own_there {w : World} {B e s n c g i m : Nat} {xs : List Value} (h : w.ownsRow B e s (.slice (some ⟨g, 0, none⟩) n c) n xs) (hi : i + m ≤ n * s) : w.there g i m := fun j hj => by
  obtain ⟨g', cur, h1, h2, h3, _, h4⟩ := own_some h (Nat.pos_of_ne_zero fun h0 => by subst h0; omega)
  obtain rfl : g = g' := by simpa using h1
  have hl := h.1
  refine ⟨?_, frozen_none h3 _⟩
  rw [cell_of_row w g _ _ _ _ h3, h4 _ (by omega), List.getElem?_eq_getElem (by omega)]
  rfl
theorem Row.apart {w w' : World} {a : Option Addr} {n c s g : Nat} {xs : List Value} (h : Row w a n c s xs) (hg : w.grownBy w' (some g)) (hne : ∀ p, a = some p → p.block ≠ g) : Row w' a n c s xs :=
  ⟨h.len, h.le, h.max, h.nil, h.at_, fun p hp j u hj => by
    have hc := h.cell p hp j u hj
    have hlt := World.block_lt_of_cell? w _ hc
    have hb : (p.add j).block = p.block := by unfold Addr.add; split <;> rfl
    rw [World.cell?_of_block (hg.block _ hlt (by rw [hb]; intro h; exact hne p hp (by simpa using h)))]
    exact hc⟩
theorem set_u8 (l : List UInt8) (i : Nat) (y : UInt8) : (l.map u8).set i (u8 y) = (l.set i y).map u8 := by rw [List.map_set]
theorem range_of_heap2 {w : World} {g : Nat} {x y : Value} {t : TypeId} {fr : Nat × Nat} (h : w.heap[g]? = some (.cells #[x, y] t fr)) : w.rangeAt g 0 [x, y] := fun j v hj => by
  rw [Nat.zero_add, cell_of_row _ _ _ _ _ _ h, ← hj]; simp
/-- append of nothing to a slice that is there. -/
theorem run_app0 {P : Program} {w : World} {t e s b : Nat} {z : Value} (E : Elem P t e s b z) (ty : TypeId) (bb oo n c : Nat) (hnc : n ≤ c) (xa : Option Addr) (xc : Nat) :
    (Builtin.append_ #[t, t] ty #[.slice (some ⟨bb, oo, none⟩) n c, .slice xa 0 xc]).run P w = .ok (.slice (some ⟨bb, oo, none⟩) n c) w := by
  obtain ⟨i, hi, hz0, hz1, hz2⟩ := info_parts E.info
  cases xa with
  | some p =>
    have h := run_append_room_cells (P := P) w t ty e i E.und hi bb oo n c p 0 xc [] (by simp) (by simp) (by simp) hnc (by simp) (by simp)
    simpa [World.setCells] using h
  | none =>
    simp [Builtin.append_, run_underlying E.und, sizeOf, typeInfo, hi, Builtin.lenOf, hnc, run_firstCells_none]
    rw [show storeCells ((⟨bb, oo, none⟩ : Addr).add (n * i.size)) [] = pure () from rfl]
    rfl
theorem wpList_app0 {P : Program} {w : World} {ops : Array Oper} {rest : List Oper} {o : Oper} {f : Act} {Q : Exit → Act → World → Prop} (hgd : o.guard = none) (sO xO : Operand) {t : TypeId}
    (ho : o.op = .call { callee := .builtin .append, args := #[sO, xO], argTypes := #[t, t] })
    {e s b : Nat} {z : Value} (E : Elem P t e s b z) {bb oo n c : Nat} (hs : f.eval sO = .slice (some ⟨bb, oo, none⟩) n c) (hnc : n ≤ c) {xa : Option Addr} {xc : Nat} (hx : f.eval xO = .slice xa 0 xc)
    (h : wpList P ops Q rest (f.put o.dst (.slice (some ⟨bb, oo, none⟩) n c)) w) : wpList P ops Q (o :: rest) f w :=
  wpList_plain hgd fun _ hK => by
    have hr := run_app0 (w := w) E o.type bb oo n c hnc xa xc
    unfold Oper.wp execOp
    simp only [ho, resolve, invoke, builtin, Sem.run_bind, Sem.run_pure, Result.andThen_ok, List.map_toArray, List.map_cons, List.map_nil, hs, hx, hr]
    exact hK _ _ h
theorem wpList_appR {P : Program} {w : World} {ops : Array Oper} {rest : List Oper} {o : Oper} {f : Act} {Q : Exit → Act → World → Prop} (hgd : o.guard = none) (sO xO : Operand) {t : TypeId}
    (ho : o.op = .call { callee := .builtin .append, args := #[sO, xO], argTypes := #[t, t] })
    {e s b : Nat} {z : Value} (E : Elem P t e s b z) {B bb oo n : Nat} {xs : List Value} (hs : f.eval sO = .slice (some ⟨bb, oo, none⟩) n n) (hbb : B ≤ bb) (hr : Row w (some ⟨bb, oo, none⟩) n n s xs)
    {xa : Option Addr} {m xc : Nat} {news : List Value} (hx : f.eval xO = .slice xa m xc) (hrow : Row w xa m xc s news) (h1 : ∀ u ∈ news, u.oneCell' = true)
    (hb : (n + m) * b ≤ 140737488355328) (hm : n + m ≤ maxLen) (hB : B ≤ w.heap.size)
    (h : ∀ a' c' w', Row w' a' (n + m) c' s (xs ++ news) → (∀ p, a' = some p → B ≤ p.block) → Below B w w' → wpList P ops Q rest (f.put o.dst (.slice a' (n + m) c')) w') : wpList P ops Q (o :: rest) f w := by
  by_cases hm0 : 0 < m
  · exact wpList_appF hgd sO xO ho E hs (.inr ⟨rfl, hr⟩) hx hrow h1 hm0 hb hm hB fun a' c' w' h2 h3 => h a' c' w' (Row.of_own h2) (own_fresh h2) h3
  · obtain rfl : m = 0 := by omega
    obtain rfl : news = [] := List.eq_nil_of_length_eq_zero (by simpa using hrow.len)
    refine wpList_app0 hgd sO xO ho E hs (Nat.le_refl _) hx ?_
    exact h (some ⟨bb, oo, none⟩) n w (by simpa using hr) (fun p hp => by cases hp; exact hbb) (Below.refl _ _)
def LRel (w : World) (n : Nat) (i : Value) (wr : World) : Prop := ∃ j : Nat, i = .int .i64 j ∧ j ≤ n ∧ Ext w wr
end Go.Proofs.YtejljmikammcdaaGreatDoor
