/-
  Caches in memory: nodes, link, unlink.
-/
import Derived.Test.YtpiodpljiklfkaaGen
import Derived.Test.YtpiodpljiklfkaaRing
import Derived.Test.YtpiodpljiklfkaaMathS
namespace Go.Proofs.Ytpiodpljiklfkaa
open Go.RowKit

/-- Only blocks of F and new ones have changed. -/
structure Chg (F : List Nat) (w w' : World) : Prop where
  os : w'.os = w.os
  tape : w'.tape = w.tape
  output : w'.output = w.output
  size : w.heap.size ≤ w'.heap.size
  block : ∀ k, k < w.heap.size → k ∉ F → w'.heap[k]? = w.heap[k]?
theorem Chg.refl (F : List Nat) (w : World) : Chg F w w := ⟨rfl, rfl, rfl, Nat.le_refl _, fun _ _ _ => rfl⟩
theorem Chg.drew (F : List Nat) (w : World) : Chg F w w.drew := ⟨rfl, rfl, rfl, Nat.le_refl _, fun _ _ _ => rfl⟩
theorem Chg.trans2 {F F' : List Nat} {w w1 w2 : World} (h : Chg F w w1) (h2 : Chg F' w1 w2) (hF : ∀ k ∈ F', k ∈ F ∨ w.heap.size ≤ k) : Chg F w w2 :=
  ⟨h2.os.trans h.os, h2.tape.trans h.tape, h2.output.trans h.output, Nat.le_trans h.size h2.size, fun k hk hn =>
    (h2.block k (Nat.lt_of_lt_of_le hk h.size) (fun hm => by rcases hF k hm with h | h; exact hn h; omega)).trans (h.block k hk hn)⟩
theorem Chg.trans' {F : List Nat} {w w1 w2 : World} (h : Chg F w w1) (h2 : Chg F w1 w2) : Chg F w w2 := h.trans2 h2 fun _ h => .inl h
theorem Chg.mono {F F' : List Nat} {w w' : World} (h : Chg F w w') (hF : ∀ k ∈ F, k ∈ F') : Chg F' w w' := ⟨h.os, h.tape, h.output, h.size, fun k hk hn => h.block k hk fun h => hn (hF k h)⟩
theorem Chg.of_grown {F : List Nat} {w w' : World} {g : Nat} (h : w.grownBy w' (some g)) (hg : g ∈ F) : Chg F w w' := ⟨h.os, h.tape, h.output, h.size, fun k hk hn => h.block k hk fun e => hn (by cases e; exact hg)⟩
theorem Chg.of_ext {F : List Nat} {w w' : World} (h : Ext w w') : Chg F w w' := ⟨h.os, h.tape, h.output, h.size, fun k hk _ => h.block k hk⟩
theorem Chg.below {F : List Nat} {w w' : World} {B : Nat} (h : Chg F w w') (hF : ∀ k ∈ F, B ≤ k) (hB : B ≤ w.heap.size) : Below B w w' := ⟨h.os, h.tape, h.output, h.size, fun k hk => h.block k (by omega) fun hm => by have := hF k hm; omega⟩
theorem Chg.heap {F : List Nat} {w w' : World} {k : Nat} {o : Obj} (h : Chg F w w') (hk : w.heap[k]? = some o) (hn : k ∉ F) : w'.heap[k]? = some o := (h.block k (Array.getElem?_eq_some_iff.1 hk).1 hn).trans hk

theorem there_box' {w : World} {g i m : Nat} {cs : Array Value} {t : TypeId} (h : w.heap[g]? = some (.cells cs t (0, 0))) (hi : i + m ≤ cs.size) : w.there g i m := fun j hj => by
  refine ⟨?_, frozen_none h _⟩
  rw [cell_of_row w g _ _ _ _ h, Array.getElem?_eq_getElem (by omega)]
  rfl
def nodeCells (x : Nd) : Array Value := #[.pointer (some ⟨x.prev, 0, none⟩), .pointer (some ⟨x.next, 0, none⟩), .int .u64 x.s, .int .i64 x.z, .slice x.a x.n x.c, .int .i64 x.pins]
def NodeAt (w : World) (k : Nat) (x : Nd) : Prop := w.heap[k]? = some (.cells (nodeCells x) 81 (0, 0))
theorem NodeAt.prev {w : World} {k : Nat} {x : Nd} (h : NodeAt w k x) : w.cell? ⟨k, 0, none⟩ = some (.pointer (some ⟨x.prev, 0, none⟩)) := cell_of_row w k 0 _ _ _ h
theorem NodeAt.next {w : World} {k : Nat} {x : Nd} (h : NodeAt w k x) : w.cell? ⟨k, 1, none⟩ = some (.pointer (some ⟨x.next, 0, none⟩)) := cell_of_row w k 1 _ _ _ h
theorem NodeAt.bytes {w : World} {k : Nat} {x : Nd} (h : NodeAt w k x) : w.cell? ⟨k, 4, none⟩ = some (.slice x.a x.n x.c) := cell_of_row w k 4 _ _ _ h
theorem NodeAt.pins {w : World} {k : Nat} {x : Nd} (h : NodeAt w k x) : w.cell? ⟨k, 5, none⟩ = some (.int .i64 x.pins) := cell_of_row w k 5 _ _ _ h
theorem NodeAt.id {w : World} {k : Nat} {x : Nd} (h : NodeAt w k x) : w.rangeAt k 2 [.int .u64 x.s, .int .i64 x.z] := fun j v hj => by
  rw [cell_of_row w k (2 + j) _ _ _ h]
  rcases j with _ | _ | j
  · exact hj
  · exact hj
  · simp at hj
theorem NodeAt.set {w : World} {k j : Nat} {x x' : Nd} {v : Value} (h : NodeAt w k x) (hv : (nodeCells x).setIfInBounds j v = nodeCells x') : NodeAt (w.setCell ⟨k, j, none⟩ v) k x' := by
  unfold NodeAt at *
  rw [heap_setCell_same w k j _ _ v h, hv]
theorem NodeAt.other {w : World} {k b j : Nat} {x : Nd} {v : Value} (h : NodeAt w k x) (hb : k ≠ b) : NodeAt (w.setCell ⟨b, j, none⟩ v) k x := by
  unfold NodeAt at *
  rw [heap_setCell_other w ⟨b, j, none⟩ k v hb, h]
theorem NodeAt.there {w : World} {k j : Nat} {x : Nd} (h : NodeAt w k x) (hj : j < 6) : w.there k j 1 := there_box' h (by show j + 1 ≤ 6; omega)
theorem NodeAt.chg {F : List Nat} {w w' : World} {k : Nat} {x : Nd} (h : NodeAt w k x) (hc : Chg F w w') (hk : k ∉ F) : NodeAt w' k x := hc.heap h hk
theorem chg_set {F : List Nat} (w : World) {k j : Nat} {v : Value} (hk : k ∈ F) : Chg F w (w.setCell ⟨k, j, none⟩ v) := Chg.of_grown (grown_setCell' w k j v) hk

theorem nodes_setNext {w : World} {S : List Nat} {N : Nat → Nd} {a b : Nat} (h : ∀ k ∈ S, NodeAt w k (N k)) : ∀ k ∈ S, NodeAt (w.setCell ⟨a, 1, none⟩ (.pointer (some ⟨b, 0, none⟩))) k (setNext N a b k) := fun k hk => by
  unfold setNext
  by_cases e : k = a
  · subst e
    rw [if_pos rfl]
    exact (h k hk).set rfl
  · rw [if_neg e]
    exact (h k hk).other e
theorem nodes_setPrev {w : World} {S : List Nat} {N : Nat → Nd} {a b : Nat} (h : ∀ k ∈ S, NodeAt w k (N k)) : ∀ k ∈ S, NodeAt (w.setCell ⟨a, 0, none⟩ (.pointer (some ⟨b, 0, none⟩))) k (setPrev N a b k) := fun k hk => by
  unfold setPrev
  by_cases e : k = a
  · subst e
    rw [if_pos rfl]
    exact (h k hk).set rfl
  · rw [if_neg e]
    exact (h k hk).other e
theorem cell_set_other {w : World} {g k j i : Nat} {v u : Value} (h : w.cell? ⟨k, j, none⟩ = some u) (hne : k ≠ g) : (w.setCell ⟨g, i, none⟩ v).cell? ⟨k, j, none⟩ = some u :=
  (World.cell?_of_block (a := ⟨k, j, none⟩) (heap_setCell_other w ⟨g, i, none⟩ k v hne)).trans h
/-- Two pointers that stay. -/
def PQ (x a b : Nat) (w : World) : Prop := w.cell? ⟨x, 0, none⟩ = some (.pointer (some ⟨a, 0, none⟩)) ∧ w.cell? ⟨x, 1, none⟩ = some (.pointer (some ⟨b, 0, none⟩))
theorem PQ.set {x a b g j : Nat} {w : World} {v : Value} (h : PQ x a b w) (hg : x ≠ g) : PQ x a b (w.setCell ⟨g, j, none⟩ v) := ⟨cell_set_other h.1 hg, cell_set_other h.2 hg⟩
def UnPost (S : List Nat) (N : Nat → Nd) (w : World) (e : Ending) (w' : World) : Prop := e = .returned (.tuple #[]) ∧ (∀ k ∈ S, NodeAt w' k (N k)) ∧ Chg S w w'

set_option maxRecDepth 100000 in
set_option maxHeartbeats 4000000 in
theorem unlink_any (x : Nat) (N : Nat → Nd) (S : List Nat) (w : World) (hN : ∀ k ∈ S, NodeAt w k (N k)) (hx : x ∈ S) (ha : (N x).prev ∈ S) (hb : (N x).next ∈ S) (hax : (N x).prev ≠ x) (hbx : (N x).next ≠ x) :
    Calls Try.prog 58 #[.pointer (some ⟨x, 0, none⟩)] w (UnPost S (setPrev (setNext N (N x).prev (N x).next) (N x).next (N x).prev) w) := by
  obtain ⟨a, hae⟩ : ∃ a, a = (N x).prev := ⟨_, rfl⟩
  obtain ⟨b, hbe⟩ : ∃ b, b = (N x).next := ⟨_, rfl⟩
  rw [← hae] at ha hax ⊢
  rw [← hbe] at hb hbx ⊢
  have HP := Lib.hid ((hN x hx).prev)
  have HQ := Lib.hid ((hN x hx).next)
  rw [← hae] at HP
  rw [← hbe] at HQ
  have HN := Lib.hid hN
  have HA := Lib.hid ha
  have HB := Lib.hid hb
  have HAX := Lib.hid hax
  have HBX := Lib.hid hbx
  clear hae hbe hN ha hb hax hbx
  go_enter Try.func58, Try.ntmps58
  go_wp2
  have hR : PQ x a b w.drew := ⟨HP.out, HQ.out⟩
  refine wp_region_z (PQ x a b) hR [] (.qs [0, 1, 2, 3, 4, 5, 6, 7, 8, 9, 10, 11, 12, 13, 14, 15, 16, 17] (.l 18 (.qs [19, 20] (.l 21 .nil)))) (by kernel_rfl) (by kernel_rfl) ?_
  iterate 3 ((refine wpZ_q rfl rfl _ (fun w' hx' => by go_simp; try rfl) ?_; go_simp))
  refine wpZ_q rfl rfl (.pointer (some ⟨a, 0, none⟩)) (fun w' hx' => by have h1 := hx'.1; go_simp; try rfl) ?_
  go_simp
  iterate 3 ((refine wpZ_q rfl rfl _ (fun w' hx' => by go_simp; try rfl) ?_; go_simp))
  refine wpZ_q rfl rfl (.pointer (some ⟨b, 0, none⟩)) (fun w' hx' => by have h1 := hx'.2; go_simp; try rfl) ?_
  go_simp
  iterate 3 ((refine wpZ_q rfl rfl _ (fun w' hx' => by go_simp; try rfl) ?_; go_simp))
  refine wpZ_q rfl rfl (.pointer (some ⟨b, 0, none⟩)) (fun w' hx' => by have h1 := hx'.2; go_simp; try rfl) ?_
  go_simp
  iterate 3 ((refine wpZ_q rfl rfl _ (fun w' hx' => by go_simp; try rfl) ?_; go_simp))
  refine wpZ_q rfl rfl (.pointer (some ⟨a, 0, none⟩)) (fun w' hx' => by have h1 := hx'.1; go_simp; try rfl) ?_
  go_simp
  iterate 2 ((refine wpZ_q rfl rfl _ (fun w' hx' => by go_simp; try rfl) ?_; go_simp))
  have hN0 : ∀ k ∈ S, NodeAt w.drew k (N k) := HN.out
  refine wpZ_l rfl rfl (owp_st1 77 _ _ rfl a 1 (.pointer (some ⟨b, 0, none⟩)) rfl rfl rfl ((hN0 a HA.out).there (by decide)) (by kernel_rfl) rfl ?_)
  have hR1 := hR.set (g := a) (j := 1) (v := .pointer (some ⟨b, 0, none⟩)) (Ne.symm HAX.out)
  have hN1 := nodes_setNext (a := a) (b := b) hN0
  have hc1 : Chg S w (w.drew.setCell ⟨a, 1, none⟩ (.pointer (some ⟨b, 0, none⟩))) := (Chg.drew S w).trans' (chg_set _ HA.out)
  clear hN0
  generalize w.drew.setCell ⟨a, 1, none⟩ (.pointer (some ⟨b, 0, none⟩)) = w1 at hR1 hN1 hc1 ⊢
  refine ⟨fun _ => hR1, ?_⟩
  go_simp
  iterate 2 ((refine wpZ_q rfl rfl _ (fun w' hx' => by go_simp; try rfl) ?_; go_simp))
  refine wpZ_l rfl rfl (owp_st1 77 _ _ rfl b 0 (.pointer (some ⟨a, 0, none⟩)) rfl rfl rfl ((hN1 b HB.out).there (by decide)) (by kernel_rfl) rfl ?_)
  have hN2 := nodes_setPrev (a := b) (b := a) hN1
  have hc2 := hc1.trans' (chg_set (j := 0) (v := .pointer (some ⟨a, 0, none⟩)) w1 HB.out)
  refine ⟨fun _ => hR1.set (Ne.symm HBX.out), wpZ_nil ?_⟩
  go_wp2
  refine bodyPost_end (results_none rfl _ _ _) rfl ?_
  exact ⟨rfl, hN2, hc2⟩

/-- A node's cells, its neighbours whatever they are. -/
def rawCells (p q : Value) (x : Nd) : Array Value := #[p, q, .int .u64 x.s, .int .i64 x.z, .slice x.a x.n x.c, .int .i64 x.pins]
def RawAt (w : World) (k : Nat) (p q : Value) (x : Nd) : Prop := w.heap[k]? = some (.cells (rawCells p q x) 81 (0, 0))
theorem NodeAt.raw {w : World} {k : Nat} {x : Nd} (h : NodeAt w k x) : RawAt w k (.pointer (some ⟨x.prev, 0, none⟩)) (.pointer (some ⟨x.next, 0, none⟩)) x := h
theorem RawAt.there {w : World} {k j : Nat} {p q : Value} {x : Nd} (h : RawAt w k p q x) (hj : j < 6) : w.there k j 1 := there_box' h (by show j + 1 ≤ 6; omega)
theorem RawAt.set0 {w : World} {k : Nat} {p q v : Value} {x : Nd} (h : RawAt w k p q x) : RawAt (w.setCell ⟨k, 0, none⟩ v) k v q x := by
  unfold RawAt at *
  rw [heap_setCell_same w k 0 _ _ v h]
  rfl
theorem RawAt.set1 {w : World} {k : Nat} {p q v : Value} {x : Nd} (h : RawAt w k p q x) : RawAt (w.setCell ⟨k, 1, none⟩ v) k p v x := by
  unfold RawAt at *
  rw [heap_setCell_same w k 1 _ _ v h]
  rfl
/-- The nodes when p has been put in as the last one. -/
def linkN (N : Nat → Nd) (h p : Nat) (x : Nd) : Nat → Nd := fun k => if k = p then { x with prev := (N h).prev, next := h } else setPrev (setNext N (N h).prev p) h p k
def cacheCells (room : Int) (total : Int) (m e : Nat) : Array Value := #[.int .i64 room, .int .i64 total, .map (some m), .pointer (some ⟨e, 0, none⟩)]
def BoxAt (w : World) (c : Nat) (room total : Int) (m e : Nat) : Prop := w.heap[c]? = some (.cells (cacheCells room total m e) 79 (0, 0))
theorem BoxAt.room {w : World} {c m e : Nat} {r t : Int} (h : BoxAt w c r t m e) : w.cell? ⟨c, 0, none⟩ = some (.int .i64 r) := cell_of_row w c 0 _ _ _ h
theorem BoxAt.total {w : World} {c m e : Nat} {r t : Int} (h : BoxAt w c r t m e) : w.cell? ⟨c, 1, none⟩ = some (.int .i64 t) := cell_of_row w c 1 _ _ _ h
theorem BoxAt.map {w : World} {c m e : Nat} {r t : Int} (h : BoxAt w c r t m e) : w.cell? ⟨c, 2, none⟩ = some (.map (some m)) := cell_of_row w c 2 _ _ _ h
theorem BoxAt.ends {w : World} {c m e : Nat} {r t : Int} (h : BoxAt w c r t m e) : w.cell? ⟨c, 3, none⟩ = some (.pointer (some ⟨e, 0, none⟩)) := cell_of_row w c 3 _ _ _ h
theorem BoxAt.chg {F : List Nat} {w w' : World} {c m e : Nat} {r t : Int} (h : BoxAt w c r t m e) (hc : Chg F w w') (hk : c ∉ F) : BoxAt w' c r t m e := hc.heap h hk
theorem box_node {w : World} {c m e k : Nat} {r t : Int} {p q : Value} {x : Nd} (h : BoxAt w c r t m e) (hk : RawAt w k p q x) : c ≠ k := fun e => by
  subst e
  have h1 := h.symm.trans hk
  simp only [Option.some.injEq, Obj.cells.injEq] at h1
  exact absurd h1.2.1 (by decide)
def EQ (c e a : Nat) (w : World) : Prop := w.cell? ⟨c, 3, none⟩ = some (.pointer (some ⟨e, 0, none⟩)) ∧ w.cell? ⟨e, 0, none⟩ = some (.pointer (some ⟨a, 0, none⟩))
theorem EQ.set {c e a g j : Nat} {w : World} {v : Value} (h : EQ c e a w) (h1 : c ≠ g) (h2 : e ≠ g) : EQ c e a (w.setCell ⟨g, j, none⟩ v) := ⟨cell_set_other h.1 h1, cell_set_other h.2 h2⟩
/-- link: x, whatever its neighbours were, comes last. -/
def LiPost (S : List Nat) (N : Nat → Nd) (x e : Nat) (nx : Nd) (w : World) (en : Ending) (w' : World) : Prop :=
  en = .returned (.tuple #[]) ∧ (∀ k ∈ x :: S, NodeAt w' k (linkN N e x nx k)) ∧ Chg (x :: S) w w'

set_option maxRecDepth 100000 in
set_option maxHeartbeats 4000000 in
theorem link_any (c x e m : Nat) (r t : Int) (p q : Value) (nx : Nd) (N : Nat → Nd) (S : List Nat) (w : World) (hc : BoxAt w c r t m e) (hN : ∀ k ∈ S, NodeAt w k (N k)) (he : e ∈ S) (hx : RawAt w x p q nx) (hxS : x ∉ S) (ha : (N e).prev ∈ S) :
    Calls Try.prog 59 #[.pointer (some ⟨c, 0, none⟩), .pointer (some ⟨x, 0, none⟩)] w (LiPost S N x e nx w) := by
  obtain ⟨a, hae⟩ : ∃ a, a = (N e).prev := ⟨_, rfl⟩
  rw [← hae] at ha
  have hex : e ≠ x := fun h => hxS (h ▸ he)
  have hax : a ≠ x := fun h => hxS (h ▸ ha)
  have hcx : c ≠ x := box_node hc hx
  have HP := Lib.hid ((hN e he).prev)
  rw [← hae] at HP
  have HC := Lib.hid hc.ends
  have HN := Lib.hid hN
  have HA := Lib.hid ha
  have HE := Lib.hid he
  have HX := Lib.hid hx
  have HAE := Lib.hid hae
  have HEX := Lib.hid hex
  have HAX := Lib.hid hax
  have HCX := Lib.hid hcx
  have HXS := Lib.hid hxS
  clear hN ha he hx hae hex hax hcx hc hxS
  go_enter Try.func59, Try.ntmps59
  go_wp2
  have hR : EQ c e a w.drew := ⟨HC.out, HP.out⟩
  refine wp_region_z (EQ c e a) hR [] (.qs [0, 1, 2, 3, 4, 5, 6, 7, 8, 9, 10, 11, 12, 13, 14] (.l 15 (.qs [16, 17] (.l 18 .nil)))) (by kernel_rfl) (by kernel_rfl) ?_
  iterate 5 ((refine wpZ_q rfl rfl _ (fun w' hx' => by go_simp; try rfl) ?_; go_simp))
  refine wpZ_q rfl rfl (.pointer (some ⟨e, 0, none⟩)) (fun w' hx' => by have h1 := hx'.1; go_simp; try rfl) ?_
  go_simp
  iterate 2 ((refine wpZ_q rfl rfl _ (fun w' hx' => by go_simp; try rfl) ?_; go_simp))
  refine wpZ_q rfl rfl (.pointer (some ⟨a, 0, none⟩)) (fun w' hx' => by have h1 := hx'.2; go_simp; try rfl) ?_
  go_simp
  iterate 3 ((refine wpZ_q rfl rfl _ (fun w' hx' => by go_simp; try rfl) ?_; go_simp))
  refine wpZ_q rfl rfl (.pointer (some ⟨e, 0, none⟩)) (fun w' hx' => by have h1 := hx'.1; go_simp; try rfl) ?_
  go_simp
  iterate 2 ((refine wpZ_q rfl rfl _ (fun w' hx' => by go_simp; try rfl) ?_; go_simp))
  have hX0 : RawAt w.drew x p q nx := HX.out
  refine wpZ_l rfl rfl (owp_st1 77 _ _ rfl x 0 (.pointer (some ⟨a, 0, none⟩)) rfl rfl rfl (hX0.there (by decide)) (by kernel_rfl) rfl ?_)
  have hR1 := hR.set (g := x) (j := 0) (v := .pointer (some ⟨a, 0, none⟩)) HCX.out HEX.out
  have hX1 := hX0.set0 (v := .pointer (some ⟨a, 0, none⟩))
  have hN1 : ∀ k ∈ S, NodeAt (w.drew.setCell ⟨x, 0, none⟩ (.pointer (some ⟨a, 0, none⟩))) k (N k) := fun k hk => NodeAt.other (w := w.drew) (HN.out k hk) (fun h => HXS.out (h ▸ hk))
  have hc1 : Chg (x :: S) w (w.drew.setCell ⟨x, 0, none⟩ (.pointer (some ⟨a, 0, none⟩))) := (Chg.drew _ w).trans' (chg_set _ (List.mem_cons_self ..))
  clear hX0 hR
  generalize w.drew.setCell ⟨x, 0, none⟩ (.pointer (some ⟨a, 0, none⟩)) = w1 at hR1 hN1 hc1 hX1 ⊢
  refine ⟨fun _ => hR1, ?_⟩
  go_simp
  iterate 2 ((refine wpZ_q rfl rfl _ (fun w' hx' => by go_simp; try rfl) ?_; go_simp))
  refine wpZ_l rfl rfl (owp_st1 77 _ _ rfl x 1 (.pointer (some ⟨e, 0, none⟩)) rfl rfl rfl (hX1.there (by decide)) (by kernel_rfl) rfl ?_)
  have hR2 := hR1.set (g := x) (j := 1) (v := .pointer (some ⟨e, 0, none⟩)) HCX.out HEX.out
  have hX2 := hX1.set1 (v := .pointer (some ⟨e, 0, none⟩))
  have hN2 : ∀ k ∈ S, NodeAt (w1.setCell ⟨x, 1, none⟩ (.pointer (some ⟨e, 0, none⟩))) k (N k) := fun k hk => NodeAt.other (hN1 k hk) (fun h => HXS.out (h ▸ hk))
  have hc2 := hc1.trans' (chg_set (j := 1) (v := .pointer (some ⟨e, 0, none⟩)) w1 (List.mem_cons_self ..))
  generalize w1.setCell ⟨x, 1, none⟩ (.pointer (some ⟨e, 0, none⟩)) = w2 at hR2 hN2 hc2 hX2 ⊢
  refine ⟨fun _ => hR2, wpZ_nil ?_⟩
  clear hR1 hN1 hc1 hX1 hR2
  go_wp2
  have hQ : PQ x a e w2.drew := ⟨cell_of_row w2 x 0 _ _ _ hX2, cell_of_row w2 x 1 _ _ _ hX2⟩
  refine wp_region_z (PQ x a e) hQ [] (.qs [0, 1, 2, 3, 4, 5, 6, 7, 8, 9, 10, 11] (.l 12 (.qs [13, 14] (.l 15 .nil)))) (by kernel_rfl) (by kernel_rfl) ?_
  iterate 3 ((refine wpZ_q rfl rfl _ (fun w' hx' => by go_simp; try rfl) ?_; go_simp))
  refine wpZ_q rfl rfl (.pointer (some ⟨a, 0, none⟩)) (fun w' hx' => by have h1 := hx'.1; go_simp; try rfl) ?_
  go_simp
  iterate 3 ((refine wpZ_q rfl rfl _ (fun w' hx' => by go_simp; try rfl) ?_; go_simp))
  refine wpZ_q rfl rfl (.pointer (some ⟨e, 0, none⟩)) (fun w' hx' => by have h1 := hx'.2; go_simp; try rfl) ?_
  go_simp
  iterate 4 ((refine wpZ_q rfl rfl _ (fun w' hx' => by go_simp; try rfl) ?_; go_simp))
  have hN2' : ∀ k ∈ S, NodeAt w2.drew k (N k) := hN2
  have hX2' : RawAt w2.drew x (.pointer (some ⟨a, 0, none⟩)) (.pointer (some ⟨e, 0, none⟩)) nx := hX2
  refine wpZ_l rfl rfl (owp_st1 77 _ _ rfl a 1 (.pointer (some ⟨x, 0, none⟩)) rfl rfl rfl ((hN2' a HA.out).there (by decide)) (by kernel_rfl) rfl ?_)
  have hQ3 := hQ.set (g := a) (j := 1) (v := .pointer (some ⟨x, 0, none⟩)) (Ne.symm HAX.out)
  have hN3 := nodes_setNext (a := a) (b := x) hN2'
  have hX3 : RawAt (w2.drew.setCell ⟨a, 1, none⟩ (.pointer (some ⟨x, 0, none⟩))) x (.pointer (some ⟨a, 0, none⟩)) (.pointer (some ⟨e, 0, none⟩)) nx := (heap_setCell_other _ ⟨a, 1, none⟩ x _ (Ne.symm HAX.out)).trans hX2'
  have hc3 : Chg (x :: S) w (w2.drew.setCell ⟨a, 1, none⟩ (.pointer (some ⟨x, 0, none⟩))) := (hc2.trans' (Chg.drew _ w2)).trans' (chg_set _ (List.mem_cons_of_mem _ HA.out))
  clear hN2 hX2 hN2' hX2' hQ
  generalize w2.drew.setCell ⟨a, 1, none⟩ (.pointer (some ⟨x, 0, none⟩)) = w3 at hQ3 hN3 hX3 hc3 ⊢
  refine ⟨fun _ => hQ3, ?_⟩
  go_simp
  iterate 2 ((refine wpZ_q rfl rfl _ (fun w' hx' => by go_simp; try rfl) ?_; go_simp))
  refine wpZ_l rfl rfl (owp_st1 77 _ _ rfl e 0 (.pointer (some ⟨x, 0, none⟩)) rfl rfl rfl ((hN3 e HE.out).there (by decide)) (by kernel_rfl) rfl ?_)
  have hQ4 := hQ3.set (g := e) (j := 0) (v := .pointer (some ⟨x, 0, none⟩)) (Ne.symm HEX.out)
  have hN4 := nodes_setPrev (a := e) (b := x) hN3
  have hX4 : RawAt (w3.setCell ⟨e, 0, none⟩ (.pointer (some ⟨x, 0, none⟩))) x (.pointer (some ⟨a, 0, none⟩)) (.pointer (some ⟨e, 0, none⟩)) nx := (heap_setCell_other _ ⟨e, 0, none⟩ x _ (Ne.symm HEX.out)).trans hX3
  have hc4 := hc3.trans' (chg_set (j := 0) (v := .pointer (some ⟨x, 0, none⟩)) w3 (List.mem_cons_of_mem _ HE.out))
  refine ⟨fun _ => hQ4, wpZ_nil ?_⟩
  go_wp2
  refine bodyPost_end (results_none rfl _ _ _) rfl ?_
  refine ⟨rfl, fun k hk => ?_, hc4⟩
  unfold linkN
  by_cases hkx : k = x
  · subst hkx
    rw [if_pos rfl, ← HAE.out]
    exact hX4
  · rw [if_neg hkx, ← HAE.out]
    rcases List.mem_cons.1 hk with h | h
    · exact absurd h hkx
    · exact hN4 k h
end Go.Proofs.Ytpiodpljiklfkaa
