/-
  Lists of chunks in memory; the frame of a chunk.
-/
import Derived.Test.YtncdcpaelecikaaPackD
namespace Go.Proofs.Ytncdcpaelecikaa
open Go.RowKit

structure Ck where
  s : Nat
  z : Int
  a : Option Addr
  n : Nat
  c : Nat
  l : List UInt8
def Ck.cells (k : Ck) : List Value := [.int .u64 k.s, .int .i64 k.z, .slice k.a k.n k.c]
/-- The chunk's bytes lie in memory. -/
def Ck.In (w : World) (k : Ck) : Prop := Bytes w k.a k.n k.c k.l ∧ k.n ≤ 140737488355328 ∧ (k.s : Int) ≤ 18446744073709551615
/-- A list of chunks. -/
def Chunks (w : World) (a : Option Addr) (n c : Nat) (L : List Ck) : Prop := L.length = n ∧ Row w a n c 3 (L.flatMap Ck.cells) ∧ ∀ k ∈ L, k.In w

theorem Chunks.ext {w w' : World} {a : Option Addr} {n c : Nat} {L : List Ck} (h : Chunks w a n c L) (hx : Ext w w') : Chunks w' a n c L :=
  ⟨h.1, h.2.1.ext hx, fun k hk => ⟨(h.2.2 k hk).1.ext hx, (h.2.2 k hk).2⟩⟩
theorem cells_get {L : List Ck} {i : Nat} {k : Ck} (h : L[i]? = some k) : ∀ j, j < 3 → (L.flatMap Ck.cells)[i * 3 + j]? = k.cells[j]? := by
  induction L generalizing i with
  | nil => cases h
  | cons x L ih =>
    intro j hj
    rw [List.flatMap_cons]
    cases i with
    | zero =>
      cases h
      rw [Nat.zero_mul, Nat.zero_add, List.getElem?_append_left (by simp [Ck.cells]; omega)]
    | succ i =>
      rw [List.getElem?_append_right (by simp [Ck.cells]; omega), ← ih (i := i) (by simpa using h) j hj]
      congr 1
      simp [Ck.cells]
      omega

def frameB (s : Nat) (z : Nat) (l : List UInt8) : List UInt8 := 1 :: (enc z ++ enc s ++ l)

set_option maxRecDepth 100000 in
set_option maxHeartbeats 1000000 in
theorem Frame_any (s z : Nat) (a : Option Addr) (n c : Nat) (l : List UInt8) (w : World) (hb : Bytes w a n c l) (hn : n ≤ 140737488355300) (hs : (s : Int) ≤ 18446744073709551615) (hz : (z : Int) ≤ 8192) :
    Calls Try.prog 21 #[.agg #[.int .u64 s, .int .i64 z, .slice a n c]] w (NewBytes w (frameB s z l)) := by
  have he1 := enc_le10 (v := s) (by omega)
  have he2 := enc_le10 (v := z) (by omega)
  have hwA := heap_alloc_new w (.cells #[.int .u64 s, .int .i64 z, .slice a n c] 46)
  have hzA : (w.alloc (.cells #[.int .u64 s, .int .i64 z, .slice a n c] 46)).heap.size = w.heap.size + 1 := by simp
  have HwA := Lib.hid hwA
  have HzA := Lib.hid hzA
  clear hwA hzA
  have hlitA := own_lit (w.alloc (.cells #[.int .u64 s, .int .i64 z, .slice a n c] 46)) #[.int .u8 1] (w.alloc (.cells #[.int .u64 s, .int .i64 z, .slice a n c] 46)).heap.size 5 1 1 (Nat.le_refl _) (by decide) rfl
  rw [HzA.out] at hlitA
  have HlitA := Lib.hid hlitA
  clear hlitA
  go_enter Try.func21, Try.ntmps21
  have t1 : True := trivial
  go_wp2_with (first
    | (go_at_call 37; have _t := t1; (with_reducible refine (refUint_any z _ (by omega)).mono ?_); rintro e w1 ⟨a1, n1, c1, rfl, ho1, hx1⟩; clear t1; have hlit := own_ext HlitA.out hx1; have hz1 : w.heap.size + 1 ≤ w1.heap.size := (by have := hx1.size; have := HzA.out; simp at *; omega); have hA1 : Below (w.heap.size + 1) (w.alloc (.cells #[.int .u64 s, .int .i64 z, .slice a n c] 46)) w1 := ((Ext.alloc' _ _).trans' hx1).mono (by rw [HzA.out]; omega); have hn1 : n1 ≤ 10 := (by have := own_len ho1; omega))
    | (go_at_call 37; (with_reducible refine (refUint_any s _ (by omega)).mono ?_); rintro e w3 ⟨a3, n3, c3, rfl, ho3, hx3⟩; have ho2' := own_ext ho2 hx3; have hA3 := hA2.trans (hx3.mono hz2); have hn3 : n3 ≤ 10 := (by have := own_len ho3; omega); have hz3 : w.heap.size + 1 ≤ w3.heap.size := (by have := hx3.size; omega))
    | (at_builtin; with_reducible refine wpList_app (o := ⟨some 10, _, _, _, _, _⟩) rfl _ _ rfl Try.elB rfl hlit rfl (Row.of_own ho1) (u8_oneCell _) (by omega) (by unfold maxLen; omega) hz1 ?_; intro a2 c2 w2 ho2 hg2; have hA2 : Below (w.heap.size + 1) (w.alloc (.cells #[.int .u64 s, .int .i64 z, .slice a n c] 46)) w2 := below_app hA1 hlit hg2 hz1; have hz2 : w.heap.size + 1 ≤ w2.heap.size := (by have := hg2.size; omega); have hc2 := fun j => cell_of_row w2 w.heap.size j _ _ _ ((hA2.block w.heap.size (by omega)).trans HwA.out))
    | (at_builtin; with_reducible refine wpList_app (o := ⟨some 16, _, _, _, _, _⟩) rfl _ _ rfl Try.elB rfl ho2' rfl (Row.of_own ho3) (u8_oneCell _) (by omega) (by unfold maxLen; omega) hz3 ?_; intro a4 c4 w4 ho4 hg4; have hA4 : Below (w.heap.size + 1) (w.alloc (.cells #[.int .u64 s, .int .i64 z, .slice a n c] 46)) w4 := below_app hA3 ho2' hg4 hz3; have hz4 : w.heap.size + 1 ≤ w4.heap.size := (by have := hg4.size; omega); have hc4 := fun j => cell_of_row w4 w.heap.size j _ _ _ ((hA4.block w.heap.size (by omega)).trans HwA.out))
    | (at_builtin; with_reducible refine wpList_app (o := ⟨some 20, _, _, _, _, _⟩) rfl _ _ rfl Try.elB rfl ho4 rfl (hb.ext ((Ext.alloc' _ _).trans (hA4.mono (by omega)))).row (u8_oneCell _) (by omega) (by unfold maxLen; omega) hz4 ?_; intro a6 c6 w6 ho6 hg6; have hA6 : Below (w.heap.size + 1) (w.alloc (.cells #[.int .u64 s, .int .i64 z, .slice a n c] 46)) w6 := below_app hA4 ho4 hg6 hz4))
  go_ret
  refine ⟨a6, _, c6, rfl, ?_, (Ext.alloc' _ _).trans (hA6.mono (by omega))⟩
  have h := own_base ho6 (show w.heap.size ≤ w.heap.size + 1 by omega)
  have e : (frameB s z l).map u8 = #[Value.int .u8 1].toList ++ (enc z).map u8 ++ (enc s).map u8 ++ l.map u8 := by
    simp [frameB, u8]
  rw [e]
  exact h
end Go.Proofs.Ytncdcpaelecikaa
