/-
  The reader of packs: mark, uint, bytes.
-/
import Derived.Test.YtncdcpaelecikaaPackG
import Derived.Test.YtncdcpaelecikaaOrdY
import Derived.Test.YtncdcpaelecikaaOwnS
namespace Go.Proofs.Ytncdcpaelecikaa
open Go.RowKit

/-- The reader in block g: the bytes' slice, the offset, the chunks' slice, the offset behind the last frame. -/
def RdC (V : Value) (at_ : Int) (C : Value) (good : Int) : Array Value := #[V, .int .i64 at_, C, .int .i64 good]
def Rd (w : World) (g : Nat) (V : Value) (at_ : Int) (C : Value) (good : Int) : Prop := w.heap[g]? = some (.cells (RdC V at_ C good) 71 (0, 0))

theorem Rd.ext {w w' : World} {g : Nat} {V C : Value} {at_ good : Int} (h : Rd w g V at_ C good) (hx : Ext w w') : Rd w' g V at_ C good := hx.heap' h
theorem Rd.set1 {w : World} {g : Nat} {V C : Value} {at_ good x : Int} (h : Rd w g V at_ C good) : Rd (w.setCell ⟨g, 1, none⟩ (.int .i64 x)) g V x C good := by
  unfold Rd RdC at *
  simp [World.setCell, Array.getElem?_modify, h]
theorem Rd.set3 {w : World} {g : Nat} {V C : Value} {at_ good x : Int} (h : Rd w g V at_ C good) : Rd (w.setCell ⟨g, 3, none⟩ (.int .i64 x)) g V at_ C x := by
  unfold Rd RdC at *
  simp [World.setCell, Array.getElem?_modify, h]
theorem Rd.set2 {w : World} {g : Nat} {V C X : Value} {at_ good : Int} (h : Rd w g V at_ C good) : Rd (w.setCell ⟨g, 2, none⟩ X) g V at_ X good := by
  unfold Rd RdC at *
  simp [World.setCell, Array.getElem?_modify, h]
theorem Rd.cells {w : World} {g : Nat} {V C : Value} {at_ good : Int} (h : Rd w g V at_ C good) : ∀ w' j, Ext w w' → w'.cell? ⟨g, j, none⟩ = #[V, .int .i64 at_, C, .int .i64 good][j]? := fun _ _ hx => cell_of_row _ _ _ _ _ _ (hx.heap' h)
theorem Rd.free {w : World} {g : Nat} {V C : Value} {at_ good : Int} (h : Rd w g V at_ C good) : ∀ w' j, Ext w w' → w'.frozen? ⟨g, j, none⟩ = false := fun _ _ hx => frozen_none (hx.heap' h) _
/-- Bytes that do not lie in block g stay. -/
theorem Bytes.apart {w w' : World} {a : Option Addr} {n c g : Nat} {l : List UInt8} (h : Bytes w a n c l) (hg : w.grownBy w' (some g)) (hne : ∀ p, a = some p → p.block ≠ g) : Bytes w' a n c l :=
  ⟨h.1, h.2.len, h.2.le, h.2.max, h.2.nil, h.2.at_, fun p hp j u hj => by
    have hc := h.2.cell p hp j u hj
    have hlt := World.block_lt_of_cell? w _ hc
    have hb : (p.add j).block = p.block := by unfold Addr.add; split <;> rfl
    rw [World.cell?_of_block (hg.block _ hlt (by rw [hb]; intro h; exact hne p hp (by simpa using h)))]
    exact hc⟩
theorem grown_drews (w : World) (b : Nat) : w.grownBy w.drew (some b) := ⟨rfl, rfl, rfl, Nat.le_refl _, fun _ _ _ => rfl⟩
theorem grown_extS {w w' : World} (b : Nat) (h : Ext w w') : w.grownBy w' (some b) := ⟨h.os, h.tape, h.output, h.size, fun k hk _ => h.block k hk⟩

/-- b[i] in a region. -/
theorem wpY_ixB {P : Program} {ops : Array Oper} {B : Nat} {w0 : World} {fr : List Nat} {Q : Act → World → Prop} {k : Nat} {l : XP} {a : Act} {w : World} {o : Oper} (ho : ops[k]? = some o) (hw : Region.wanted o (yielded ops a.tmps) = true) (xO iO : Operand) {t : TypeId}
    (hop : o.op = .indexAddr t xO iO) {e b : Nat} {z : Value} (E : Elem P t e 1 b z) {p : Option Addr} {n c : Nat} {xs : List UInt8} (hx : a.eval xO = .slice p n c) (hr : ∀ w', Below B w0 w' → Bytes w' p n c xs)
    (i : Nat) {kd : IntKind} {I : Int} (hi : a.eval iO = .int kd I) (hI : I = (i : Int)) (x : UInt8) (hin : xs[i]? = some x)
    (h : ∀ q, (∀ w', Below B w0 w' → w'.cell? q = some (.int .u8 (x.toNat : Int))) → wpY P ops B w0 fr Q l (a.put o.dst (.pointer (some q))) w) : wpY P ops B w0 fr Q (.q k l) a w := by
  obtain ⟨hil, hix⟩ := List.getElem?_eq_some_iff.1 hin
  refine wpY_ix ho hw xO iO hop E hx (fun w' h => (hr w' h).row) i hi hI (by have := (hr w0 (Below.refl _ _)).len; omega) fun b' o' hc => h _ fun w' hx' => ?_
  have := hc 0 (by decide) w' hx'
  rw [Nat.add_zero] at this
  rw [this, Nat.mul_one, Nat.add_zero, List.getElem?_map, hin]
  rfl
/-- What a method of the reader leaves: the value, the reader's new offset; nothing else has changed. -/
def RdPost (g : Nat) (V C : Value) (good : Int) (w : World) (v : Value) (at_ : Int) (e : Ending) (w' : World) : Prop := e = .returned v ∧ Rd w' g V at_ C good ∧ w.grownBy w' (some g)

set_option maxRecDepth 100000 in
set_option maxHeartbeats 1000000 in
theorem mark_end (g : Nat) (a : Option Addr) (n c : Nat) (C : Value) (at_ : Nat) (good : Int) (w : World) (hR : Rd w g (.slice a n c) at_ C good) (hat : n ≤ at_) :
    Calls Try.prog 63 #[.pointer (some ⟨g, 0, none⟩)] w (RdPost g (.slice a n c) C good w (.tuple #[.int .u8 0, .bool false]) at_) := by
  have hA0 := hR.cells
  go_enter Try.func63, Try.ntmps63
  go_wp2
  refine wp_region_e [] (.qs [0, 1, 2, 3, 4, 5, 6, 7, 8, 9] .nil) (by kernel_rfl) (by kernel_rfl) ?_
  iterate 10 ((refine wpY_q rfl rfl _ (fun w' hx' => by go_simp; try rfl) ?_; go_simp))
  refine wpY_nil ?_
  go_wp2
  go_ret2
  exact ⟨rfl, hR.ext (Ext.drew' _), grown_drews _ _⟩
set_option maxRecDepth 100000 in
set_option maxHeartbeats 1000000 in
theorem mark_some (g : Nat) (a : Option Addr) (n c : Nat) (C : Value) (at_ : Nat) (good : Int) (l : List UInt8) (x : UInt8) (w : World) (hR : Rd w g (.slice a n c) at_ C good) (hb : Bytes w a n c l) (hne : ∀ p, a = some p → p.block ≠ g)
    (hx : l[at_]? = some x) (hn : n ≤ 140737488355328) :
    Calls Try.prog 63 #[.pointer (some ⟨g, 0, none⟩)] w (RdPost g (.slice a n c) C good w (.tuple #[.int .u8 (x.toNat : Int), .bool true]) ((at_ : Int) + 1)) := by
  have hlt : at_ < n := by have := (List.getElem?_eq_some_iff.1 hx).1; have := hb.len; omega
  have HX := Lib.hid hx
  clear hx
  have hA0 := hR.cells
  have hR1 : Rd w.drew g (.slice a n c) at_ C good := hR.ext (Ext.drew' _)
  go_enter Try.func63, Try.ntmps63
  go_wp2
  refine wp_region_e [] (.qs [0, 1, 2, 3, 4, 5, 6, 7, 8, 9] .nil) (by kernel_rfl) (by kernel_rfl) ?_
  iterate 10 ((refine wpY_q rfl rfl _ (fun w' hx' => by go_simp; try rfl) ?_; go_simp))
  refine wpY_nil ?_
  have hb1 := hb.ext (Ext.drew' w)
  have hgd := grown_drews w g
  clear hA0
  generalize w.drew = w1 at hR1 hb1 hgd ⊢
  have hc1 := fun j => hR1.cells w1 j (Below.refl _ _)
  have hg1 := fun j => hR1.free w1 j (Below.refl _ _)
  go_wp2
  have hR2 : Rd (w1.setCell ⟨g, 1, none⟩ (.int .i64 ((at_ : Int) + 1))) g (.slice a n c) ((at_ : Int) + 1) C good := hR1.set1
  have hb2 : Bytes (w1.setCell ⟨g, 1, none⟩ (.int .i64 ((at_ : Int) + 1))) a n c l := hb1.apart (grown_setCell' _ _ _ _) hne
  have hg2 : w.grownBy (w1.setCell ⟨g, 1, none⟩ (.int .i64 ((at_ : Int) + 1))) (some g) := grown_trans' hgd (grown_setCell' _ _ _ _)
  clear hc1 hg1 hR1 hb1 hgd
  generalize w1.setCell ⟨g, 1, none⟩ (.int .i64 ((at_ : Int) + 1)) = w2 at hR2 hb2 hg2 ⊢
  have hA2 := hR2.cells
  refine wp_region_e [] (.qs [0, 1, 2, 3, 4, 5, 6, 7, 8, 9, 10, 11, 12] .nil) (by kernel_rfl) (by kernel_rfl) ?_
  iterate 9 ((refine wpY_q rfl rfl _ (fun w' hx' => by go_simp; try rfl) ?_; go_simp))
  refine wpY_ixB rfl rfl (.tmp 24) (.tmp 29) rfl Try.elB rfl (fun w' h => hb2.ext h) at_ rfl (by first | rfl | omega | (rw [IntKind.wrap_i64]; omega)) x HX.out ?_
  intro q hq
  iterate 3 ((refine wpY_q rfl rfl _ (fun w' hx' => by go_simp; try rfl) ?_; go_simp))
  refine wpY_nil ?_
  go_wp2
  go_ret2
  exact ⟨rfl, hR2.ext (Ext.drew' _), grown_trans' hg2 (grown_drews _ _)⟩

set_option maxRecDepth 100000 in
set_option maxHeartbeats 1000000 in
theorem posUint_ok (g : Nat) (a : Option Addr) (n c : Nat) (C : Value) (at_ : Nat) (good : Int) (l : List UInt8) (v nx : Nat) (w : World) (hR : Rd w g (.slice a n c) at_ C good) (hb : Bytes w a n c l)
    (h : uintRes l at_ = (v, (nx : Int), 0)) (hn : n ≤ 140737488355328) :
    Calls Try.prog 65 #[.pointer (some ⟨g, 0, none⟩)] w (RdPost g (.slice a n c) C good w (.tuple #[.int .u64 v, .bool true]) nx) := by
  have H := Lib.hid h
  clear h
  have hA0 := hR.cells
  have hR1 : Rd w.drew g (.slice a n c) at_ C good := hR.ext (Ext.drew' _)
  go_enter Try.func65, Try.ntmps65
  go_wp2
  refine wp_region_e [] (.qs [0, 1, 2, 3, 4, 5, 6, 7, 8, 9, 10, 11, 12, 13, 14, 15] .nil) (by kernel_rfl) (by kernel_rfl) ?_
  iterate 8 ((refine wpY_q rfl rfl _ (fun w' hx' => by go_simp; try rfl) ?_; go_simp))
  ((refine wpY_call rfl rfl _ _ _ (fun w' => by (try go_simp); first | done | rfl | exact ⟨rfl, rfl⟩ | exact ⟨rfl, rfl, rfl⟩) (fun w' hx' => Uint_as a n c l at_ w' (hb.ext hx') hn H.out) ?_; go_simp))
  iterate 7 ((refine wpY_q rfl rfl _ (fun w' hx' => by go_simp; try rfl) ?_; go_simp))
  refine wpY_nil ?_
  have hgd := grown_drews w g
  clear hA0
  generalize w.drew = w1 at hR1 hgd ⊢
  have hc1 := fun j => hR1.cells w1 j (Below.refl _ _)
  have hg1 := fun j => hR1.free w1 j (Below.refl _ _)
  go_wp2
  go_ret2
  exact ⟨rfl, hR1.set1, grown_trans' hgd (grown_setCell' _ _ _ _)⟩
set_option maxRecDepth 100000 in
set_option maxHeartbeats 1000000 in
theorem posUint_no (g : Nat) (a : Option Addr) (n c : Nat) (C : Value) (at_ : Nat) (good : Int) (l : List UInt8) (er : Int) (w : World) (hR : Rd w g (.slice a n c) at_ C good) (hb : Bytes w a n c l)
    (h : uintRes l at_ = (0, 0, er)) (he : (er == 0) = false) (hn : n ≤ 140737488355328) :
    Calls Try.prog 65 #[.pointer (some ⟨g, 0, none⟩)] w (RdPost g (.slice a n c) C good w (.tuple #[.int .u64 0, .bool false]) at_) := by
  have H := Lib.hid h
  clear h
  have hA0 := hR.cells
  have hR1 : Rd w.drew g (.slice a n c) at_ C good := hR.ext (Ext.drew' _)
  go_enter Try.func65, Try.ntmps65
  go_wp2
  refine wp_region_e [] (.qs [0, 1, 2, 3, 4, 5, 6, 7, 8, 9, 10, 11, 12, 13, 14, 15] .nil) (by kernel_rfl) (by kernel_rfl) ?_
  iterate 8 ((refine wpY_q rfl rfl _ (fun w' hx' => by go_simp; try rfl) ?_; go_simp))
  ((refine wpY_call rfl rfl _ _ _ (fun w' => by (try go_simp); first | done | rfl | exact ⟨rfl, rfl⟩ | exact ⟨rfl, rfl, rfl⟩) (fun w' hx' => Uint_as a n c l at_ w' (hb.ext hx') hn H.out) ?_; go_simp))
  iterate 7 ((refine wpY_q rfl rfl _ (fun w' hx' => by go_simp; try rfl) ?_; go_simp))
  refine wpY_nil ?_
  clear hA0
  go_wp2
  go_ret2
  exact ⟨rfl, hR1, grown_drews _ _⟩

set_option maxRecDepth 100000 in
theorem Clone_any (a : Option Addr) (n c : Nat) (l : List UInt8) (w : World) (hb : Bytes w a n c l) (hn : n ≤ 140737488355328) :
    Calls Try.prog 73 #[.slice a n c] w (NewBytes w l) := by
  cases a with
  | none =>
    have h1 := hb.2.nil rfl
    have h2 := hb.2.le
    obtain rfl : c = 0 := h1
    obtain rfl : n = 0 := by omega
    obtain rfl : l = [] := List.eq_nil_of_length_eq_zero hb.1
    have hq := Lib.run_eql_slice_nil (P := Try.prog) w 28 5 none 0 0 0 0 Try.underlying28
    go_enter Try.func73, Try.ntmps73
    go_wp2
    go_ret
    exact ⟨none, 0, 0, rfl, own_nil _ _ _ _, Below.refl _ _⟩
  | some p =>
    have hq := Lib.run_eql_slice_nil (P := Try.prog) w 28 5 (some p) n c 0 0 Try.underlying28
    go_enter Try.func73, Try.ntmps73
    go_wp2_with (at_builtin; with_reducible refine wpList_app rfl _ _ rfl Try.elB rfl (own_lit w #[] w.heap.size 5 0 1 (Nat.le_refl _) (by decide) rfl) rfl (hb.ext (Ext.alloc' _ _)).row (u8_oneCell _) (by omega) (by unfold maxLen; omega) (by simp) ?_; intro a1 c1 w1 ho1 hg1)
    go_ret
    refine ⟨a1, _, c1, rfl, ?_, ?_⟩
    · simpa using ho1
    · exact below_app (Ext.alloc' w _) (own_lit w #[] w.heap.size 5 0 1 (Nat.le_refl _) (by decide) rfl) hg1 (by simp)

set_option maxRecDepth 100000 in
set_option maxHeartbeats 1000000 in
theorem posBytes_no (g : Nat) (a : Option Addr) (n c : Nat) (C : Value) (at_ k : Nat) (good : Int) (w : World) (hR : Rd w g (.slice a n c) at_ C good) (hat : at_ ≤ n) (hk : n < at_ + k) (hn : n ≤ 140737488355328) :
    Calls Try.prog 71 #[.pointer (some ⟨g, 0, none⟩), .int .i64 k] w (RdPost g (.slice a n c) C good w (.tuple #[.slice none 0 0, .bool false]) at_) := by
  have hA0 := hR.cells
  have hat' : (at_ : Int) ≤ n := by omega
  have hwr : IntKind.i64.wrap ((n : Int) - at_) = (n : Int) - at_ := by rw [IntKind.wrap_i64]; omega
  have hd : decide ((n : Int) - at_ < k) = true := by simp; omega
  go_enter Try.func71, Try.ntmps71
  go_wp2
  refine wp_region_e [] (.qs [0, 1, 2, 3, 4, 5, 6, 7, 8, 9, 10, 11] .nil) (by kernel_rfl) (by kernel_rfl) ?_
  iterate 12 ((refine wpY_q rfl rfl _ (fun w' hx' => by go_simp; try rfl) ?_; go_simp))
  refine wpY_nil ?_
  clear hA0 hwr
  go_wp2
  go_ret2
  exact ⟨rfl, hR.ext (Ext.drew' _), grown_drews _ _⟩
def RdBytes (g : Nat) (V C : Value) (good : Int) (w : World) (k : Nat) (l : List UInt8) (at_ : Int) (e : Ending) (w' : World) : Prop :=
  ∃ (c' : Nat) (a' : Option Addr), e = .returned (.tuple #[.slice a' k c', .bool true]) ∧ w'.ownsRow w.heap.size 5 1 (.slice a' k c') k (l.map u8) ∧ Rd w' g V at_ C good ∧ w.grownBy w' (some g)
set_option maxRecDepth 100000 in
set_option maxHeartbeats 1000000 in
theorem posBytes_ok (g : Nat) (a : Option Addr) (n c : Nat) (C : Value) (at_ k : Nat) (good : Int) (l : List UInt8) (w : World) (hR : Rd w g (.slice a n c) at_ C good) (hb : Bytes w a n c l) (hne : ∀ p, a = some p → p.block ≠ g)
    (hk : at_ + k ≤ n) (hn : n ≤ 140737488355328) :
    Calls Try.prog 71 #[.pointer (some ⟨g, 0, none⟩), .int .i64 k] w (RdBytes g (.slice a n c) C good w k ((l.drop at_).take k) ((at_ : Int) + k)) := by
  have hA0 := hR.cells
  have hwr : IntKind.i64.wrap ((n : Int) - at_) = (n : Int) - at_ := by rw [IntKind.wrap_i64]; omega
  have hd : decide ((n : Int) - at_ < k) = false := by simp; omega
  have hR1 : Rd w.drew g (.slice a n c) at_ C good := hR.ext (Ext.drew' _)
  have hat' : (at_ : Int) ≤ n := by omega
  go_enter Try.func71, Try.ntmps71
  go_wp2
  refine wp_region_e [] (.qs [0, 1, 2, 3, 4, 5, 6, 7, 8, 9, 10, 11] .nil) (by kernel_rfl) (by kernel_rfl) ?_
  iterate 12 ((refine wpY_q rfl rfl _ (fun w' hx' => by go_simp; try rfl) ?_; go_simp))
  refine wpY_nil ?_
  have hb1 := hb.ext (Ext.drew' w)
  have hgd := grown_drews w g
  clear hA0 hd hwr
  generalize w.drew = w1 at hR1 hb1 hgd ⊢
  have hc1 := fun j => hR1.cells w1 j (Below.refl _ _)
  have hg1 := fun j => hR1.free w1 j (Below.refl _ _)
  go_wp2
  have hR2 : Rd (w1.setCell ⟨g, 1, none⟩ (.int .i64 ((at_ : Int) + k))) g (.slice a n c) ((at_ : Int) + k) C good := hR1.set1
  have hb2 : Bytes (w1.setCell ⟨g, 1, none⟩ (.int .i64 ((at_ : Int) + k))) a n c l := hb1.apart (grown_setCell' _ _ _ _) hne
  have hg2 : w.grownBy (w1.setCell ⟨g, 1, none⟩ (.int .i64 ((at_ : Int) + k))) (some g) := grown_trans' hgd (grown_setCell' _ _ _ _)
  clear hc1 hg1 hR1 hb1 hgd
  generalize w1.setCell ⟨g, 1, none⟩ (.int .i64 ((at_ : Int) + k)) = w2 at hR2 hb2 hg2 ⊢
  have hA2 := hR2.cells
  refine wp_region_e [] (.qs [0, 1, 2, 3, 4, 5, 6, 7, 8, 9, 10, 11, 12, 13, 14] (.l 15 (.qs [16, 17] .nil))) (by kernel_rfl) (by kernel_rfl) ?_
  iterate 14 ((refine wpY_q rfl rfl _ (fun w' hx' => by go_simp; try rfl) ?_; go_simp))
  refine wpY_sl rfl rfl (.tmp 29) (.tmp 35) (.tmp 39) rfl Try.elB rfl (fun w' h => (hb2.ext h).row) at_ k rfl rfl (by first | rfl | omega | (rw [IntKind.wrap_i64]; omega)) (by omega) (by omega) ?_
  intro a3 hr3
  refine wpY_l rfl rfl ?_
  go_simp
  have E2 : Ext w2 w2.drew := Ext.drew' _
  refine (Clone_any a3 k _ _ _ (Bytes.sub (hr3 _ E2)) (by omega)).mono ?_
  rintro e w4 ⟨a4, n4, c4, rfl, ho4, hx4⟩
  refine ⟨E2.trans' hx4, ?_⟩
  go_simp
  iterate 2 ((refine wpY_q rfl rfl _ (fun w' hx' => by go_simp; try rfl) ?_; go_simp))
  refine wpY_nil ?_
  go_wp2
  go_ret2
  have hl4 := own_len ho4
  have hlb := hb.len
  simp only [List.length_take, List.length_drop] at hl4
  obtain rfl : k = n4 := by omega
  have E4 := E2.trans' hx4
  exact ⟨c4, a4, rfl, own_base ho4 (Nat.le_trans hg2.size E2.size), hR2.ext E4, grown_trans' hg2 (grown_extS g E4)⟩
end Go.Proofs.Ytncdcpaelecikaa
