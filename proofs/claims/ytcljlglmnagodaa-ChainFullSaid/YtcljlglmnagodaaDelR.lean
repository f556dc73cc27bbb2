/-
  Right deltas off the tape.
-/
import Derived.Test.YtcljlglmnagodaaDelM
import Derived.Deep.CutRange
namespace Go.Proofs.Ytcljlglmnagodaa
open Go.RowKit

/-- Ops in memory of one's own. -/
structure OwnOps (w : World) (B : Nat) (a : Option Addr) (n c : Nat) (L : List Od) : Prop where
  len : L.length = n
  own : w.ownsRow B 39 3 (.slice a n c) n (L.flatMap Od.cells)
  dat : ∀ y ∈ L, w.ownsRow B 5 1 (.slice y.a y.n y.c) y.n (y.l.map u8) ∧ y.n ≤ 140737488355328 ∧ i64B y.f ∧ i64B y.z
theorem OwnOps.nil (w : World) (B : Nat) : OwnOps w B none 0 0 [] := ⟨rfl, own_nil _ _ _ _, fun y hy => by cases hy⟩
theorem OwnOps.ops {w : World} {B n c : Nat} {a : Option Addr} {L : List Od} (h : OwnOps w B a n c L) : Ops w a n c L :=
  ⟨h.len, Row.of_own h.own, fun k hk => ⟨Bytes.of_own (h.dat k hk).1, (h.dat k hk).2⟩⟩
theorem OwnOps.ext {w w' : World} {B n c : Nat} {a : Option Addr} {L : List Od} (h : OwnOps w B a n c L) (hx : Ext w w') : OwnOps w' B a n c L :=
  ⟨h.len, own_ext h.own hx, fun k hk => ⟨own_ext (h.dat k hk).1 hx, (h.dat k hk).2⟩⟩
theorem OwnOps.kept {w w' : World} {B n c g : Nat} {a : Option Addr} {L : List Od} (h : OwnOps w B a n c L) (hg : w.grownBy w' (some g)) (hB : g < B) : OwnOps w' B a n c L :=
  ⟨h.len, own_kept h.own hg hB, fun k hk => ⟨own_kept (h.dat k hk).1 hg hB, (h.dat k hk).2⟩⟩
theorem OwnOps.keptO {w w' : World} {B n c b : Nat} {a : Option Addr} {L : List Od} (h : OwnOps w B a n c L) (hg : w.grownBy w' (some b)) (hb : b < B ∨ ∃ (cs : Array Value) (t : TypeId), w.heap[b]? = some (.cells cs t (0, 0)) ∧ blockOf a ≠ some b ∧ t ≠ 5) : OwnOps w' B a n c L := by
  rcases hb with hb | ⟨cs, t, hb, hna, ht⟩
  · exact h.kept hg hb
  · exact ⟨h.len, own_other h.own hg hna, fun k hk => ⟨own_other (h.dat k hk).1 hg (fun e => own_apart (h.dat k hk).1 hb ht e.symm), (h.dat k hk).2⟩⟩
theorem OwnOps.base {w : World} {B B' n c : Nat} {a : Option Addr} {L : List Od} (h : OwnOps w B a n c L) (hB : B' ≤ B) : OwnOps w B' a n c L :=
  ⟨h.len, own_base h.own hB, fun k hk => ⟨own_base (h.dat k hk).1 hB, (h.dat k hk).2⟩⟩
theorem OwnOps.push {w w' : World} {B n c c' : Nat} {a a' : Option Addr} {L : List Od} {y : Od} (h : OwnOps w B a n c L) (hg : w.grownBy w' (blockOf a)) (ho : w'.ownsRow B 39 3 (.slice a' (n + 1) c') (n + 1) (L.flatMap Od.cells ++ y.cells))
    (hd : w.ownsRow B 5 1 (.slice y.a y.n y.c) y.n (y.l.map u8)) (hb : y.n ≤ 140737488355328 ∧ i64B y.f ∧ i64B y.z) : OwnOps w' B a' (n + 1) c' (L ++ [y]) where
  len := by rw [List.length_append, h.len]; rfl
  own := by rw [List.flatMap_append]; simpa using ho
  dat := by
    have keep : ∀ {n1 c1 : Nat} {a1 : Option Addr} {xs : List Value}, w.ownsRow B 5 1 (.slice a1 n1 c1) n1 xs → w'.ownsRow B 5 1 (.slice a1 n1 c1) n1 xs := fun h1 => by
      cases hk : blockOf a with
      | none => rw [hk] at hg; exact own_ext h1 (Ext.of_grown hg)
      | some b =>
        rw [hk] at hg
        obtain ⟨cur, hcur⟩ := own_heap h.own hk
        exact own_other h1 hg (fun e => own_apart h1 hcur (by decide) e.symm)
    intro x hx
    rcases List.mem_append.1 hx with hx | hx
    · exact ⟨keep (h.dat x hx).1, (h.dat x hx).2⟩
    · obtain rfl : x = y := by simpa using hx
      exact ⟨keep hd, hb⟩
theorem heap_set3 {w : World} {b : Nat} {x y z v : Value} {t : TypeId} (h : w.heap[b]? = some (.cells #[x, y, z] t (0, 0))) : (w.setCell ⟨b, 1, none⟩ v).heap[b]? = some (.cells #[x, v, z] t (0, 0)) := by
  simp [World.setCell, Array.getElem?_modify, h]
theorem heap_set30 {w : World} {b : Nat} {x y z v : Value} {t : TypeId} (h : w.heap[b]? = some (.cells #[x, y, z] t (0, 0))) : (w.setCell ⟨b, 0, none⟩ v).heap[b]? = some (.cells #[v, y, z] t (0, 0)) := by
  simp [World.setCell, Array.getElem?_modify, h]
/-- A right op of few bytes on a base of N bytes. -/
def OpOk (N : Nat) (y : Od) : Prop := y.d.ok N ∧ y.n ≤ 4 ∧ 0 ≤ y.f ∧ 0 ≤ y.z ∧ y.f + y.z ≤ N
def MadeO (w : World) (g k N : Nat) (e : Ending) (w' : World) : Prop :=
  ∃ (a : Option Addr) (m c k2 : Nat) (L : List Od), e = .returned (.slice a m c) ∧ OwnOps w' w.heap.size a m c L ∧ m ≤ 7 ∧ (∀ y ∈ L, OpOk N y) ∧ Tape w' g k2 ∧ k2 ≤ k + 1000 ∧ w.grownBy w' (some g)
def MdRel (w : World) (g k N q : Nat) (out i : Value) (wr : World) : Prop :=
  ∃ (a : Option Addr) (m c k2 j : Nat) (L : List Od), q = j ∧ i = .int .i64 j ∧ out = .slice a m c ∧ OwnOps wr w.heap.size a m c L ∧ m + j ≤ 7 ∧ (∀ y ∈ L, OpOk N y) ∧ Tape wr g k2 ∧ k2 + 100 * j ≤ k + 1000 ∧ w.grownBy wr (some g)

set_option maxRecDepth 100000 in
set_option maxHeartbeats 8000000 in
theorem made_any (g k N : Nat) (w : World) (ht : Tape w g k) (hk : k ≤ 10000000000000) (hN : N ≤ 100000) :
    Calls Try.prog 39 #[.pointer (some ⟨g, 0, none⟩), .int .i64 N] w (MadeO w g k N) := by
  have hgl := ht.lt
  go_enter Try.func39, Try.ntmps39
  go_wp2_with (first
    | (go_at_call 25; (with_reducible refine (Next_any g k 8 _ ht (by omega) (by omega)).mono ?_); rintro e w1 ⟨u1, rfl, hu1, ht1, hg1⟩)
    | fail)
  have hu1' : u1 ≤ 7 := by unfold Below1 at hu1; omega
  clear hu1
  go_loopg [5, 6] u1 (fun q out i wr => MdRel w g k N q out i wr)
  case atStart => exact ⟨none, 0, 0, k + 1, u1, [], rfl, rfl, rfl, OwnOps.nil _ _, by omega, (fun y hy => by cases hy), ht1, by omega, hg1⟩
  case round =>
    obtain ⟨a, m, c, k2, j, L, hq, rfl, rfl, hO, hm, hL, ht2, hk2, hg2⟩ := hrel
    rename World => w2
    have HQ := Lib.hid hq
    have HLN := Lib.hid hO.len
    clear hq
    by_cases hj : 0 < j
    rotate_left
    · have hd : decide (0 < j) = false := decide_eq_false hj
      go_wp2
      go_ret
      exact ⟨a, m, c, k2, L, rfl, hO, by omega, hL, ht2, by omega, hg2⟩
    have hd : decide (0 < j) = true := decide_eq_true hj
    go_upto_region 5 with fail
    go_cut [21] from 11 to 91 (fun s21 w' => ∃ (q : Bool) (k3 : Nat), s21 = .bool q ∧ (q = false → 0 < N) ∧ Tape w' g k3 ∧ k3 ≤ k2 + 1 ∧ w2.grownBy w' (some g))
    case first =>
      by_cases hN0 : N = 0
      · obtain ⟨q1, q2⟩ := eqI (x := (N : Int)) (y := 0) (by omega)
        clear hN0
        go_wp2
        go_meet
        exact ⟨true, k2, rfl, (fun h => by cases h), ht2, by omega, World.grownBy.refl _ _⟩
      · obtain ⟨q1, q2⟩ := neI (x := (N : Int)) (y := 0) (by omega)
        go_wp2_with (first
          | (go_at_call 25; (with_reducible refine (Next_any g k2 2 _ ht2 (by omega) (by omega)).mono ?_); rintro e w3 ⟨u3, rfl, hu3, ht3, hg3⟩)
          | fail)
        go_meet
        exact ⟨_, k2 + 1, rfl, (fun _ => by omega), ht3, by omega, hg3⟩
    case rest =>
      obtain ⟨qq, k3, rfl, hqN, ht3, hk3, hg3⟩ := hcut
      rename World => w3
      have hgB : g < w.heap.size := hgl
      have hO3 := hO.kept hg3 hgB
      have hg03 := grown_trans' hg2 hg3
      clear ht2 hO hd
      cases qq with
      | true =>
        go_wp2_with (first
          | (go_at_call 25; (with_reducible refine (Next_any g k3 4 _ ht3 (by omega) (by omega)).mono ?_); rintro e w4 ⟨u4, rfl, hu4, ht4, hg4⟩; have hu4' : u4 ≤ 3 := (by unfold Below1 at hu4; omega); have htb : Calls Try.prog 63 #[.pointer (some ⟨g, 0, none⟩), .int .i64 (1 + (u4 : Int)), .int .i64 3] w4 (fun e w' => ∃ (a : Option Addr) (c : Nat) (l : List UInt8), e = .returned (.slice a (1 + u4) c) ∧ w'.ownsRow w4.heap.size 5 1 (.slice a (1 + u4) c) (1 + u4) (l.map Proofs.Ytcljlglmnagodaa.u8) ∧ Tape w' g (k3 + 1 + (1 + u4)) ∧ w4.grownBy w' (some g)) := (by have h := TapeBytes_any g (k3 + 1) (1 + u4) 3 w4 ht4 (by omega) (by omega) (by omega); rwa [show ((1 + u4 : Nat) : Int) = 1 + (u4 : Int) by omega] at h))
          | (go_at_call 63; (with_reducible refine htb.mono ?_); rintro e w5 ⟨a5, c5, l5, rfl, ho5, ht5, hg5⟩; clear htb; have hg45 := grown_trans' hg4 hg5; have hg05 := grown_trans' hg03 hg45; have hO5 := hO3.kept hg45 hgB; have hd5 := own_base ho5 (grown_trans' hg03 hg4).size)
          | ((with_reducible refine atSlot 30 ?_); have hsz5 := hg05.size; have hrow := Row.new w5 #[.int .i64 0, .int .i64 0, .slice a5 (1 + u4) c5] 39 1 3 rfl (by decide); refine wpList_of_wp rfl (owp_app (o := ⟨some 30, _, _, _, _, _⟩) _ _ rfl Try.elO rfl (own_ext hO5.own (Ext.alloc' w5 _)) rfl hrow (fun u hu => od_oneCell [⟨0, 0, a5, 1 + u4, c5, l5⟩] u (by simpa [Od.cells] using hu)) (by omega) (by unfold maxLen; omega) (Nat.le_trans hsz5 (Ext.alloc' w5 _).size) ?_); intro a6 c6 w6 ho6 hg6)
          | fail)
        have HO6 := Lib.hid (OwnOps.push (y := ⟨0, 0, a5, 1 + u4, c5, l5⟩) (hO5.ext (Ext.alloc' w5 (.cells #[.int .i64 0, .int .i64 0, .slice a5 (1 + u4) c5] 39))) hg6 ho6 (own_ext hd5 (Ext.alloc' w5 _)) ⟨by show 1 + u4 ≤ _; omega, (⟨by decide, by decide⟩ : i64B 0), (⟨by decide, by decide⟩ : i64B 0)⟩)
        go_roundg (j - 1)
        case measure => have := HQ.out; omega
        case rel =>
          have hop : OpOk N ⟨0, 0, a5, 1 + u4, c5, l5⟩ := by
            have hl5 := own_len ho5
            refine ⟨.inr ?_, by show 1 + u4 ≤ 4; omega, Int.le_refl _, Int.le_refl _, by show (0 : Int) + 0 ≤ N; omega⟩
            cases l5 with
            | nil => simp at hl5; omega
            | cons x l => simp [Od.d, Dp.literal]
          have hgo := fun b (hb : blockOf a = some b) => (own_block hO5.own b hb).1
          have hg56 : w.grownBy (w5.alloc (.cells #[.int .i64 0, .int .i64 0, .slice a5 (1 + u4) c5] 39)) (some g) := chg_trans hg05 (grown_ext (Ext.alloc' w5 _)) (fun b hb => by cases hb)
          exact ⟨_, m + 1, c6, k3 + 1 + (1 + u4), j - 1, _, rfl, by go_num, rfl, HO6.out, by omega, (fun y hy => by
            rcases List.mem_append.1 hy with hy | hy
            · exact hL y hy
            · obtain rfl : y = _ := by simpa using hy
              exact hop), (ht5.ext (Ext.alloc' w5 _)).grown hg6 (fun b hb => by have := hgo b hb; omega), by omega, chg_trans hg56 hg6 (fun b hb => .inl (hgo b hb))⟩
      | false =>
        have hN0 : 0 < N := hqN rfl
        clear hqN
        go_upto_region 9 with (first
          | (go_at_call 25; (with_reducible refine (Next_any g k3 N _ ht3 (by omega) (by omega)).mono ?_); rintro e w4 ⟨u4, rfl, hu4, ht4, hg4⟩)
          | fail)
        have hu4' : u4 < N := by unfold Below1 at hu4; omega
        have hbx := heap_alloc_new w4 (.cells #[.int .i64 u4, .int .i64 0, .slice none 0 0] 39)
        have hE5 := Ext.alloc' w4 (.cells #[.int .i64 u4, .int .i64 0, .slice none 0 0] 39)
        have hgx : g < w4.heap.size := ht4.lt
        have hab : blockOf a ≠ some w4.heap.size := fun e => Nat.lt_irrefl _ (own_block (hO3.kept hg4 hgB).own _ e).2
        have hO5 := (hO3.kept hg4 hgB).ext hE5
        have ht5 := ht4.ext hE5
        have hg04 := grown_trans' hg03 hg4
        have hg05 := chg_trans hg04 (grown_ext hE5) (fun b hb => by cases hb)
        generalize w4.alloc (.cells #[.int .i64 u4, .int .i64 0, .slice none 0 0] 39) = w5 at hbx hE5 hO5 ht5 hg05 ⊢
        have HBX := Lib.hid hbx
        clear hu4 hbx ht4 hO3 ht3
        go_cut [67] from 11 to 91 (fun s67 w' => ∃ (q : Bool) (k5 : Nat), s67 = .bool q ∧ (q = true → ∃ y A, 0 < m ∧ a = some ⟨A, 0, none⟩ ∧ L[m - 1]? = some y ∧ y.f + y.z < N) ∧ Tape w' g k5 ∧ k5 ≤ k3 + 2 ∧ w5.grownBy w' (some g))
        case first =>
          by_cases hm0 : 0 < m
          rotate_left
          · have hd1 : decide ((1 : Int) ≤ m) = false := decide_eq_false (by omega)
            have hd2 : decide ((0 : Int) ≤ (m : Int) - 1) = false := decide_eq_false (by omega)
            refine wp_region_z (fun w' => w5.grownBy w' (some g)) (grown_drewO w5 _) [] (.qs [0, 1, 2, 3, 4, 5, 6, 7, 8, 9, 10, 11, 12, 13, 14, 15, 16, 17, 18, 19, 20, 21, 22, 23, 24, 25, 26] (.l 27 (.qs [28, 29] .nil))) (by kernel_rfl) (by kernel_rfl) ?_
            iterate 27 (first | ((refine wpZ_q rfl rfl _ (fun w' hx' => by go_simp; try rfl) ?_; go_simp)) | ((refine wpZ_skip rfl rfl ?_; go_simp)))
            refine wpZ_lskip rfl rfl ?_
            go_simp
            iterate 2 (first | ((refine wpZ_q rfl rfl _ (fun w' hx' => by go_simp; try rfl) ?_; go_simp)) | ((refine wpZ_skip rfl rfl ?_; go_simp)))
            refine wpZ_nil ?_
            clear hd1 hd2
            go_wp2
            go_meet
            exact ⟨false, k3 + 1, rfl, (fun h => by cases h), ht5.drew, by omega, grown_drewO w5 _⟩
          · obtain ⟨A, cur, rfl, hA, hcur, -, -⟩ := own_some hO5.own hm0
            obtain ⟨y, hy⟩ : ∃ y, L[m - 1]? = some y := ⟨_, List.getElem?_eq_getElem (by have := HLN.out; omega)⟩
            have hyo := hL y (List.mem_of_getElem? hy)
            obtain ⟨-, -, hyf, hyz, hyN⟩ := hyo
            have hAg : A ≠ g := by omega
            have hcell : ∀ i, i < 3 → ∀ w', w5.grownBy w' (some g) → w'.cell? ⟨A, (m - 1) * 3 + i, none⟩ = y.cells[i]? := fun i hi w' hg => by
              have h1 := (Row.of_own (own_kept hO5.own hg hgB)).cell _ rfl ((m - 1) * 3 + i)
              have h2 := od_get (i := m - 1) hy i hi
              obtain ⟨v, hv⟩ : ∃ v, y.cells[i]? = some v := ⟨_, List.getElem?_eq_getElem (by simp [Od.cells]; omega)⟩
              rw [hv] at h2 ⊢
              have h3 := h1 _ h2
              rw [Addr.add_lit, Nat.zero_add] at h3
              exact h3
            have hc0 : ∀ w', w5.grownBy w' (some g) → w'.cell? ⟨A, (m - 1) * 3, none⟩ = some (.int .i64 y.f) := fun w' h => hcell 0 (by omega) w' h
            have hc1 : ∀ w', w5.grownBy w' (some g) → w'.cell? ⟨A, (m - 1) * 3 + 1, none⟩ = some (.int .i64 y.z) := fun w' h => hcell 1 (by omega) w' h
            have hd1 : decide ((1 : Int) ≤ m) = true := decide_eq_true (by omega)
            have hd2 : decide ((0 : Int) ≤ (m : Int) - 1) = true := decide_eq_true (by omega)
            have hwz : IntKind.i64.wrap (y.f + y.z) = y.f + y.z := by rw [IntKind.wrap_i64]; omega
            have HYY := Lib.hid hy
            clear hcell hcur hy
            by_cases hz0 : 0 < y.z
            rotate_left
            · have hd3 : decide ((0 : Int) < y.z) = false := decide_eq_false hz0
              refine wp_region_z (fun w' => w5.grownBy w' (some g)) (grown_drewO w5 _) [] (.qs [0, 1, 2, 3, 4, 5, 6, 7, 8, 9, 10, 11, 12, 13, 14, 15, 16, 17, 18, 19, 20, 21, 22, 23, 24, 25, 26] (.l 27 (.qs [28, 29] .nil))) (by kernel_rfl) (by kernel_rfl) ?_
              iterate 5 ((refine wpZ_q rfl rfl _ (fun w' hx' => by go_simp; try rfl) ?_; go_simp))
              refine wpZ_ixp rfl rfl (.tmp 41) (.tmp 42) rfl Try.elO rfl (m - 1) rfl (by omega) (by omega) ?_
              iterate 21 (first | ((refine wpZ_q rfl rfl _ (fun w' hx' => by go_simp; try rfl) ?_; go_simp)) | ((refine wpZ_skip rfl rfl ?_; go_simp)))
              refine wpZ_lskip rfl rfl ?_
              go_simp
              iterate 2 (first | ((refine wpZ_q rfl rfl _ (fun w' hx' => by go_simp; try rfl) ?_; go_simp)) | ((refine wpZ_skip rfl rfl ?_; go_simp)))
              refine wpZ_nil ?_
              clear hd1 hd2 hd3 hc0 hc1 hwz
              go_wp2
              go_meet
              exact ⟨false, k3 + 1, rfl, (fun h => by cases h), ht5.drew, by omega, grown_drewO w5 _⟩
            · have hd3 : decide ((0 : Int) < y.z) = true := decide_eq_true hz0
              by_cases hlt : y.f + y.z < N
              rotate_left
              · have hd4 : decide (y.f + y.z < (N : Int)) = false := decide_eq_false hlt
                refine wp_region_z (fun w' => w5.grownBy w' (some g)) (grown_drewO w5 _) [] (.qs [0, 1, 2, 3, 4, 5, 6, 7, 8, 9, 10, 11, 12, 13, 14, 15, 16, 17, 18, 19, 20, 21, 22, 23, 24, 25, 26] (.l 27 (.qs [28, 29] .nil))) (by kernel_rfl) (by kernel_rfl) ?_
                iterate 5 ((refine wpZ_q rfl rfl _ (fun w' hx' => by go_simp; try rfl) ?_; go_simp))
                refine wpZ_ixp rfl rfl (.tmp 41) (.tmp 42) rfl Try.elO rfl (m - 1) rfl (by omega) (by omega) ?_
                iterate 7 ((refine wpZ_q rfl rfl _ (fun w' hx' => by go_simp; try rfl) ?_; go_simp))
                refine wpZ_ixp rfl rfl (.tmp 49) (.tmp 50) rfl Try.elO rfl (m - 1) rfl (by omega) (by omega) ?_
                iterate 4 ((refine wpZ_q rfl rfl _ (fun w' hx' => by go_simp; try rfl) ?_; go_simp))
                refine wpZ_ixp rfl rfl (.tmp 54) (.tmp 55) rfl Try.elO rfl (m - 1) rfl (by omega) (by omega) ?_
                iterate 8 (first | ((refine wpZ_q rfl rfl _ (fun w' hx' => by go_simp; try rfl) ?_; go_simp)) | ((refine wpZ_skip rfl rfl ?_; go_simp)))
                refine wpZ_lskip rfl rfl ?_
                go_simp
                iterate 2 (first | ((refine wpZ_q rfl rfl _ (fun w' hx' => by go_simp; try rfl) ?_; go_simp)) | ((refine wpZ_skip rfl rfl ?_; go_simp)))
                refine wpZ_nil ?_
                clear hd1 hd2 hd3 hd4 hc0 hc1 hwz
                go_wp2
                go_meet
                exact ⟨false, k3 + 1, rfl, (fun h => by cases h), ht5.drew, by omega, grown_drewO w5 _⟩
              · have hd4 : decide (y.f + y.z < (N : Int)) = true := decide_eq_true hlt
                refine wp_region_z (fun w' => w5.grownBy w' (some g)) (grown_drewO w5 _) [] (.qs [0, 1, 2, 3, 4, 5, 6, 7, 8, 9, 10, 11, 12, 13, 14, 15, 16, 17, 18, 19, 20, 21, 22, 23, 24, 25, 26] (.l 27 (.qs [28, 29] .nil))) (by kernel_rfl) (by kernel_rfl) ?_
                iterate 5 ((refine wpZ_q rfl rfl _ (fun w' hx' => by go_simp; try rfl) ?_; go_simp))
                refine wpZ_ixp rfl rfl (.tmp 41) (.tmp 42) rfl Try.elO rfl (m - 1) rfl (by omega) (by omega) ?_
                iterate 7 ((refine wpZ_q rfl rfl _ (fun w' hx' => by go_simp; try rfl) ?_; go_simp))
                refine wpZ_ixp rfl rfl (.tmp 49) (.tmp 50) rfl Try.elO rfl (m - 1) rfl (by omega) (by omega) ?_
                iterate 4 ((refine wpZ_q rfl rfl _ (fun w' hx' => by go_simp; try rfl) ?_; go_simp))
                refine wpZ_ixp rfl rfl (.tmp 54) (.tmp 55) rfl Try.elO rfl (m - 1) rfl (by omega) (by omega) ?_
                iterate 8 (first | ((refine wpZ_q rfl rfl _ (fun w' hx' => by go_simp; try rfl) ?_; go_simp)) | ((refine wpZ_skip rfl rfl ?_; go_simp)))
                clear hc0 hc1 hwz
                refine wpZ_l rfl rfl ?_
                go_simp
                refine (Next_any g (k3 + 1) 2 _ ht5.drew (by omega) (by omega)).mono ?_
                rintro e w6 ⟨u6, rfl, hu6, ht6, hg6⟩
                have hg56 : w5.grownBy w6 (some g) := grown_trans' (grown_drewO w5 _) hg6
                refine ⟨hg56, ?_⟩
                go_simp
                iterate 2 ((refine wpZ_q rfl rfl _ (fun w' hx' => by go_simp; try rfl) ?_; go_simp))
                refine wpZ_nil ?_
                clear hd1 hd2 hd3 hd4
                go_wp2
                go_meet
                exact ⟨_, k3 + 1 + 1, rfl, (fun _ => ⟨y, A, hm0, rfl, HYY.out, hlt⟩), ht6, by omega, hg56⟩
        case rest =>
          obtain ⟨qq, k5, rfl, hq, ht6, hk5, hg6⟩ := hcut
          rename World => w6
          have hO6 := hO5.kept hg6 hgB
          have hbw : w.heap.size ≤ w4.heap.size := hg04.size
          have hbx6 : w6.heap[w4.heap.size]? = some (.cells #[.int .i64 u4, .int .i64 0, .slice none 0 0] 39 (0, 0)) := (hg6.block _ (Array.getElem?_eq_some_iff.1 HBX.out).1 (fun e => by cases e; omega)).trans HBX.out
          have hg06 := grown_trans' hg05 hg6
          clear hO5 ht5
          cases qq with
          | false =>
            have htX := ht6
            have hOX := hO6
            have hg0X := hg06
            have HBX7 := Lib.hid hbx6
            have hbk := fun j => cell_of_row w6 w4.heap.size j _ _ _ hbx6
            clear hbx6 hq ht6 hO6
            go_wp2_with (first
              | (go_at_call 25; (with_reducible refine (Next_any g k5 ((N : Int) - (u4 : Int)) _ htX (by omega) (by omega)).mono ?_); rintro e w8 ⟨sz, rfl, hsz, ht8, hg8⟩; have hsz' : (u4 : Int) + sz < N := (by unfold Below1 at hsz; omega); clear hsz hbk; have hbx8 : w8.heap[w4.heap.size]? = some (.cells #[.int .i64 (u4 : Int), .int .i64 0, .slice none 0 0] 39 (0, 0)) := (hg8.block _ (Array.getElem?_eq_some_iff.1 HBX7.out).1 (fun e => by cases e; omega)).trans HBX7.out; have HBX8 := Lib.hid hbx8; clear hbx8)
              | ((with_reducible refine atStore 87 ?_); refine wpList_of_wp rfl (owp_st1 (o := ⟨none, _, _, _, _, _⟩) 3 _ _ rfl w4.heap.size 1 (.int .i64 (1 + (sz : Int))) rfl rfl rfl (there_one (v := .int .i64 0) (by rw [cell_of_row _ _ 1 _ _ _ HBX8.out]; rfl) (frozen_none HBX8.out 1)) (by kernel_rfl) rfl ?_); have hbx9 := heap_set3 (v := .int .i64 (1 + (sz : Int))) HBX8.out; have hg89 := grown_setCell' w8 w4.heap.size 1 (.int .i64 (1 + (sz : Int))); have hO9 := (hOX.kept hg8 hgB).keptO hg89 (.inr ⟨_, _, HBX8.out, hab, by decide⟩); have ht9 := ht8.grown hg89 (fun b hb => by cases hb; omega); have hg09 := chg_trans (grown_trans' hg0X hg8) hg89 (fun b hb => by cases hb; exact .inl hbw); generalize w8.setCell ⟨w4.heap.size, 1, none⟩ (.int .i64 (1 + (sz : Int))) = w9 at hbx9 hg89 hO9 ht9 hg09 ⊢; have hrg9 := range_of_heap hbx9; clear hbx9)
              | ((with_reducible refine atSlot 89 ?_); refine wpList_of_wp rfl (wp_load_mid (op := ⟨some 89, _, _, _, _, _⟩) 39 _ rfl w4.heap.size 0 rfl [.int .i64 (u4 : Int), .int .i64 (1 + (sz : Int)), .slice none 0 0] _ hrg9 Try.underlying39 rfl (by kernel_rfl) ?_); clear hrg9)
              | ((with_reducible refine atSlot 91 ?_); have hsz9 := hg09.size; have hrow := Row.new w9 #[.int .i64 (u4 : Int), .int .i64 (1 + (sz : Int)), .slice none 0 0] 39 1 3 rfl (by decide); refine wpList_of_wp rfl (owp_app (o := ⟨some 91, _, _, _, _, _⟩) _ _ rfl Try.elO rfl (own_ext hO9.own (Ext.alloc' w9 _)) rfl hrow (fun u hu => od_oneCell [⟨(u4 : Int), 1 + (sz : Int), none, 0, 0, []⟩] u (by simpa [Od.cells] using hu)) (by omega) (by unfold maxLen; omega) (Nat.le_trans hsz9 (Ext.alloc' w9 _).size) ?_); intro a10 c10 w10 ho10 hg10)
              | fail)
            have HO10 := Lib.hid (OwnOps.push (y := ⟨(u4 : Int), 1 + (sz : Int), none, 0, 0, []⟩) (hO9.ext (Ext.alloc' w9 (.cells #[.int .i64 (u4 : Int), .int .i64 (1 + (sz : Int)), .slice none 0 0] 39))) hg10 ho10 (own_nil _ _ _ _) ⟨Nat.zero_le _, (⟨by omega, by omega⟩ : i64B ((u4 : Int))), (⟨by omega, by omega⟩ : i64B (1 + (sz : Int)))⟩)
            go_roundg (j - 1)
            case measure => have := HQ.out; omega
            case rel =>
              have hop : OpOk N ⟨(u4 : Int), 1 + (sz : Int), none, 0, 0, []⟩ :=
                ⟨.inl ⟨by have h1 : decide ((1 : Int) ≤ 1 + (sz : Int)) = true := decide_eq_true (by omega); unfold Dp.copies; exact Bool.and_eq_true_iff.2 ⟨h1, rfl⟩, by show (0 : Int) ≤ (u4 : Int); omega, by show (u4 : Int) + (1 + (sz : Int)) ≤ N; omega⟩, Nat.zero_le _, by show (0 : Int) ≤ (u4 : Int); omega, by show (0 : Int) ≤ 1 + (sz : Int); omega, by show (u4 : Int) + (1 + (sz : Int)) ≤ N; omega⟩
              have hgo := fun b (hb : blockOf a = some b) => (own_block hO9.own b hb).1
              have hg910 : w.grownBy (w9.alloc (.cells #[.int .i64 (u4 : Int), .int .i64 (1 + (sz : Int)), .slice none 0 0] 39)) (some g) := chg_trans hg09 (grown_ext (Ext.alloc' w9 _)) (fun b hb => by cases hb)
              exact ⟨_, m + 1, c10, k5 + 1, j - 1, _, rfl, by go_num, rfl, HO10.out, by omega, (fun y hy => by
                rcases List.mem_append.1 hy with hy | hy
                · exact hL y hy
                · obtain rfl : y = _ := by simpa using hy
                  exact hop), (ht9.ext (Ext.alloc' w9 _)).grown hg10 (fun b hb => by have := hgo b hb; omega), by omega, chg_trans hg910 hg10 (fun b hb => .inl (hgo b hb))⟩
          | true =>
            obtain ⟨y, A, hm0, rfl, hy, hlt⟩ := hq rfl
            obtain ⟨-, -, hyf, hyz, hyN⟩ := hL y (List.mem_of_getElem? hy)
            obtain ⟨-, -, hyF, hyS⟩ := hO6.dat y (List.mem_of_getElem? hy)
            unfold i64B at hyF hyS
            have hwz : IntKind.i64.wrap (y.f + y.z) = y.f + y.z := by rw [IntKind.wrap_i64]; omega
            have hcell : ∀ i, i < 3 → ∀ w', Ext w6 w' → w'.cell? ⟨A, (m - 1) * 3 + i, none⟩ = y.cells[i]? := fun i hi w' hx => by
              have h1 := (Row.of_own (own_ext hO6.own hx)).cell _ rfl ((m - 1) * 3 + i)
              have h2 := od_get (i := m - 1) hy i hi
              obtain ⟨v, hv⟩ : ∃ v, y.cells[i]? = some v := ⟨_, List.getElem?_eq_getElem (by simp [Od.cells]; omega)⟩
              rw [hv] at h2 ⊢
              have h3 := h1 _ h2
              rw [Addr.add_lit, Nat.zero_add] at h3
              exact h3
            have hc0 : ∀ w', Ext w6 w' → w'.cell? ⟨A, (m - 1) * 3, none⟩ = some (.int .i64 y.f) := fun w' h => hcell 0 (by omega) w' h
            have hc1 : ∀ w', Ext w6 w' → w'.cell? ⟨A, (m - 1) * 3 + 1, none⟩ = some (.int .i64 y.z) := fun w' h => hcell 1 (by omega) w' h
            have HBX6 := Lib.hid hbx6
            clear hcell hbx6 hy hq hyF hyS
            go_wp2
            refine wp_region_e [12] (.qs [0, 1, 2, 3, 4, 5, 6, 7, 8, 9, 10, 11] (.l 12 .nil)) (by kernel_rfl) (by kernel_rfl) ?_
            iterate 2 ((refine wpY_q rfl rfl _ (fun w' hx' => by go_simp; try rfl) ?_; go_simp))
            refine wpY_ixp rfl rfl (.tmp 68) (.tmp 69) rfl Try.elO rfl (m - 1) rfl (by omega) (by omega) ?_
            iterate 4 ((refine wpY_q rfl rfl _ (fun w' hx' => by go_simp; try rfl) ?_; go_simp))
            refine wpY_ixp rfl rfl (.tmp 73) (.tmp 74) rfl Try.elO rfl (m - 1) rfl (by omega) (by omega) ?_
            iterate 4 ((refine wpY_q rfl rfl _ (fun w' hx' => by go_simp; try rfl) ?_; go_simp))
            refine wpY_l rfl rfl (owp_st1 3 _ _ rfl w4.heap.size 0 (.int .i64 (y.f + y.z)) rfl rfl rfl (there_one (v := .int .i64 u4) (by rw [cell_of_row w6.drew _ 0 _ _ _ HBX6.out]; rfl) (frozen_none (w := w6.drew) HBX6.out 0)) (by kernel_rfl) rfl ?_)
            refine ⟨(fun h => by cases h), wpY_nil ?_⟩
            have hbx7 := heap_set30 (w := w6.drew) (v := .int .i64 (y.f + y.z)) HBX6.out
            have hg67 : w6.grownBy (w6.drew.setCell ⟨w4.heap.size, 0, none⟩ (.int .i64 (y.f + y.z))) (some w4.heap.size) := grown_trans' (grown_drewO w6 _) (grown_setCell' w6.drew w4.heap.size 0 _)
            have hOX := hO6.keptO hg67 (.inr ⟨_, _, HBX6.out, hab, by decide⟩)
            have htX := ht6.grown hg67 (fun b hb => by cases hb; omega)
            have hg0X := chg_trans hg06 hg67 (fun b hb => by cases hb; exact .inl hbw)
            generalize w6.drew.setCell ⟨w4.heap.size, 0, none⟩ (.int .i64 (y.f + y.z)) = w7 at hbx7 hg67 hOX htX hg0X ⊢
            have hbk := fun j => cell_of_row w7 w4.heap.size j _ _ _ hbx7
            have HBX7 := Lib.hid hbx7
            clear hbx7 hg67 hc0 hc1 hwz hO6 ht6 hg06
            go_wp2_with (first
              | (go_at_call 25; (with_reducible refine (Next_any g k5 ((N : Int) - (y.f + y.z)) _ htX (by omega) (by omega)).mono ?_); rintro e w8 ⟨sz, rfl, hsz, ht8, hg8⟩; have hsz' : (y.f + y.z) + sz < N := (by unfold Below1 at hsz; omega); clear hsz hbk; have hbx8 : w8.heap[w4.heap.size]? = some (.cells #[.int .i64 (y.f + y.z), .int .i64 0, .slice none 0 0] 39 (0, 0)) := (hg8.block _ (Array.getElem?_eq_some_iff.1 HBX7.out).1 (fun e => by cases e; omega)).trans HBX7.out; have HBX8 := Lib.hid hbx8; clear hbx8)
              | ((with_reducible refine atStore 87 ?_); refine wpList_of_wp rfl (owp_st1 (o := ⟨none, _, _, _, _, _⟩) 3 _ _ rfl w4.heap.size 1 (.int .i64 (1 + (sz : Int))) rfl rfl rfl (there_one (v := .int .i64 0) (by rw [cell_of_row _ _ 1 _ _ _ HBX8.out]; rfl) (frozen_none HBX8.out 1)) (by kernel_rfl) rfl ?_); have hbx9 := heap_set3 (v := .int .i64 (1 + (sz : Int))) HBX8.out; have hg89 := grown_setCell' w8 w4.heap.size 1 (.int .i64 (1 + (sz : Int))); have hO9 := (hOX.kept hg8 hgB).keptO hg89 (.inr ⟨_, _, HBX8.out, hab, by decide⟩); have ht9 := ht8.grown hg89 (fun b hb => by cases hb; omega); have hg09 := chg_trans (grown_trans' hg0X hg8) hg89 (fun b hb => by cases hb; exact .inl hbw); generalize w8.setCell ⟨w4.heap.size, 1, none⟩ (.int .i64 (1 + (sz : Int))) = w9 at hbx9 hg89 hO9 ht9 hg09 ⊢; have hrg9 := range_of_heap hbx9; clear hbx9)
              | ((with_reducible refine atSlot 89 ?_); refine wpList_of_wp rfl (wp_load_mid (op := ⟨some 89, _, _, _, _, _⟩) 39 _ rfl w4.heap.size 0 rfl [.int .i64 (y.f + y.z), .int .i64 (1 + (sz : Int)), .slice none 0 0] _ hrg9 Try.underlying39 rfl (by kernel_rfl) ?_); clear hrg9)
              | ((with_reducible refine atSlot 91 ?_); have hsz9 := hg09.size; have hrow := Row.new w9 #[.int .i64 (y.f + y.z), .int .i64 (1 + (sz : Int)), .slice none 0 0] 39 1 3 rfl (by decide); refine wpList_of_wp rfl (owp_app (o := ⟨some 91, _, _, _, _, _⟩) _ _ rfl Try.elO rfl (own_ext hO9.own (Ext.alloc' w9 _)) rfl hrow (fun u hu => od_oneCell [⟨(y.f + y.z), 1 + (sz : Int), none, 0, 0, []⟩] u (by simpa [Od.cells] using hu)) (by omega) (by unfold maxLen; omega) (Nat.le_trans hsz9 (Ext.alloc' w9 _).size) ?_); intro a10 c10 w10 ho10 hg10)
              | fail)
            have HO10 := Lib.hid (OwnOps.push (y := ⟨(y.f + y.z), 1 + (sz : Int), none, 0, 0, []⟩) (hO9.ext (Ext.alloc' w9 (.cells #[.int .i64 (y.f + y.z), .int .i64 (1 + (sz : Int)), .slice none 0 0] 39))) hg10 ho10 (own_nil _ _ _ _) ⟨Nat.zero_le _, (⟨by omega, by omega⟩ : i64B ((y.f + y.z))), (⟨by omega, by omega⟩ : i64B (1 + (sz : Int)))⟩)
            go_roundg (j - 1)
            case measure => have := HQ.out; omega
            case rel =>
              have hop : OpOk N ⟨(y.f + y.z), 1 + (sz : Int), none, 0, 0, []⟩ :=
                ⟨.inl ⟨by have h1 : decide ((1 : Int) ≤ 1 + (sz : Int)) = true := decide_eq_true (by omega); unfold Dp.copies; exact Bool.and_eq_true_iff.2 ⟨h1, rfl⟩, by show (0 : Int) ≤ (y.f + y.z); omega, by show (y.f + y.z) + (1 + (sz : Int)) ≤ N; omega⟩, Nat.zero_le _, by show (0 : Int) ≤ (y.f + y.z); omega, by show (0 : Int) ≤ 1 + (sz : Int); omega, by show (y.f + y.z) + (1 + (sz : Int)) ≤ N; omega⟩
              have hgo := fun b (hb : blockOf (some (⟨A, 0, none⟩ : Addr)) = some b) => (own_block hO9.own b hb).1
              have hg910 : w.grownBy (w9.alloc (.cells #[.int .i64 (y.f + y.z), .int .i64 (1 + (sz : Int)), .slice none 0 0] 39)) (some g) := chg_trans hg09 (grown_ext (Ext.alloc' w9 _)) (fun b hb => by cases hb)
              exact ⟨_, m + 1, c10, k5 + 1, j - 1, _, rfl, by go_num, rfl, HO10.out, by omega, (fun y hy => by
                rcases List.mem_append.1 hy with hy | hy
                · exact hL y hy
                · obtain rfl : y = _ := by simpa using hy
                  exact hop), (ht9.ext (Ext.alloc' w9 _)).grown hg10 (fun b hb => by have := hgo b hb; omega), by omega, chg_trans hg910 hg10 (fun b hb => .inl (hgo b hb))⟩
end Go.Proofs.Ytcljlglmnagodaa
