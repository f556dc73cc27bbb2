/-
  Check, the reference's and the program's.
-/
import Derived.Test.YtkhjeeaojlaagaaDelA
namespace Go.Proofs.Ytkhjeeaojlaagaa
open Go.RowKit

theorem ckF_step {base : Int} {L : List Od} {j m : Nat} {k : Od} {r : Int × Int} (hk : L[j]? = some k) (h : ckF base m ((L.drop j).map Od.d) = r) :
    (if k.d.copies = false ∧ k.d.literal = false then ((0 : Int), (260 : Int)) else if k.d.copies = true ∧ (k.f < 0 ∨ base < k.f ∨ base - k.f < k.z) then (0, 261)
      else if 1048576 < m + k.d.size then (0, 262) else ckF base (m + k.d.size) ((L.drop (j + 1)).map Od.d)) = r := by
  obtain ⟨hl, rfl⟩ := List.getElem?_eq_some_iff.1 hk
  rw [List.drop_eq_getElem_cons hl, List.map_cons, ckF] at h
  exact h
def CkRel (w : World) (L : List Od) (base : Int) (r : Int × Int) (i n : Value) (wr : World) : Prop :=
  ∃ j m : Nat, i = .int .i64 j ∧ n = .int .i64 m ∧ j ≤ L.length ∧ m ≤ 1048576 ∧ ckF base m ((L.drop j).map Od.d) = r ∧ Ext w wr

set_option maxRecDepth 100000 in
set_option maxHeartbeats 4000000 in
theorem refCheck_any (base : Int) (a : Option Addr) (n c : Nat) (L : List Od) (w : World) (hL : Ops w a n c L) (hn : n ≤ 140737488355328) {n0 e0 : Int} (hr : ckRes base (L.map Od.d) = (n0, e0)) :
    Calls Try.prog 50 #[.int .i64 base, .slice a n c] w (NewNone (.tuple #[.int .i64 n0, .int .i64 e0]) w) := by
  have hlen := hL.1
  unfold ckRes at hr
  rw [List.length_map, hlen] at hr
  by_cases hb : base < 0
  · rw [if_pos (.inl hb)] at hr
    cases hr
    have hd : decide (base < 0) = true := decide_eq_true hb
    go_enter Try.func50, Try.ntmps50
    go_wp2
    go_ret2
    exact ⟨rfl, Below.refl _ _⟩
  have hd0 : decide (base < 0) = false := decide_eq_false hb
  by_cases hb2 : 1048576 < base
  · rw [if_pos (.inr hb2)] at hr
    cases hr
    have hd : decide (1048576 < base) = true := decide_eq_true hb2
    clear hb
    go_enter Try.func50, Try.ntmps50
    go_wp2
    go_ret2
    exact ⟨rfl, Below.refl _ _⟩
  have hd1 : decide (1048576 < base) = false := decide_eq_false hb2
  rw [if_neg (by omega)] at hr
  by_cases hn4 : 4096 < n
  · rw [if_pos hn4] at hr
    cases hr
    have hd : decide ((4096 : Int) < n) = true := by simp; omega
    go_enter Try.func50, Try.ntmps50
    go_wp2
    go_ret2
    exact ⟨rfl, Below.refl _ _⟩
  rw [if_neg hn4] at hr
  have hd2 : decide ((4096 : Int) < n) = false := by simp; omega
  have HL := Lib.hid hlen
  have HR := Lib.hid hr
  have hrow := hL.2.1
  have hb0 : 0 ≤ base := by omega
  have hb1 : base ≤ 1048576 := by omega
  have hn5 : n ≤ 4096 := by omega
  clear hlen hr hb hb2 hn4
  go_enter Try.func50, Try.ntmps50
  go_wp2
  clear hd0 hd1 hd2
  go_loopw [7, 6] (CkRel w L base (n0, e0)) (fun i _ _ => n - (intOf i).toNat)
  case atStart => exact ⟨0, 0, rfl, rfl, by omega, by omega, by simpa using HR.out, Below.refl _ _⟩
  case round =>
    obtain ⟨j, m, rfl, rfl, hj, hm, hinv, hx⟩ := hrel
    rename World => w1
    have hjn' : j ≤ n := by have := HL.out; omega
    have HI := Lib.hid hinv
    clear hinv
    by_cases hjn : j < n
    · obtain ⟨k, hk⟩ : ∃ k, L[j]? = some k := ⟨_, List.getElem?_eq_getElem (by have := HL.out; omega)⟩
      have hkI := (hL.2.2 k (List.mem_of_getElem? hk)).ext hx
      have hst := ckF_step hk HI.out
      have hkl := hkI.1.len
      obtain ⟨hkI1, hkI2, hkf, hkz⟩ := hkI
      unfold i64B at hkf hkz
      have hr1 := hrow.ext hx
      have HK := Lib.hid hk
      have HKL := Lib.hid hkl
      clear hk
      have t1 : True := trivial
      rcases od_cases k hkl with ⟨c1, c2, h1, h2⟩ | ⟨c1, c2, h1, h2, h3⟩ | ⟨c1, c2, -, -⟩
      · rw [if_neg (by rw [c1]; simp)] at hst
        have C1 := Lib.hid c1
        have hsz : k.d.size = k.z.toNat := by unfold Dp.size; rw [c1]; rfl
        rw [hsz] at hst
        have HN := Lib.hid h2
        by_cases hf0 : k.f < 0 ∨ base < k.f ∨ base - k.f < k.z
        · rw [if_pos ⟨c1, hf0⟩] at hst
          cases hst
          clear c1 c2 hsz hkl h2
          rcases hf0 with hf0 | hf0 | hf0
          · have hd : decide (k.f < 0) = true := decide_eq_true hf0
            go_wp2_with (first
              | ((with_reducible refine atSlot 26 ?_); refine wpList_of_wp rfl (owp_ix (o := ⟨some 26, _, _, _, _, _⟩) _ _ rfl Try.elO rfl hr1 j rfl rfl hjn ?_); intro b3 o3 hc3; have hrg3 := od_range HK.out hc3; clear hc3)
              | ((with_reducible refine atSlot 27 ?_); refine wpList_of_wp rfl (wp_load_mid (op := ⟨some 27, _, _, _, _, _⟩) 83 _ rfl b3 o3 rfl k.cells _ hrg3 Try.underlying83 rfl (by kernel_rfl) ?_); simp only [Od.cells])
              | (go_at_call 62; have _t := t1; (with_reducible refine (Copies_any k _ HKL.out).mono ?_); rw [C1.out]; rintro e w3 ⟨rfl, hx3⟩; clear t1; have hb3 := hx3.heap' (heap_alloc_new w1 (.cells #[.int .i64 k.f, .int .i64 k.z, .slice k.a k.n k.c] 83)); have hc3 := (fun j => cell_of_row w3 w1.heap.size j _ _ _ hb3))
              | (go_at_call 62; (with_reducible refine (Copies_any k _ HKL.out).mono ?_); rw [C1.out]; rintro e w5 ⟨rfl, hx5⟩; have hb5 := hx5.heap' (by first | exact hb4 | exact hb3); have hc5 := (fun j => cell_of_row w5 w1.heap.size j _ _ _ hb5)))
            go_ret2
            exact ⟨rfl, ((hx.trans' (Ext.alloc' w1 _)).trans' hx3).trans' hx5⟩
          · have hd : decide (k.f < 0) = false := decide_eq_false (by omega)
            have hd' : decide (base < k.f) = true := decide_eq_true hf0
            go_wp2_with (first
              | ((with_reducible refine atSlot 26 ?_); refine wpList_of_wp rfl (owp_ix (o := ⟨some 26, _, _, _, _, _⟩) _ _ rfl Try.elO rfl hr1 j rfl rfl hjn ?_); intro b3 o3 hc3; have hrg3 := od_range HK.out hc3; clear hc3)
              | ((with_reducible refine atSlot 27 ?_); refine wpList_of_wp rfl (wp_load_mid (op := ⟨some 27, _, _, _, _, _⟩) 83 _ rfl b3 o3 rfl k.cells _ hrg3 Try.underlying83 rfl (by kernel_rfl) ?_); simp only [Od.cells])
              | (go_at_call 62; have _t := t1; (with_reducible refine (Copies_any k _ HKL.out).mono ?_); rw [C1.out]; rintro e w3 ⟨rfl, hx3⟩; clear t1; have hb3 := hx3.heap' (heap_alloc_new w1 (.cells #[.int .i64 k.f, .int .i64 k.z, .slice k.a k.n k.c] 83)); have hc3 := (fun j => cell_of_row w3 w1.heap.size j _ _ _ hb3))
              | (go_at_call 62; (with_reducible refine (Copies_any k _ HKL.out).mono ?_); rw [C1.out]; rintro e w5 ⟨rfl, hx5⟩; have hb5 := hx5.heap' (by first | exact hb4 | exact hb3); have hc5 := (fun j => cell_of_row w5 w1.heap.size j _ _ _ hb5)))
            go_ret2
            exact ⟨rfl, ((hx.trans' (Ext.alloc' w1 _)).trans' hx3).trans' hx5⟩
          · by_cases hg : k.f < 0 ∨ base < k.f
            · rcases hg with hg | hg
              · have hd : decide (k.f < 0) = true := decide_eq_true hg
                go_wp2_with (first
                  | ((with_reducible refine atSlot 26 ?_); refine wpList_of_wp rfl (owp_ix (o := ⟨some 26, _, _, _, _, _⟩) _ _ rfl Try.elO rfl hr1 j rfl rfl hjn ?_); intro b3 o3 hc3; have hrg3 := od_range HK.out hc3; clear hc3)
                  | ((with_reducible refine atSlot 27 ?_); refine wpList_of_wp rfl (wp_load_mid (op := ⟨some 27, _, _, _, _, _⟩) 83 _ rfl b3 o3 rfl k.cells _ hrg3 Try.underlying83 rfl (by kernel_rfl) ?_); simp only [Od.cells])
                  | (go_at_call 62; have _t := t1; (with_reducible refine (Copies_any k _ HKL.out).mono ?_); rw [C1.out]; rintro e w3 ⟨rfl, hx3⟩; clear t1; have hb3 := hx3.heap' (heap_alloc_new w1 (.cells #[.int .i64 k.f, .int .i64 k.z, .slice k.a k.n k.c] 83)); have hc3 := (fun j => cell_of_row w3 w1.heap.size j _ _ _ hb3))
                  | (go_at_call 62; (with_reducible refine (Copies_any k _ HKL.out).mono ?_); rw [C1.out]; rintro e w5 ⟨rfl, hx5⟩; have hb5 := hx5.heap' (by first | exact hb4 | exact hb3); have hc5 := (fun j => cell_of_row w5 w1.heap.size j _ _ _ hb5)))
                go_ret2
                exact ⟨rfl, ((hx.trans' (Ext.alloc' w1 _)).trans' hx3).trans' hx5⟩
              · have hd : decide (k.f < 0) = false := decide_eq_false (by omega)
                have hd' : decide (base < k.f) = true := decide_eq_true hg
                go_wp2_with (first
                  | ((with_reducible refine atSlot 26 ?_); refine wpList_of_wp rfl (owp_ix (o := ⟨some 26, _, _, _, _, _⟩) _ _ rfl Try.elO rfl hr1 j rfl rfl hjn ?_); intro b3 o3 hc3; have hrg3 := od_range HK.out hc3; clear hc3)
                  | ((with_reducible refine atSlot 27 ?_); refine wpList_of_wp rfl (wp_load_mid (op := ⟨some 27, _, _, _, _, _⟩) 83 _ rfl b3 o3 rfl k.cells _ hrg3 Try.underlying83 rfl (by kernel_rfl) ?_); simp only [Od.cells])
                  | (go_at_call 62; have _t := t1; (with_reducible refine (Copies_any k _ HKL.out).mono ?_); rw [C1.out]; rintro e w3 ⟨rfl, hx3⟩; clear t1; have hb3 := hx3.heap' (heap_alloc_new w1 (.cells #[.int .i64 k.f, .int .i64 k.z, .slice k.a k.n k.c] 83)); have hc3 := (fun j => cell_of_row w3 w1.heap.size j _ _ _ hb3))
                  | (go_at_call 62; (with_reducible refine (Copies_any k _ HKL.out).mono ?_); rw [C1.out]; rintro e w5 ⟨rfl, hx5⟩; have hb5 := hx5.heap' (by first | exact hb4 | exact hb3); have hc5 := (fun j => cell_of_row w5 w1.heap.size j _ _ _ hb5)))
                go_ret2
                exact ⟨rfl, ((hx.trans' (Ext.alloc' w1 _)).trans' hx3).trans' hx5⟩
            · have hg1 : 0 ≤ k.f := by omega
              have hg2 : k.f ≤ base := by omega
              have hd : decide (k.f < 0) = false := decide_eq_false (by omega)
              have hd' : decide (base < k.f) = false := decide_eq_false (by omega)
              have hd'' : decide (base - k.f < k.z) = true := decide_eq_true hf0
              clear hg
              go_wp2_with (first
                | ((with_reducible refine atSlot 26 ?_); refine wpList_of_wp rfl (owp_ix (o := ⟨some 26, _, _, _, _, _⟩) _ _ rfl Try.elO rfl hr1 j rfl rfl hjn ?_); intro b3 o3 hc3; have hrg3 := od_range HK.out hc3; clear hc3)
                | ((with_reducible refine atSlot 27 ?_); refine wpList_of_wp rfl (wp_load_mid (op := ⟨some 27, _, _, _, _, _⟩) 83 _ rfl b3 o3 rfl k.cells _ hrg3 Try.underlying83 rfl (by kernel_rfl) ?_); simp only [Od.cells])
                | (go_at_call 62; have _t := t1; (with_reducible refine (Copies_any k _ HKL.out).mono ?_); rw [C1.out]; rintro e w3 ⟨rfl, hx3⟩; clear t1; have hb3 := hx3.heap' (heap_alloc_new w1 (.cells #[.int .i64 k.f, .int .i64 k.z, .slice k.a k.n k.c] 83)); have hc3 := (fun j => cell_of_row w3 w1.heap.size j _ _ _ hb3))
                | (go_at_call 62; (with_reducible refine (Copies_any k _ HKL.out).mono ?_); rw [C1.out]; rintro e w5 ⟨rfl, hx5⟩; have hb5 := hx5.heap' (by first | exact hb4 | exact hb3); have hc5 := (fun j => cell_of_row w5 w1.heap.size j _ _ _ hb5)))
              go_ret2
              exact ⟨rfl, ((hx.trans' (Ext.alloc' w1 _)).trans' hx3).trans' hx5⟩
        · rw [if_neg (fun h => hf0 h.2)] at hst
          have hg1 : 0 ≤ k.f := by omega
          have hg2 : k.f ≤ base := by omega
          have hg3 : k.z ≤ base := by omega
          have hd : decide (k.f < 0) = false := decide_eq_false (by omega)
          have hd' : decide (base < k.f) = false := decide_eq_false (by omega)
          have hd'' : decide (base - k.f < k.z) = false := decide_eq_false (by omega)
          clear c1 c2 hsz hkl hf0
          by_cases hbig : 1048576 < m + k.z.toNat
          · rw [if_pos hbig] at hst
            cases hst
            have hd3 : decide ((1048576 : Int) < (m : Int) + (k.z + (k.n : Int))) = true := decide_eq_true (by omega)
            clear h2
            go_wp2_with (first
              | ((with_reducible refine atSlot 26 ?_); refine wpList_of_wp rfl (owp_ix (o := ⟨some 26, _, _, _, _, _⟩) _ _ rfl Try.elO rfl hr1 j rfl rfl hjn ?_); intro b3 o3 hc3; have hrg3 := od_range HK.out hc3; clear hc3)
              | ((with_reducible refine atSlot 27 ?_); refine wpList_of_wp rfl (wp_load_mid (op := ⟨some 27, _, _, _, _, _⟩) 83 _ rfl b3 o3 rfl k.cells _ hrg3 Try.underlying83 rfl (by kernel_rfl) ?_); simp only [Od.cells])
              | (go_at_call 62; have _t := t1; (with_reducible refine (Copies_any k _ HKL.out).mono ?_); rw [C1.out]; rintro e w3 ⟨rfl, hx3⟩; clear t1; have hb3 := hx3.heap' (heap_alloc_new w1 (.cells #[.int .i64 k.f, .int .i64 k.z, .slice k.a k.n k.c] 83)); have hc3 := (fun j => cell_of_row w3 w1.heap.size j _ _ _ hb3))
              | (go_at_call 62; (with_reducible refine (Copies_any k _ HKL.out).mono ?_); rw [C1.out]; rintro e w5 ⟨rfl, hx5⟩; have hb5 := hx5.heap' (by first | exact hb4 | exact hb3); have hc5 := (fun j => cell_of_row w5 w1.heap.size j _ _ _ hb5)))
            go_ret2
            exact ⟨rfl, ((hx.trans' (Ext.alloc' w1 _)).trans' hx3).trans' hx5⟩
          · rw [if_neg hbig] at hst
            have HST := Lib.hid hst
            have hd3 : decide ((1048576 : Int) < (m : Int) + (k.z + (k.n : Int))) = false := decide_eq_false (by omega)
            have hmz : m + k.z.toNat ≤ 1048576 := by omega
            clear h2 hst hbig
            go_wp2_with (first
              | ((with_reducible refine atSlot 26 ?_); refine wpList_of_wp rfl (owp_ix (o := ⟨some 26, _, _, _, _, _⟩) _ _ rfl Try.elO rfl hr1 j rfl rfl hjn ?_); intro b3 o3 hc3; have hrg3 := od_range HK.out hc3; clear hc3)
              | ((with_reducible refine atSlot 27 ?_); refine wpList_of_wp rfl (wp_load_mid (op := ⟨some 27, _, _, _, _, _⟩) 83 _ rfl b3 o3 rfl k.cells _ hrg3 Try.underlying83 rfl (by kernel_rfl) ?_); simp only [Od.cells])
              | (go_at_call 62; have _t := t1; (with_reducible refine (Copies_any k _ HKL.out).mono ?_); rw [C1.out]; rintro e w3 ⟨rfl, hx3⟩; clear t1; have hb3 := hx3.heap' (heap_alloc_new w1 (.cells #[.int .i64 k.f, .int .i64 k.z, .slice k.a k.n k.c] 83)); have hc3 := (fun j => cell_of_row w3 w1.heap.size j _ _ _ hb3))
              | (go_at_call 62; (with_reducible refine (Copies_any k _ HKL.out).mono ?_); rw [C1.out]; rintro e w5 ⟨rfl, hx5⟩; have hb5 := hx5.heap' (by first | exact hb4 | exact hb3); have hc5 := (fun j => cell_of_row w5 w1.heap.size j _ _ _ hb5)))
            go_roundw
            case rel => exact ⟨j + 1, m + k.z.toNat, by go_num, by have := HN.out; congr 1; omega, by have := HL.out; omega, hmz, HST.out, ((hx.trans' (Ext.alloc' w1 _)).trans' hx3).trans' hx5⟩
            case measure => simp [intOf]; omega
      · rw [if_neg (by rw [c2]; simp), if_neg (by rw [c1]; simp)] at hst
        have C1 := Lib.hid c1
        have C2 := Lib.hid c2
        have hsz : k.d.size = k.n := by unfold Dp.size; rw [c1]; exact hkl
        rw [hsz] at hst
        have HZ := Lib.hid h1
        have hz1 : 0 ≤ k.z := by omega
        have hz2 : k.z ≤ 1 := by omega
        clear c1 c2 hsz hkl h2
        by_cases hbig : 1048576 < m + k.n
        · rw [if_pos hbig] at hst
          cases hst
          have hd3 : decide ((1048576 : Int) < (m : Int) + (k.z + (k.n : Int))) = true := decide_eq_true (by omega)
          clear h1
          go_wp2_with (first
            | ((with_reducible refine atSlot 26 ?_); refine wpList_of_wp rfl (owp_ix (o := ⟨some 26, _, _, _, _, _⟩) _ _ rfl Try.elO rfl hr1 j rfl rfl hjn ?_); intro b3 o3 hc3; have hrg3 := od_range HK.out hc3; clear hc3)
            | ((with_reducible refine atSlot 27 ?_); refine wpList_of_wp rfl (wp_load_mid (op := ⟨some 27, _, _, _, _, _⟩) 83 _ rfl b3 o3 rfl k.cells _ hrg3 Try.underlying83 rfl (by kernel_rfl) ?_); simp only [Od.cells])
            | (go_at_call 62; have _t := t1; (with_reducible refine (Copies_any k _ HKL.out).mono ?_); rw [C1.out]; rintro e w3 ⟨rfl, hx3⟩; clear t1; have hb3 := hx3.heap' (heap_alloc_new w1 (.cells #[.int .i64 k.f, .int .i64 k.z, .slice k.a k.n k.c] 83)); have hc3 := (fun j => cell_of_row w3 w1.heap.size j _ _ _ hb3))
            | (go_at_call 61; (with_reducible refine (Literal_any k _ HKL.out).mono ?_); rw [C2.out]; rintro e w4 ⟨rfl, hx4⟩; have hb4 := hx4.heap' hb3; have hc4 := (fun j => cell_of_row w4 w1.heap.size j _ _ _ hb4))
            | (go_at_call 62; (with_reducible refine (Copies_any k _ HKL.out).mono ?_); rw [C1.out]; rintro e w5 ⟨rfl, hx5⟩; have hb5 := hx5.heap' (by first | exact hb4 | exact hb3); have hc5 := (fun j => cell_of_row w5 w1.heap.size j _ _ _ hb5)))
          go_ret2
          exact ⟨rfl, (((hx.trans' (Ext.alloc' w1 _)).trans' hx3).trans' hx4).trans' hx5⟩
        · rw [if_neg hbig] at hst
          have HST := Lib.hid hst
          have hd3 : decide ((1048576 : Int) < (m : Int) + (k.z + (k.n : Int))) = false := decide_eq_false (by omega)
          have hmz : m + k.n ≤ 1048576 := by omega
          clear h1 hst hbig
          go_wp2_with (first
            | ((with_reducible refine atSlot 26 ?_); refine wpList_of_wp rfl (owp_ix (o := ⟨some 26, _, _, _, _, _⟩) _ _ rfl Try.elO rfl hr1 j rfl rfl hjn ?_); intro b3 o3 hc3; have hrg3 := od_range HK.out hc3; clear hc3)
            | ((with_reducible refine atSlot 27 ?_); refine wpList_of_wp rfl (wp_load_mid (op := ⟨some 27, _, _, _, _, _⟩) 83 _ rfl b3 o3 rfl k.cells _ hrg3 Try.underlying83 rfl (by kernel_rfl) ?_); simp only [Od.cells])
            | (go_at_call 62; have _t := t1; (with_reducible refine (Copies_any k _ HKL.out).mono ?_); rw [C1.out]; rintro e w3 ⟨rfl, hx3⟩; clear t1; have hb3 := hx3.heap' (heap_alloc_new w1 (.cells #[.int .i64 k.f, .int .i64 k.z, .slice k.a k.n k.c] 83)); have hc3 := (fun j => cell_of_row w3 w1.heap.size j _ _ _ hb3))
            | (go_at_call 61; (with_reducible refine (Literal_any k _ HKL.out).mono ?_); rw [C2.out]; rintro e w4 ⟨rfl, hx4⟩; have hb4 := hx4.heap' hb3; have hc4 := (fun j => cell_of_row w4 w1.heap.size j _ _ _ hb4))
            | (go_at_call 62; (with_reducible refine (Copies_any k _ HKL.out).mono ?_); rw [C1.out]; rintro e w5 ⟨rfl, hx5⟩; have hb5 := hx5.heap' (by first | exact hb4 | exact hb3); have hc5 := (fun j => cell_of_row w5 w1.heap.size j _ _ _ hb5)))
          go_roundw
          case rel => exact ⟨j + 1, m + k.n, by go_num, by have := HZ.out; congr 1; omega, by have := HL.out; omega, hmz, HST.out, (((hx.trans' (Ext.alloc' w1 _)).trans' hx3).trans' hx4).trans' hx5⟩
          case measure => simp [intOf]; omega
      · rw [if_pos ⟨c1, c2⟩] at hst
        cases hst
        have C1 := Lib.hid c1
        have C2 := Lib.hid c2
        clear c1 c2 hkl
        go_wp2_with (first
          | ((with_reducible refine atSlot 26 ?_); refine wpList_of_wp rfl (owp_ix (o := ⟨some 26, _, _, _, _, _⟩) _ _ rfl Try.elO rfl hr1 j rfl rfl hjn ?_); intro b3 o3 hc3; have hrg3 := od_range HK.out hc3; clear hc3)
          | ((with_reducible refine atSlot 27 ?_); refine wpList_of_wp rfl (wp_load_mid (op := ⟨some 27, _, _, _, _, _⟩) 83 _ rfl b3 o3 rfl k.cells _ hrg3 Try.underlying83 rfl (by kernel_rfl) ?_); simp only [Od.cells])
          | (go_at_call 62; have _t := t1; (with_reducible refine (Copies_any k _ HKL.out).mono ?_); rw [C1.out]; rintro e w3 ⟨rfl, hx3⟩; clear t1; have hb3 := hx3.heap' (heap_alloc_new w1 (.cells #[.int .i64 k.f, .int .i64 k.z, .slice k.a k.n k.c] 83)); have hc3 := (fun j => cell_of_row w3 w1.heap.size j _ _ _ hb3))
          | (go_at_call 61; (with_reducible refine (Literal_any k _ HKL.out).mono ?_); rw [C2.out]; rintro e w4 ⟨rfl, hx4⟩; have hb4 := hx4.heap' hb3; have hc4 := (fun j => cell_of_row w4 w1.heap.size j _ _ _ hb4)))
        go_ret2
        exact ⟨rfl, ((hx.trans' (Ext.alloc' w1 _)).trans' hx3).trans' hx4⟩
    · obtain rfl : j = n := by omega
      have hend := HI.out
      rw [List.drop_of_length_le (by have := HL.out; omega), List.map_nil] at hend
      simp only [ckF, Prod.mk.injEq] at hend
      obtain ⟨rfl, rfl⟩ := hend
      go_wp2
      go_ret2
      exact ⟨rfl, hx⟩

end Go.Proofs.Ytkhjeeaojlaagaa
