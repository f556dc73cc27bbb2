/-
  The law DeltaNormalizes.
-/
import Derived.Test.YtcljlglmnagodaaDelW
namespace Go.Proofs.Ytcljlglmnagodaa
open Go.RowKit

theorem OwnOps.lens {w : World} {B n c : Nat} {a : Option Addr} {L : List Od} (h : OwnOps w B a n c L) : ∀ y ∈ L, y.l.length = y.n := fun y hy => own_len (h.dat y hy).1
theorem ok_size {N : Nat} : ∀ (L : List Od), (∀ y ∈ L, OpOk N y) → (∀ y ∈ L, y.l.length = y.n) → sizeD (L.map Od.d) ≤ L.length * (N + 4)
  | [], _, _ => by simp [sizeD]
  | y :: L, h, hl => by
    have h1 := ok_size L (fun x hx => h x (List.mem_cons_of_mem _ hx)) (fun x hx => hl x (List.mem_cons_of_mem _ hx))
    obtain ⟨g1, g2, g3, g4, g5⟩ := h y (List.mem_cons_self ..)
    have h2 : sizeD ((y :: L).map Od.d) = y.d.size + sizeD (L.map Od.d) := by simp [sizeD]
    have h3 : y.d.size ≤ N + 4 := by
      have hy := hl y (List.mem_cons_self ..)
      by_cases hc : y.d.copies = true
      · unfold Dp.size; rw [if_pos hc]
        show y.z.toNat ≤ _
        omega
      · unfold Dp.size; rw [if_neg hc]
        show y.l.length ≤ _
        omega
    rw [h2, List.length_cons, Nat.add_mul, Nat.one_mul]
    omega
theorem ok_check {N : Nat} {L : List Od} (h : ∀ y ∈ L, OpOk N y) (hlen : ∀ y ∈ L, y.l.length = y.n) (hl : L.length ≤ 7) (hn : N ≤ 100000) : ckRes N (L.map Od.d) = ((sizeD (L.map Od.d) : Int), 0) := by
  have h1 := ok_size L h hlen
  have h2 : L.length * (N + 4) ≤ 7 * (N + 4) := Nat.mul_le_mul_right _ hl
  exact ckRes_mk (by omega) (by omega) (fun o ho => by
    obtain ⟨y, hy, rfl⟩ := List.mem_map.1 ho
    exact (h y hy).1) (by omega) (by rw [List.length_map]; omega)
theorem nr_len {base : Int} {os D : List Dp} {er : Int} (h : nrRes base os = (D, er)) : D.length ≤ 4096 := by
  unfold nrRes at h
  by_cases he : (ckRes base os).2 = 0
  · rw [if_pos he] at h
    simp only [Prod.mk.injEq] at h
    obtain ⟨rfl, -⟩ := h
    have hk : ckRes base os = ((ckRes base os).1, 0) := by rw [← he]
    obtain ⟨h1, h2, h3, h4, h5, h6⟩ := ckRes_ok hk
    have := normD_length_le os []
    unfold normD
    simp only [List.length_nil, Nat.zero_add] at this
    omega
  · rw [if_neg he] at h
    simp only [Prod.mk.injEq] at h
    rw [← h.1]; exact Nat.zero_le _

set_option maxRecDepth 100000 in
set_option maxHeartbeats 4000000 in
theorem DeltaNormalizes_walk (base : Int) (a : Option Addr) (n c : Nat) (L : List Od) (a1 : Option Addr) (n1 c1 : Nat) (L1 : List Int) (w : World) (_h0 : -9223372036854775808 ≤ base) (_h1 : base ≤ 9223372036854775807) (hR : Ops w a n c L) (hn : n * 40 ≤ 140737488351232)
    (hl : Row w a1 n1 c1 1 (L1.map (Value.int .i64))) (hli : ∀ x ∈ L1, -9223372036854775808 ≤ x ∧ x ≤ 9223372036854775807) (ha1 : ∀ p, a1 = some p → 0 < n1 → p.block < w.heap.size) :
    Calls Try.prog 8 #[.int .i64 base, .slice a n c, .slice a1 n1 c1] w (LawPost w) := by
  have ht : Tape (w.alloc (.cells #[.slice a1 n1 c1, .int .i64 0] 25)) w.heap.size 0 :=
    ⟨a1, n1, c1, L1, heap_alloc_new w _, hl.ext (Ext.alloc' _ _), ha1, hli⟩
  have hx1 : Ext w (w.alloc (.cells #[.slice a1 n1 c1, .int .i64 0] 25)) := Ext.alloc' _ _
  have hR1 := hR.ext hx1
  obtain ⟨D1, er1, hN1⟩ : ∃ D er, nrRes base (L.map Od.d) = (D, er) := ⟨_, _, rfl⟩
  have hd1 := nr_len hN1
  have HT := Lib.hid ht
  have HN1 := Lib.hid hN1
  have HD1 := Lib.hid hd1
  clear ht hN1 hd1
  go_enter Try.func8, Try.ntmps8
  go_wp2_with (first
    | (go_at_call 37; (with_reducible refine (Normalize_any base a n c L _ hR1 (by omega) HN1.out).mono ?_); rintro e w2 ⟨a2, n2, c2, L2, rfl, hL2, hD2, hx2⟩; have hs2 : n2 ≤ 1000000000000 := (by have h := HD1.out; rw [← hD2, List.length_map, hL2.1] at h; omega))
    | (go_at_call 38; (with_reducible refine (refNormalize_any base a n c L _ (hR1.ext hx2) (by omega) HN1.out).mono ?_); rintro e w3 ⟨a3, n3, c3, L3, rfl, hL3, hD3, hx3⟩; have HE := Lib.hid (hD2.trans hD3.symm); clear hD2 hD3)
    | (go_at_call 28; (with_reducible refine (known_any _).mono ?_); rintro e w4 ⟨rfl, hx4⟩; have hS := Same_any a2 n2 c2 a3 n3 c3 L2 L3 w4 ((hL2.ext hx3).ext hx4) (hL3.ext hx4) HE.out hs2)
    | (go_at_call 29; (with_reducible refine hS.mono ?_); rintro e w5 ⟨rfl, hx5⟩; clear hS; have hx25 := ((hx2.trans' hx3).trans' hx4).trans' hx5; have ht5 := HT.out.ext hx25; have hxw5 := hx1.trans' hx25)
    | (go_at_call 24; (with_reducible refine (text_any w.heap.size 0 20 20 (by omega) _ ht5 (by omega) (by omega)).mono ?_); rintro e w6 ⟨a6, m6, c6, k6, l6, rfl, ho6, hm6, ht6, hk6, hg6⟩; have hx6 := hxw5.rd hg6 (Nat.le_refl _))
    | (go_at_call 39; (with_reducible refine (made_any w.heap.size k6 m6 _ ht6 (by omega) (by omega)).mono ?_); rintro e w7 ⟨a7, m7, c7, k7, L7, rfl, hO7, hm7, hok7, ht7, hk7, hg7⟩; refine Stop.of ?_)
    | fail)
  have hb7 := (Bytes.of_own ho6).apart hg7 (fun p hp => by have := own_fresh ho6 p hp; have := hxw5.size; have := ht5.lt; simp at *; omega)
  have hxw7 := hx6.rd hg7 (Nat.le_refl _)
  have hck := ok_check hok7 hO7.lens (by rw [hO7.len]; exact hm7) (by omega)
  obtain ⟨hc2, hnm, hr1, hr2, hlen⟩ := nr_ok hck
  have hckb := hck
  rw [← hb7.len] at hckb
  obtain ⟨hp1, hp2⟩ := nr_apply hckb
  have hops7 := hO7.ops
  obtain ⟨X, hX⟩ : ∃ X, X = normD (L7.map Od.d) := ⟨_, rfl⟩
  rw [← hX] at hnm hr1 hr2 hlen hp2
  have HR1 := Lib.hid hr1
  have HR2 := Lib.hid hr2
  have HP1 := Lib.hid hp1
  have HP2 := Lib.hid hp2
  have HNM := Lib.hid hnm
  have HLEN := Lib.hid hlen
  clear hck hckb hc2 hnm hr1 hr2 hlen hp1 hp2 hX hO7 hok7 ho6 ht6 ht7 hg6 hg7 hk6 hk7 hx6 ht5 hxw5 hx25 hx2 hx3 hx4 hx5 hL2 hL3
  refine Stop.out ?_
  go_wp2_with (first
    | (go_at_call 37; (with_reducible refine (Normalize_any m6 a7 m7 c7 L7 _ hops7 (by omega) HR1.out).mono ?_); rintro e w8 ⟨a8, n8, c8, L8, rfl, hL8, hD8, hx8⟩; have hs8 : n8 ≤ 4096 := (by have h := HLEN.out; rw [← hD8, List.length_map, hL8.1] at h; exact h); have hr8 : nrRes m6 (L8.map Od.d) = (X, 0) := (by rw [hD8]; exact HR2.out); have hp8 : apRes l6 (L8.map Od.d) = (appD l6 (L7.map Od.d), 0) := (by rw [hD8]; exact HP2.out); have hnm8 : Nm (L8.map Od.d) := (by rw [hD8]; exact HNM.out); have HR8 := Lib.hid hr8; have HP8 := Lib.hid hp8; have HNM8 := Lib.hid hnm8; have HD8 := Lib.hid hD8; clear hr8 hp8 hnm8 hD8)
    | (go_at_call 38; (with_reducible refine (refNormalize_any m6 a7 m7 c7 L7 _ (hops7.ext hx8) (by omega) HR1.out).mono ?_); rintro e w9 ⟨a9, n9, c9, L9, rfl, hL9, hD9, hx9⟩; have HE9 := Lib.hid (HD8.out.trans hD9.symm); clear hD9; have hx79 := hx8.trans' hx9)
    | (go_at_call 34; (with_reducible refine (Apply_any a6 m6 c6 l6 a7 m7 c7 L7 _ (hb7.ext hx79) (hops7.ext hx79) (by omega) (by omega) HP1.out).mono ?_); rintro e w10 ⟨a10, n10, c10, rfl, ho10, hx10⟩; have hx710 := hx79.trans' hx10)
    | (go_at_call 34; (with_reducible refine (Apply_any a6 m6 c6 l6 a8 n8 c8 L8 _ (hb7.ext hx710) ((hL8.ext hx9).ext hx10) (by omega) (by omega) HP8.out).mono ?_); rintro e w11 ⟨a11, n11, c11, rfl, ho11, hx11⟩; have hx711 := hx710.trans' hx11; have hL11 := ((hL8.ext hx9).ext hx10).ext hx11)
    | (go_at_call 37; (with_reducible refine (Normalize_any m6 a8 n8 c8 L8 _ hL11 (by omega) HR8.out).mono ?_); rintro e w12 ⟨a12, n12, c12, L12, rfl, hL12, hD12, hx12⟩; have HE12 := Lib.hid (hD12.trans HD8.out.symm); have hs12 : n12 ≤ 4096 := (by have h := HLEN.out; rw [← hD12, List.length_map, hL12.1] at h; exact h); clear hD12; have hL8' := hL11.ext hx12; have hS9 := Same_any a8 n8 c8 a9 n9 c9 L8 L9 w12 hL8' (((hL9.ext hx10).ext hx11).ext hx12) HE9.out (by omega))
    | (go_at_call 29; (with_reducible refine hS9.mono ?_); rintro e w13 ⟨rfl, hx13⟩; clear hS9; have hNo := Normal_any a8 n8 c8 L8 w13 (hL8'.ext hx13) HNM8.out (by omega))
    | (go_at_call 36; (with_reducible refine hNo.mono ?_); rintro e w14 ⟨rfl, hx14⟩; clear hNo; have hb14 := (Bytes.of_own ho10).ext (((hx11.trans' hx12).trans' hx13).trans' hx14); have hc14 := (Bytes.of_own ho11).ext ((hx12.trans' hx13).trans' hx14); have hS12 := Same_any a12 n12 c12 a8 n8 c8 L12 L8 w14 ((hL12.ext hx13).ext hx14) ((hL8'.ext hx13).ext hx14) HE12.out (by omega))
    | ((with_reducible refine atSlot 116 ?_); refine wpList_of_wp rfl (owp_conv (o := ⟨some 116, _, _, _, _, _⟩) _ rfl rfl hb14 Try.underlying26 Try.underlying5 Try.underlying9 ?_))
    | ((with_reducible refine atSlot 118 ?_); refine wpList_of_wp rfl (owp_conv (o := ⟨some 118, _, _, _, _, _⟩) _ rfl rfl hc14 Try.underlying26 Try.underlying5 Try.underlying9 ?_))
    | (go_at_call 29; (with_reducible refine hS12.mono ?_); rintro e w15 ⟨rfl, hx15⟩)
    | fail)
  go_ret
  exact ⟨rfl, ((((hxw7.trans' hx711).trans' hx12).trans' hx13).trans' hx14).trans' hx15⟩
end Go.Proofs.Ytcljlglmnagodaa
