/-
  The laws DeltaAssociates and DeltaChains.
-/
import Derived.Test.YtcljlglmnagodaaDelCl
import Derived.Test.YtcljlglmnagodaaDelN
namespace Go.Proofs.Ytcljlglmnagodaa
open Go.RowKit

theorem ok_of {N : Nat} {L : List Od} (h : ∀ y ∈ L, OpOk N y) : ∀ o ∈ L.map Od.d, o.ok N := fun o ho => by
  obtain ⟨y, hy, rfl⟩ := List.mem_map.1 ho
  exact (h y hy).1
theorem comp_good {N : Nat} {A B : List Dp} (hA : ∀ o ∈ A, o.ok N) (hB : ∀ o ∈ B, o.ok (sizeD A)) (hN : N ≤ 1048576) (hsA : sizeD A ≤ 1048576) (hsB : sizeD B ≤ 1048576) (hlA : A.length ≤ 4096) (hlB : B.length ≤ 4096) (hl : B.length * (A.length + 1) ≤ 4096) :
    compRes N A B = (normD (seqC A B), 0) ∧ (∀ o ∈ normD (seqC A B), o.ok N) ∧ sizeD (normD (seqC A B)) = sizeD B ∧ (normD (seqC A B)).length ≤ B.length * (A.length + 1) := by
  have h1 := comp_ok hA hB
  have h2 : (normD (seqC A B)).length ≤ B.length * (A.length + 1) := by
    have h3 := normD_length_le (seqC A B) []
    have h4 := seqC_length A B
    unfold normD
    simp only [List.length_nil, Nat.zero_add] at h3
    omega
  refine ⟨?_, h1.1, h1.2, h2⟩
  have hk := ckRes_mk (base := N) (by omega) (by omega) hA hsA hlA
  have hk2 := ckRes_mk (base := (sizeD A : Int)) (by omega) (by omega) hB (by omega) hlB
  unfold compRes
  rw [hk]
  simp only [hk2, ne_eq, not_true_eq_false, if_false]
  rw [if_neg (by omega)]

set_option maxRecDepth 100000 in
set_option maxHeartbeats 8000000 in
theorem DeltaAssociates_walk (a1 : Option Addr) (n1 c1 : Nat) (L1 : List Int) (w : World)
    (hl : Row w a1 n1 c1 1 (L1.map (Value.int .i64))) (hli : ∀ x ∈ L1, -9223372036854775808 ≤ x ∧ x ≤ 9223372036854775807) (ha1 : ∀ p, a1 = some p → 0 < n1 → p.block < w.heap.size) :
    Calls Try.prog 11 #[.slice a1 n1 c1] w (LawPost w) := by
  have ht : Tape (w.alloc (.cells #[.slice a1 n1 c1, .int .i64 0] 25)) w.heap.size 0 :=
    ⟨a1, n1, c1, L1, heap_alloc_new w _, hl.ext (Ext.alloc' _ _), ha1, hli⟩
  have hx1 : Ext w (w.alloc (.cells #[.slice a1 n1 c1, .int .i64 0] 25)) := Ext.alloc' _ _
  have HT := Lib.hid ht
  clear ht
  go_enter Try.func11, Try.ntmps11
  go_upto_region 4 with (first
    | (go_at_call 25; (with_reducible refine (Next_any w.heap.size 0 20 _ HT.out (by omega) (by omega)).mono ?_); rintro e w2 ⟨N, rfl, hN, ht2, hg2⟩; have hx2 := hx1.rd hg2 (Nat.le_refl _); have hN' : N ≤ 19 := (by unfold Below1 at hN; omega); clear hN)
    | (go_at_call 39; (with_reducible refine (made_any w.heap.size 1 N _ ht2 (by omega) (by omega)).mono ?_); rintro e w3 ⟨a3, m3, c3, k3, L3, rfl, hO3, hm3, hok3, ht3, hk3, hg3⟩; have hx3 := hx2.rd hg3 (Nat.le_refl _))
    | fail)
  have hgl2 : w.heap.size < w2.heap.size := ht2.lt
  have hl3 : L3.length ≤ 7 := by rw [hO3.len]; exact hm3
  have hS3 : sizeD (L3.map Od.d) ≤ 161 := by have h1 := ok_size L3 hok3 hO3.lens; have := Nat.mul_le_mul hl3 (show N + 4 ≤ 23 by omega); omega
  obtain ⟨S3, hS3e⟩ : ∃ S3, S3 = sizeD (L3.map Od.d) := ⟨_, rfl⟩
  rw [← hS3e] at hS3
  have HS3 := Lib.hid hS3e
  clear hS3e
  clear hg2 hg3 ht2
  go_upto_region 5 with (first
    | (go_at_call 42; (with_reducible refine (Size_any a3 m3 c3 L3 _ hO3.ops (by omega) (fun y hy => ok_right (hok3 y hy)) HS3.out.symm (by omega)).mono ?_); rintro e w4 ⟨rfl, hx4⟩; have ht4 := ht3.ext hx4; have hO4 := hO3.ext hx4; have hxw4 := hx3.trans' hx4; clear hO3 ht3)
    | (go_at_call 39; (with_reducible refine (made_any w.heap.size k3 S3 _ ht4 (by omega) (by omega)).mono ?_); rintro e w5 ⟨a5, m5, c5, k5, L5, rfl, hO5, hm5, hok5, ht5, hk5, hg5⟩; have hxw5 := hxw4.rd hg5 (Nat.le_refl _); have hO35 := hO4.kept hg5 hgl2; clear hO4)
    | fail)
  have hgl4 : w.heap.size < w4.heap.size := ht4.lt
  have hl5 : L5.length ≤ 7 := by rw [hO5.len]; exact hm5
  have hS5 : sizeD (L5.map Od.d) ≤ 1155 := by have h1 := ok_size L5 hok5 hO5.lens; have := Nat.mul_le_mul hl5 (show S3 + 4 ≤ 165 by omega); omega
  obtain ⟨S5, hS5e⟩ : ∃ S5, S5 = sizeD (L5.map Od.d) := ⟨_, rfl⟩
  rw [← hS5e] at hS5
  have HS5 := Lib.hid hS5e
  clear hS5e
  clear hg5 ht4
  go_upto_region 6 with (first
    | (go_at_call 42; (with_reducible refine (Size_any a5 m5 c5 L5 _ hO5.ops (by omega) (fun y hy => ok_right (hok5 y hy)) HS5.out.symm (by omega)).mono ?_); rintro e w6 ⟨rfl, hx6⟩; have ht6 := ht5.ext hx6; have hO6 := hO5.ext hx6; have hO36 := hO35.ext hx6; have hxw6 := hxw5.trans' hx6; clear hO5 ht5 hO35)
    | (go_at_call 39; (with_reducible refine (made_any w.heap.size k5 S5 _ ht6 (by omega) (by omega)).mono ?_); rintro e w7 ⟨a7, m7, c7, k7, L7, rfl, hO7, hm7, hok7, ht7, hk7, hg7⟩; have hxw7 := hxw6.rd hg7 (Nat.le_refl _); have hO57 := hO6.kept hg7 hgl4; have hO37 := hO36.kept hg7 hgl2; clear hO6 hO36)
    | fail)
  have hl7 : L7.length ≤ 7 := by rw [hO7.len]; exact hm7
  have hS7 : sizeD (L7.map Od.d) ≤ 8113 := by have h1 := ok_size L7 hok7 hO7.lens; have := Nat.mul_le_mul hl7 (show S5 + 4 ≤ 1159 by omega); omega
  obtain ⟨A, hA⟩ : ∃ A, A = L3.map Od.d := ⟨_, rfl⟩
  obtain ⟨B, hB⟩ : ∃ B, B = L5.map Od.d := ⟨_, rfl⟩
  obtain ⟨C, hC⟩ : ∃ C, C = L7.map Od.d := ⟨_, rfl⟩
  have hAl : A.length ≤ 7 := by rw [hA, List.length_map]; exact hl3
  have hBl : B.length ≤ 7 := by rw [hB, List.length_map]; exact hl5
  have hCl : C.length ≤ 7 := by rw [hC, List.length_map]; exact hl7
  have e3 := HS3.out
  have e5 := HS5.out
  rw [← hA] at e3
  rw [← hB] at e5
  rw [← hC] at hS7
  have hA' : ∀ o ∈ A, o.ok N := by rw [hA]; exact ok_of hok3
  have hB' : ∀ o ∈ B, o.ok (sizeD A) := by rw [hB, ← e3]; exact ok_of hok5
  have hC' : ∀ o ∈ C, o.ok (sizeD B) := by rw [hC, ← e5]; exact ok_of hok7
  obtain ⟨r1, p1, q1, t1⟩ := comp_good hA' hB' (by omega) (by omega) (by omega) (by omega) (by omega) (by have := Nat.mul_le_mul hBl (show A.length + 1 ≤ 8 by omega); omega)
  have t1' : (normD (seqC A B)).length ≤ 56 := by have := Nat.mul_le_mul hBl (show A.length + 1 ≤ 8 by omega); omega
  obtain ⟨r2, p2, q2, t2⟩ := comp_good p1 (B := C) (by rw [q1]; exact hC') (by omega) (by omega) (by omega) (by omega) (by omega) (by have := Nat.mul_le_mul hCl (show (normD (seqC A B)).length + 1 ≤ 57 by omega); omega)
  have t2' : (normD (seqC (normD (seqC A B)) C)).length ≤ 399 := by have := Nat.mul_le_mul hCl (show (normD (seqC A B)).length + 1 ≤ 57 by omega); omega
  obtain ⟨r3, p3, q3, t3⟩ := comp_good hB' hC' (by omega) (by omega) (by omega) (by omega) (by omega) (by have := Nat.mul_le_mul hCl (show B.length + 1 ≤ 8 by omega); omega)
  have t3' : (normD (seqC B C)).length ≤ 56 := by have := Nat.mul_le_mul hCl (show B.length + 1 ≤ 8 by omega); omega
  obtain ⟨r4, p4, q4, t4⟩ := comp_good hA' p3 (by omega) (by omega) (by omega) (by omega) (by omega) (by have := Nat.mul_le_mul t3' (show A.length + 1 ≤ 8 by omega); omega)
  have hassoc := comp_assoc hA' hB' hC'
  rw [← hassoc] at r4
  rw [← e3] at r3
  obtain ⟨X1, hX1⟩ : ∃ X, X = normD (seqC A B) := ⟨_, rfl⟩
  obtain ⟨X3, hX3⟩ : ∃ X, X = normD (seqC B C) := ⟨_, rfl⟩
  rw [← hX1] at r1 r2 r4 t1' t2'
  rw [← hX3] at r3 r4 t3'
  obtain ⟨X2, hX2⟩ : ∃ X, X = normD (seqC X1 C) := ⟨_, rfl⟩
  rw [← hX2] at r2 r4 t2'
  rw [hA, hB] at r1
  rw [hC] at r2
  rw [hB, hC] at r3
  rw [hA] at r4
  have R1 := Lib.hid r1
  have R2 := Lib.hid r2
  have R3 := Lib.hid r3
  have R4 := Lib.hid r4
  have T1 := Lib.hid t1'
  have T2 := Lib.hid t2'
  have T3 := Lib.hid t3'
  have HOK3 := Lib.hid hok3
  clear r1 r2 r3 r4 t1 t2 t3 t4 t1' t2' t3' p1 p2 p3 p4 q1 q2 q3 q4 hassoc hX1 hX2 hX3 hA' hB' hC' hA hB hC hAl hBl hCl e3 e5 hok3 hok5 hok7 hg7 ht6
  go_upto_region 10 with (first
    | (go_at_call 43; (with_reducible refine (Compose_any N a3 m3 c3 L3 a5 m5 c5 L5 _ hO37.ops hO57.ops (by omega) (by omega) R1.out).mono ?_); rintro e w8 ⟨a8, n8, c8, L8, rfl, hL8, hD8, hx8⟩; have hs8 : n8 ≤ 56 := (by have h := T1.out; rw [← hD8, List.length_map, hL8.1] at h; exact h); have hr8 : compRes N (L8.map Od.d) (L7.map Od.d) = (X2, 0) := (by rw [hD8]; exact R2.out); have HR8 := Lib.hid hr8; clear hr8 hD8)
    | (go_at_call 43; (with_reducible refine (Compose_any N a8 n8 c8 L8 a7 m7 c7 L7 _ hL8 (hO7.ops.ext hx8) (by omega) (by omega) HR8.out).mono ?_); rintro e w9 ⟨a9, n9, c9, L9, rfl, hL9, hD9, hx9⟩; have HD9 := Lib.hid hD9; have hs9 : n9 ≤ 399 := (by have h := T2.out; rw [← hD9, List.length_map, hL9.1] at h; exact h); clear hD9; have hx79 := hx8.trans' hx9)
    | (go_at_call 42; (with_reducible refine (Size_any a3 m3 c3 L3 _ (hO37.ops.ext hx79) (by omega) (fun y hy => ok_right (HOK3.out y hy)) HS3.out.symm (by omega)).mono ?_); rintro e w10 ⟨rfl, hx10⟩; have hx710 := hx79.trans' hx10)
    | (go_at_call 43; (with_reducible refine (Compose_any S3 a5 m5 c5 L5 a7 m7 c7 L7 _ (hO57.ops.ext hx710) (hO7.ops.ext hx710) (by omega) (by omega) R3.out).mono ?_); rintro e w11 ⟨a11, n11, c11, L11, rfl, hL11, hD11, hx11⟩; have hs11 : n11 ≤ 56 := (by have h := T3.out; rw [← hD11, List.length_map, hL11.1] at h; exact h); have hr11 : compRes N (L3.map Od.d) (L11.map Od.d) = (X2, 0) := (by rw [hD11]; exact R4.out); have HR11 := Lib.hid hr11; clear hr11 hD11; have hx711 := hx710.trans' hx11)
    | (go_at_call 43; (with_reducible refine (Compose_any N a3 m3 c3 L3 a11 n11 c11 L11 _ (hO37.ops.ext hx711) hL11 (by omega) (by omega) HR11.out).mono ?_); rintro e w12 ⟨a12, n12, c12, L12, rfl, hL12, hD12, hx12⟩; have HE := Lib.hid (HD9.out.trans hD12.symm); clear hD12; have hL912 := hL9.ext ((hx10.trans' hx11).trans' hx12); have hxw12 := (hxw7.trans' hx711).trans' hx12)
    | fail)
  go_wp2_with (first
    | (go_at_call 28; (with_reducible refine (known_any _).mono ?_); rintro e w13 ⟨rfl, hx13⟩; have hS := Same_any a9 n9 c9 a12 n12 c12 L9 L12 w13 (hL912.ext hx13) (hL12.ext hx13) HE.out (by omega))
    | (go_at_call 29; (with_reducible refine hS.mono ?_); rintro e w14 ⟨rfl, hx14⟩; clear hS)
    | fail)
  go_ret
  exact ⟨rfl, (hxw12.trans' hx13).trans' hx14⟩

theorem ap_good {b : List UInt8} {os : List Dp} (h : ∀ o ∈ os, o.ok b.length) (hb : b.length ≤ 1048576) (hs : sizeD os ≤ 1048576) (hl : os.length ≤ 4096) : apRes b os = (appD b os, 0) := by
  unfold apRes
  rw [ckRes_mk (base := (b.length : Int)) (by omega) (by omega) h hs hl, if_pos rfl]

set_option maxRecDepth 100000 in
set_option maxHeartbeats 8000000 in
theorem DeltaChains_walk (a1 : Option Addr) (n1 c1 : Nat) (L1 : List Int) (w : World)
    (hl : Row w a1 n1 c1 1 (L1.map (Value.int .i64))) (hli : ∀ x ∈ L1, -9223372036854775808 ≤ x ∧ x ≤ 9223372036854775807) (ha1 : ∀ p, a1 = some p → 0 < n1 → p.block < w.heap.size) :
    Calls Try.prog 14 #[.slice a1 n1 c1] w (LawPost w) := by
  have ht : Tape (w.alloc (.cells #[.slice a1 n1 c1, .int .i64 0] 25)) w.heap.size 0 :=
    ⟨a1, n1, c1, L1, heap_alloc_new w _, hl.ext (Ext.alloc' _ _), ha1, hli⟩
  have hx1 : Ext w (w.alloc (.cells #[.slice a1 n1 c1, .int .i64 0] 25)) := Ext.alloc' _ _
  have HT := Lib.hid ht
  clear ht
  go_enter Try.func14, Try.ntmps14
  go_upto_region 4 with (first
    | (go_at_call 24; (with_reducible refine (text_any w.heap.size 0 20 20 (by omega) _ HT.out (by omega) (by omega)).mono ?_); rintro e w2 ⟨a2, N, c2, k2, l2, rfl, ho2, hm2, ht2, hk2, hg2⟩; have hx2 := hx1.rd hg2 (Nat.le_refl _))
    | (go_at_call 39; (with_reducible refine (made_any w.heap.size k2 N _ ht2 (by omega) (by omega)).mono ?_); rintro e w3 ⟨a3, m3, c3, k3, L3, rfl, hO3, hm3, hok3, ht3, hk3, hg3⟩; have hx3 := hx2.rd hg3 (Nat.le_refl _))
    | fail)
  have hgl2 : w.heap.size < w2.heap.size := ht2.lt
  have hb3 := (Bytes.of_own ho2).apart hg3 (fun p hp => by have := own_fresh ho2 p hp; simp at this; omega)
  have hl3 : L3.length ≤ 7 := by rw [hO3.len]; exact hm3
  have hS3 : sizeD (L3.map Od.d) ≤ 168 := by have h1 := ok_size L3 hok3 hO3.lens; have := Nat.mul_le_mul hl3 (show N + 4 ≤ 24 by omega); omega
  obtain ⟨S3, hS3e⟩ : ∃ S3, S3 = sizeD (L3.map Od.d) := ⟨_, rfl⟩
  rw [← hS3e] at hS3
  have HS3 := Lib.hid hS3e
  have hln := hb3.len
  have ho2l : ∀ p, a2 = some p → w.heap.size < p.block := fun p hp => by have := own_fresh ho2 p hp; simp at this; omega
  clear hS3e hg2 hg3 ht2 ho2
  go_upto_region 5 with (first
    | (go_at_call 42; (with_reducible refine (Size_any a3 m3 c3 L3 _ hO3.ops (by omega) (fun y hy => ok_right (hok3 y hy)) HS3.out.symm (by omega)).mono ?_); rintro e w4 ⟨rfl, hx4⟩; have ht4 := ht3.ext hx4; have hO4 := hO3.ext hx4; have hb4 := hb3.ext hx4; have hxw4 := hx3.trans' hx4; clear hO3 ht3 hb3)
    | (go_at_call 39; (with_reducible refine (made_any w.heap.size k3 S3 _ ht4 (by omega) (by omega)).mono ?_); rintro e w5 ⟨a5, m5, c5, k5, L5, rfl, hO5, hm5, hok5, ht5, hk5, hg5⟩; have hxw5 := hxw4.rd hg5 (Nat.le_refl _); have hO35 := hO4.kept hg5 hgl2; clear hO4)
    | fail)
  have hb5 := hb4.apart hg5 (fun p hp => by have := ho2l p hp; omega)
  have hl5 : L5.length ≤ 7 := by rw [hO5.len]; exact hm5
  have hS5 : sizeD (L5.map Od.d) ≤ 1204 := by have h1 := ok_size L5 hok5 hO5.lens; have := Nat.mul_le_mul hl5 (show S3 + 4 ≤ 172 by omega); omega
  obtain ⟨A, hA⟩ : ∃ A, A = L3.map Od.d := ⟨_, rfl⟩
  obtain ⟨B, hB⟩ : ∃ B, B = L5.map Od.d := ⟨_, rfl⟩
  have hAl : A.length ≤ 7 := by rw [hA, List.length_map]; exact hl3
  have hBl : B.length ≤ 7 := by rw [hB, List.length_map]; exact hl5
  have e3 := HS3.out
  rw [← hA] at e3
  rw [← hB] at hS5
  have hA' : ∀ o ∈ A, o.ok l2.length := by rw [hA, hln]; exact ok_of hok3
  have hB' : ∀ o ∈ B, o.ok (sizeD A) := by rw [hB, ← e3]; exact ok_of hok5
  obtain ⟨r1, p1, q1, t1⟩ := comp_good hA' hB' (by omega) (by omega) (by omega) (by omega) (by omega) (by have := Nat.mul_le_mul hBl (show A.length + 1 ≤ 8 by omega); omega)
  have t1' : (normD (seqC A B)).length ≤ 56 := by have := Nat.mul_le_mul hBl (show A.length + 1 ≤ 8 by omega); omega
  have f1 := ap_good hA' (by omega) (by omega) (by omega)
  have hxl : (appD l2 A).length = sizeD A := appD_length hA'
  have f2 := ap_good (b := appD l2 A) (by rw [hxl]; exact hB') (by omega) (by omega) (by omega)
  have f3 := ap_good p1 (by omega) (by omega) (by omega)
  rw [comp_app hA' hB'] at f3
  obtain ⟨X, hX⟩ : ∃ X, X = normD (seqC A B) := ⟨_, rfl⟩
  obtain ⟨Y, hY⟩ : ∃ Y, Y = appD l2 A := ⟨_, rfl⟩
  obtain ⟨Z, hZ⟩ : ∃ Z, Z = appD Y B := ⟨_, rfl⟩
  rw [← hX] at r1 f3 t1'
  rw [← hY] at f1 f2 f3 hxl
  rw [← hZ] at f2 f3
  rw [hA, hB, hln] at r1
  rw [hA] at f1
  rw [hB] at f2
  have R1 := Lib.hid r1
  have F1 := Lib.hid f1
  have F2 := Lib.hid f2
  have F3 := Lib.hid f3
  have T1 := Lib.hid t1'
  have HXL := Lib.hid hxl
  have E3 := Lib.hid e3
  clear r1 f1 f2 f3 t1 t1' p1 q1 hX hY hZ hA' hB' hA hB hAl hBl e3 hok3 hok5 hg5 hln hxl
  go_wp2_with (first
    | (go_at_call 43; (with_reducible refine (Compose_any N a3 m3 c3 L3 a5 m5 c5 L5 _ hO35.ops hO5.ops (by omega) (by omega) R1.out).mono ?_); rintro e w8 ⟨a8, n8, c8, L8, rfl, hL8, hD8, hx8⟩; have hs8 : n8 ≤ 56 := (by have h := T1.out; rw [← hD8, List.length_map, hL8.1] at h; exact h); have hr8 : apRes l2 (L8.map Od.d) = (Z, 0) := (by rw [hD8]; exact F3.out); have HR8 := Lib.hid hr8; clear hr8 hD8)
    | (go_at_call 34; (with_reducible refine (Apply_any a2 N c2 l2 a3 m3 c3 L3 _ (hb5.ext hx8) (hO35.ops.ext hx8) (by omega) (by omega) F1.out).mono ?_); rintro e w9 ⟨a9, n9, c9, rfl, ho9, hx9⟩; have hb9 := Bytes.of_own ho9; have hx79 := hx8.trans' hx9; have hn9 : n9 ≤ 168 := (by have h1 := hb9.len; have h2 := HXL.out; have h3 := E3.out; omega))
    | (go_at_call 34; (with_reducible refine (Apply_any a9 n9 c9 Y a5 m5 c5 L5 _ hb9 (hO5.ops.ext hx79) (by omega) (by omega) F2.out).mono ?_); rintro e w10 ⟨a10, n10, c10, rfl, ho10, hx10⟩; have hx710 := hx79.trans' hx10)
    | (go_at_call 34; (with_reducible refine (Apply_any a2 N c2 l2 a8 n8 c8 L8 _ (hb5.ext hx710) (hL8.ext (hx9.trans' hx10)) (by omega) (by omega) HR8.out).mono ?_); rintro e w11 ⟨a11, n11, c11, rfl, ho11, hx11⟩)
    | (go_at_call 28; (with_reducible refine (known_any _).mono ?_); rintro e w12 ⟨rfl, hx12⟩; have hb12 := (Bytes.of_own ho10).ext (hx11.trans' hx12); have hc12 := (Bytes.of_own ho11).ext hx12)
    | ((with_reducible refine atSlot 73 ?_); refine wpList_of_wp rfl (owp_conv (o := ⟨some 73, _, _, _, _, _⟩) _ rfl rfl hb12 Try.underlying26 Try.underlying5 Try.underlying9 ?_))
    | ((with_reducible refine atSlot 75 ?_); refine wpList_of_wp rfl (owp_conv (o := ⟨some 75, _, _, _, _, _⟩) _ rfl rfl hc12 Try.underlying26 Try.underlying5 Try.underlying9 ?_))
    | fail)
  go_ret
  exact ⟨rfl, ((hxw5.trans' hx710).trans' hx11).trans' hx12⟩
end Go.Proofs.Ytcljlglmnagodaa
