/-
  The law's known.
-/
import Derived.Test.YtncdcpaelecikaaPackJ
import Derived.Test.YtncdcpaelecikaaFrame
namespace Go.Proofs.Ytncdcpaelecikaa
open Go.RowKit

/-- The chunk of the one byte 4. -/
def ck4 (g : Nat) : Ck := ⟨5, 1, some ⟨g, 0, none⟩, 1, 1, [4]⟩
theorem fp4 : fp [4] = 5 := by decide
theorem known_frames (g : Nat) : frames [ck4 g] = [1, 1, 5, 4] := by
  have e1 : enc 1 = [1] := enc_lt (by decide)
  have e5 : enc 5 = [5] := enc_lt (by decide)
  show (1 :: (enc 1 ++ enc 5 ++ [4])) ++ [] = _
  rw [e1, e5]; rfl
theorem known_enc (g : Nat) : (encRes [ck4 g]).2 = 0 ∧ 10 < (encRes [ck4 g]).1.length ∧ (encRes [ck4 g]).1.take 10 = [83, 89, 80, 75, 1, 1, 5, 4, 0, 1] := by
  have hr : rightB 5 1 [4] = true := by unfold rightB; rw [fp4]; rfl
  have h1 : errAt none [ck4 g] = 0 := by
    show (if rightB 5 1 [4] = false then 290 else if behindB none (ck4 g) = false then 291 else errAt (some (ck4 g)) []) = 0
    rw [hr]; rfl
  have hb : bodyB [ck4 g] = [83, 89, 80, 75, 1, 1, 5, 4, 0, 1] := by
    have e1 : enc 1 = [1] := enc_lt (by decide)
    show magicB ++ frames [ck4 g] ++ [0] ++ enc 1 = _
    rw [known_frames, e1]; rfl
  have hq := enc_le10 (v := fp (bodyB [ck4 g])) (by have := fp_lt (bodyB [ck4 g]); omega)
  have hp := enc_pos (fp (bodyB [ck4 g]))
  have hl : (packB [ck4 g]).length = 10 + (enc (fp (bodyB [ck4 g]))).length := by
    unfold packB; rw [List.length_append]; congr 1; rw [hb]; rfl
  have h : encRes [ck4 g] = (packB [ck4 g], 0) := by
    unfold encRes
    rw [h1, if_neg (by decide), if_neg (by omega)]
  rw [h]
  refine ⟨rfl, by show 10 < (packB [ck4 g]).length; omega, ?_⟩
  show (packB [ck4 g]).take 10 = _
  unfold packB
  rw [hb, List.take_append_of_le_length (by decide)]
  rfl

def EncIs (w : World) (B : List UInt8) (x : Int) (e : Ending) (w' : World) : Prop :=
  ∃ (a : Option Addr) (n c : Nat), e = .returned (.tuple #[.slice a n c, .int .i64 x]) ∧ w'.ownsRow w.heap.size 5 1 (.slice a n c) n (B.map u8) ∧ Ext w w'
theorem known_chunks (w : World) : ∃ W1, W1 = (w.alloc (.cells #[.int .u8 4] 5)).alloc (.cells #[.int .u64 5, .int .i64 1, .slice (some ⟨w.heap.size, 0, none⟩) 1 1] 46) ∧
    Chunks W1 (some ⟨w.heap.size + 1, 0, none⟩) 1 1 [ck4 w.heap.size] ∧ Ext w W1 := by
  refine ⟨_, rfl, ⟨rfl, ?_, fun k hk => ?_⟩, (Ext.alloc' _ _).trans' (Ext.alloc' _ _)⟩
  · have h := Row.new (w.alloc (.cells #[.int .u8 4] 5)) #[.int .u64 5, .int .i64 1, .slice (some ⟨w.heap.size, 0, none⟩) 1 1] 46 1 3 rfl (by decide)
    simpa [ck4, Ck.cells] using h
  · obtain rfl : k = ck4 w.heap.size := by simpa using hk
    refine ⟨?_, (by simp [ck4]), (by simp [ck4])⟩
    have h := (Row.one w (.int .u8 4) 5).ext (Ext.alloc' _ (.cells #[.int .u64 5, .int .i64 1, .slice (some ⟨w.heap.size, 0, none⟩) 1 1] 46))
    exact Bytes.mk' (l := [4]) h
theorem known_ex (g : Nat) (W : World) (hL : Chunks W (some ⟨g + 1, 0, none⟩) 1 1 [ck4 g]) : ∃ bs : List UInt8, 10 < bs.length ∧ bs.take 10 = [83, 89, 80, 75, 1, 1, 5, 4, 0, 1] ∧
    Calls Try.prog 12 #[.slice (some ⟨g + 1, 0, none⟩) 1 1] W (EncIs W bs 0) := by
  obtain ⟨h1, h2, h3⟩ := known_enc g
  refine ⟨(encRes [ck4 g]).1, h2, h3, ?_⟩
  have hE := Encode_any _ _ _ _ _ hL (by decide) (by rw [known_frames]; simp)
  unfold EncPost at hE
  rw [h1] at hE
  exact hE
set_option maxRecDepth 100000 in
set_option maxHeartbeats 3000000 in
theorem known_any (w : World) : Calls Try.prog 14 #[] w (LawPost w) := by
  obtain ⟨W1, hW1, hL, hx1⟩ := known_chunks w
  obtain ⟨bs, hk2, hk3, hE⟩ := known_ex w.heap.size W1 hL
  have HE := Lib.hid hE
  have HK := Lib.hid hk3
  clear hL hE hk3
  go_enter Try.func14, Try.ntmps14
  go_wp2_with (go_at_call 12; rw [← hW1]; (with_reducible refine HE.out.mono ?_); clear hW1; rintro e w1 ⟨a1, n1, c1, rfl, ho1, hx2⟩; have hl1 := own_len ho1; have hb1 := Bytes.of_own ho1; refine Stop.of ?_)
  have hn1 : (10 : Int) < n1 := by omega
  have hd1 : decide ((10 : Int) < n1) = true := by simpa using hn1
  refine Stop.out ?_
  go_wp2_with (first
    | ((with_reducible refine atSlot 20 ?_); refine wpList_of_wp rfl (owp_sl_hi (o := ⟨some 20, _, _, _, _, _⟩) _ _ rfl Try.elB rfl hb1.row 10 rfl rfl (by omega) ?_); intro a2 hr2; have hb2 := Bytes.take hr2; rw [HK.out] at hb2)
    | ((with_reducible refine atSlot 21 ?_); refine wpList_of_wp rfl (owp_conv (o := ⟨some 21, _, _, _, _, _⟩) _ rfl rfl hb2 Try.underlying28 Try.underlying5 Try.underlying9 ?_)))
  go_ret
  exact ⟨rfl, hx1.trans' hx2⟩

theorem frames_le (X : Nat) : ∀ L : List Ck, (∀ k ∈ L, k.l.length ≤ X ∧ (k.s : Int) ≤ 18446744073709551615 ∧ k.z ≤ 9223372036854775807) → (frames L).length ≤ L.length * (X + 21)
  | [], _ => by simp [frames]
  | k :: L, h => by
    have h1 := frames_le X L (fun k hk => h k (List.mem_cons_of_mem _ hk))
    obtain ⟨h2, h3, h4⟩ := h k (List.mem_cons_self ..)
    have e1 := enc_le10 (v := k.s) (by omega)
    have e2 := enc_le10 (v := k.z.toNat) (by omega)
    have e : frames (k :: L) = frameB k.s k.z.toNat k.l ++ frames L := by simp [frames]
    rw [e, List.length_append, List.length_cons, Nat.add_mul, Nat.one_mul]
    simp [frameB]
    omega
theorem OwnCks.frames_le {w : World} {B n c : Nat} {a : Option Addr} {L : List Ck} (h : OwnCks w B a n c L) (hn : n ≤ 1000000) : (frames L).length ≤ 100000000000000 := by
  have h1 := Proofs.Ytncdcpaelecikaa.frames_le 8192 L (fun k hk => by
    obtain ⟨h1, h2, h3, h4⟩ := h.2 k hk
    have := own_len h1
    exact ⟨by omega, h3, h4⟩)
  have h2 := h.len
  have : L.length * (8192 + 21) ≤ 1000000 * (8192 + 21) := Nat.mul_le_mul_right _ (by omega)
  omega

set_option maxRecDepth 100000 in
set_option maxHeartbeats 3000000 in
theorem PackEncodes_walk (a : Option Addr) (n c : Nat) (L : List Ck) (a1 : Option Addr) (n1 c1 : Nat) (l : List Int) (w : World) (hL : Chunks w a n c L) (hn : n ≤ 1000000000000) (hT : (frames L).length ≤ 100000000000000)
    (hl : Row w a1 n1 c1 1 (l.map (Value.int .i64))) (hli : ∀ x ∈ l, -9223372036854775808 ≤ x ∧ x ≤ 9223372036854775807) (ha1 : ∀ p, a1 = some p → 0 < n1 → p.block < w.heap.size) :
    Calls Try.prog 3 #[.slice a n c, .slice a1 n1 c1] w (LawPost w) := by
  have ht : Tape (w.alloc (.cells #[.slice a1 n1 c1, .int .i64 0] 26)) w.heap.size 0 :=
    ⟨a1, n1, c1, l, heap_alloc_new w _, hl.ext (Ext.alloc' _ _), ha1, hli⟩
  have HT := Lib.hid ht
  clear ht
  go_enter Try.func3, Try.ntmps3
  go_wp2_with (go_at_call 11; (with_reducible refine (faulty_any w.heap.size 0 _ HT.out (by omega)).mono ?_); rintro e w1 ⟨a2, m, c2, M, rfl, hM, hm, hg1⟩; refine Stop.of ?_)
  have hw1 : Ext w w1 := (Ext.alloc' _ _).trans ((⟨hg1.os, hg1.tape, hg1.output, hg1.size, fun k hk => hg1.block k (Nat.lt_of_lt_of_le hk (Nat.le_of_lt (alloc_gt w _))) (fun h => by cases h; exact Nat.lt_irrefl _ hk)⟩ : Below w.heap.size _ w1))
  have hMc := hM.chunks
  have hMf := hM.frames_le (by omega)
  have hL1 := hL.ext hw1
  obtain ⟨B1, x1, hr1⟩ : ∃ B1 x1, encRes L = (B1, x1) := ⟨_, _, rfl⟩
  obtain ⟨B2, x2, hr2⟩ : ∃ B1 x1, encRes M = (B1, x1) := ⟨_, _, rfl⟩
  have HR1 := Lib.hid hr1
  have HR2 := Lib.hid hr2
  clear hr1 hr2
  have cE1 : ∀ w', Ext w w' → Calls Try.prog 12 #[.slice a n c] w' (EncIs w' B1 x1) := fun w' h => by
    have h := Encode_any a n c L w' (hL.ext h) hn hT; unfold EncPost at h; rw [HR1.out] at h; exact h
  have cR1 : ∀ w', Ext w w' → Calls Try.prog 13 #[.slice a n c] w' (EncIs w' B1 x1) := fun w' h => by
    have h := refEncode_any a n c L w' (hL.ext h) hn hT; unfold EncPost at h; rw [HR1.out] at h; exact h
  have cE2 : ∀ w', Ext w1 w' → Calls Try.prog 12 #[.slice a2 m c2] w' (EncIs w' B2 x2) := fun w' h => by
    have h := Encode_any a2 m c2 M w' (hMc.ext h) (by omega) hMf; unfold EncPost at h; rw [HR2.out] at h; exact h
  have cR2 : ∀ w', Ext w1 w' → Calls Try.prog 13 #[.slice a2 m c2] w' (EncIs w' B2 x2) := fun w' h => by
    have h := refEncode_any a2 m c2 M w' (hMc.ext h) (by omega) hMf; unfold EncPost at h; rw [HR2.out] at h; exact h
  have HE1 := Lib.hid cE1
  have HF1 := Lib.hid cR1
  have HE2 := Lib.hid cE2
  have HF2 := Lib.hid cR2
  clear cE1 cR1 cE2 cR2
  refine Stop.out ?_
  have t1 : True := trivial
  have t2 : True := trivial
  go_wp2_with (first
    | (go_at_call 12; have _t := t1; (with_reducible refine (HE1.out _ hw1).mono ?_); rintro e w3 ⟨a3, n3, c3, rfl, ho3, hx3⟩; clear t1)
    | (go_at_call 13; have _t := t2; (with_reducible refine (HF1.out _ (hw1.trans' hx3)).mono ?_); rintro e w4 ⟨a4, n4, c4, rfl, ho4, hx4⟩; clear t2)
    | (go_at_call 12; (with_reducible refine (HE2.out _ (hx3.trans' hx4)).mono ?_); rintro e w5 ⟨a5, n5, c5, rfl, ho5, hx5⟩)
    | (go_at_call 13; (with_reducible refine (HF2.out _ ((hx3.trans' hx4).trans' hx5)).mono ?_); rintro e w6 ⟨a6, n6, c6, rfl, ho6, hx6⟩)
    | (go_at_call 14; (with_reducible refine (known_any _).mono ?_); rintro e w7 ⟨rfl, hx7⟩; have hb3 := (Bytes.of_own ho3).ext (((hx4.trans' hx5).trans' hx6).trans' hx7); have hb4 := (Bytes.of_own ho4).ext ((hx5.trans' hx6).trans' hx7); have hb5 := (Bytes.of_own ho5).ext (hx6.trans' hx7); have hb6 := (Bytes.of_own ho6).ext hx7)
    | ((with_reducible refine atSlot 48 ?_); refine wpList_of_wp rfl (owp_conv (o := ⟨some 48, _, _, _, _, _⟩) _ rfl rfl hb3 Try.underlying28 Try.underlying5 Try.underlying9 ?_))
    | ((with_reducible refine atSlot 50 ?_); refine wpList_of_wp rfl (owp_conv (o := ⟨some 50, _, _, _, _, _⟩) _ rfl rfl hb4 Try.underlying28 Try.underlying5 Try.underlying9 ?_))
    | ((with_reducible refine atSlot 60 ?_); refine wpList_of_wp rfl (owp_conv (o := ⟨some 60, _, _, _, _, _⟩) _ rfl rfl hb5 Try.underlying28 Try.underlying5 Try.underlying9 ?_))
    | ((with_reducible refine atSlot 62 ?_); refine wpList_of_wp rfl (owp_conv (o := ⟨some 62, _, _, _, _, _⟩) _ rfl rfl hb6 Try.underlying28 Try.underlying5 Try.underlying9 ?_)))
  go_ret
  exact ⟨rfl, ((((hw1.trans' hx3).trans' hx4).trans' hx5).trans' hx6).trans' hx7⟩
end Go.Proofs.Ytncdcpaelecikaa
