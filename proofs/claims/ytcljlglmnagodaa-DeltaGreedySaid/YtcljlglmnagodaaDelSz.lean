/-
  The law's size.
-/
import Derived.Test.YtcljlglmnagodaaDelV
namespace Go.Proofs.Ytcljlglmnagodaa
open Go.RowKit

def SzRel (w : World) (L : List Od) (s i : Value) (wr : World) : Prop :=
  ∃ j : Nat, i = .int .i64 j ∧ s = .int .i64 (sizeD ((L.take j).map Od.d) : Nat) ∧ j ≤ L.length ∧ Ext w wr
theorem right_size {k : Od} {n : Nat} (hl : k.l.length = n) (h : k.d.copies = true ∨ k.d.literal = true) : 0 ≤ k.z ∧ k.d.size = k.z.toNat + n := by
  rcases od_cases k hl with ⟨c1, c2, h1, h2⟩ | ⟨c1, c2, h1, h2, h3⟩ | ⟨c1, c2, -, -⟩
  · refine ⟨by omega, ?_⟩
    unfold Dp.size; rw [if_pos c1, h2]; rfl
  · refine ⟨by omega, ?_⟩
    unfold Dp.size; rw [c1, h1]
    show k.l.length = 0 + n
    omega
  · rcases h with h | h
    · rw [c1] at h; cases h
    · rw [c2] at h; cases h

set_option maxRecDepth 100000 in
set_option maxHeartbeats 4000000 in
theorem Size_any (a : Option Addr) (n c : Nat) (L : List Od) (w : World) (hL : Ops w a n c L) (hn : n ≤ 140737488355328) (hr : ∀ k ∈ L, k.d.copies = true ∨ k.d.literal = true) {S : Nat} (hS : sizeD (L.map Od.d) = S) (hb : S ≤ 140737488355328) :
    Calls Try.prog 42 #[.slice a n c] w (NewNone (.int .i64 (S : Int)) w) := by
  have HLN := Lib.hid hL.1
  have HS := Lib.hid hS
  have HR := Lib.hid hr
  have hrow := hL.2.1
  clear hS hr
  go_enter Try.func42, Try.ntmps42
  go_wp2
  go_loopw [3, 4] (SzRel w L) (fun _ i _ => n - (intOf i).toNat)
  case atStart => exact ⟨0, rfl, rfl, Nat.zero_le _, Below.refl _ _⟩
  case round =>
    obtain ⟨j, rfl, rfl, hj, hx3⟩ := hrel
    rename World => w3
    have hjn' : j ≤ n := by have := HLN.out; omega
    by_cases hjn : j < n
    rotate_left
    · obtain rfl : j = n := by omega
      have hf : sizeD ((L.take j).map Od.d) = S := by rw [List.take_of_length_le (by have := HLN.out; omega)]; exact HS.out
      have HF := Lib.hid hf
      clear hf
      go_wp2
      go_ret
      exact ⟨by rw [HF.out]; rfl, hx3⟩
    obtain ⟨k, hk⟩ : ∃ k, L[j]? = some k := ⟨_, List.getElem?_eq_getElem (by have := HLN.out; omega)⟩
    have hkl := (hL.2.2 k (List.mem_of_getElem? hk)).1.len
    obtain ⟨hz, hsz⟩ := right_size hkl (HR.out k (List.mem_of_getElem? hk))
    have hst := size_take hk
    have hle := size_take_le L (j + 1)
    rw [HS.out] at hle
    obtain ⟨zn, hzn⟩ := Int.eq_ofNat_of_zero_le hz
    rw [hzn, Int.toNat_natCast] at hsz
    have hr1 := hrow.ext hx3
    have hkn : zn + k.n ≤ S ∧ sizeD ((L.take j).map Od.d) + (zn + k.n) ≤ S := by omega
    obtain ⟨hk1, hk2⟩ := hkn
    obtain ⟨T, hT⟩ : ∃ T, T = sizeD ((L.take j).map Od.d) := ⟨_, rfl⟩
    rw [← hT] at hk2 hst ⊢
    have hst' : sizeD ((L.take (j + 1)).map Od.d) = T + (zn + k.n) := by rw [hst, hsz]
    have HST := Lib.hid hst'
    have HK := Lib.hid hk
    have HZN := Lib.hid hzn
    clear hk hkl hsz hst hst' hle hz hzn hT
    go_wp2
    refine wp_region_e [] (.qs [0, 1, 2, 3, 4, 5, 6, 7, 8, 9, 10, 11, 12, 13, 14] .nil) (by kernel_rfl) (by kernel_rfl) ?_
    iterate 3 ((refine wpY_q rfl rfl _ (fun w' hx' => by go_simp; try rfl) ?_; go_simp))
    refine wpY_ix rfl rfl (.tmp 12) (.tmp 13) rfl Try.elO rfl (fun w' h => hr1.ext h) j rfl rfl hjn ?_
    intro b3 o3 hc3
    have hd3 : ∀ w', Ext w3 w' → w'.cell? ⟨b3, o3 + 1, none⟩ = some (.int .i64 (zn : Int)) := fun w' h => ((hc3 1 (by omega) w' h).trans (od_get HK.out 1 (by omega))).trans (by rw [← HZN.out]; rfl)
    clear hc3
    ((refine wpY_q rfl rfl _ (fun w' hx' => by go_simp; try rfl) ?_; go_simp))
    refine wpY_q rfl rfl (.int .i64 (zn : Int)) (fun w' hx' => by have hb' := hd3 w' hx'; go_simp; try rfl) ?_
    go_simp
    iterate 2 ((refine wpY_q rfl rfl _ (fun w' hx' => by go_simp; try rfl) ?_; go_simp))
    refine wpY_ix rfl rfl (.tmp 17) (.tmp 18) rfl Try.elO rfl (fun w' h => hr1.ext h) j rfl rfl hjn ?_
    intro b4 o4 hc4
    have hd4 : ∀ w', Ext w3 w' → w'.cell? ⟨b4, o4 + 2, none⟩ = some (.slice k.a k.n k.c) := fun w' h => (hc4 2 (by omega) w' h).trans (od_get HK.out 2 (by omega))
    clear hc4
    ((refine wpY_q rfl rfl _ (fun w' hx' => by go_simp; try rfl) ?_; go_simp))
    refine wpY_q rfl rfl (.slice k.a k.n k.c) (fun w' hx' => by have hb' := hd4 w' hx'; go_simp; try rfl) ?_
    go_simp
    have u1 : IntKind.i64.wrap ((zn : Int) + (k.n : Int)) = (zn : Int) + (k.n : Int) := by rw [IntKind.wrap_i64]; omega
    have u2 : IntKind.i64.wrap ((T : Int) + ((zn : Int) + (k.n : Int))) = (T : Int) + ((zn : Int) + (k.n : Int)) := by rw [IntKind.wrap_i64]; omega
    iterate 4 ((refine wpY_q rfl rfl _ (fun w' hx' => by go_simp; try rfl) ?_; go_simp))
    refine wpY_nil ?_
    go_simp
    clear u1 u2 hd3 hd4
    have E5 := hx3.trans' (Ext.drew' w3)
    go_wp2
    go_roundw
    case rel => exact ⟨j + 1, by go_num, congrArg (Value.int IntKind.i64) (by rw [HST.out]; omega), by have := HLN.out; omega, E5⟩
    case measure => simp [intOf]; omega
end Go.Proofs.Ytcljlglmnagodaa
