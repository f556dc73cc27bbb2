/-
  Texts as Go strings; layer path: IsByte, Component.
-/
import Derived.Test.YtejljmikammcdaaGreatDoorGenT
import Derived.Test.YtejljmikammcdaaGreatDoorJoined4
import Derived.Lib.Strings
namespace Go.Proofs.YtejljmikammcdaaGreatDoor
open Go.RowKit

/-- A text as a Go string. -/
def bs (l : Str) : ByteArray := ⟨l.toArray⟩
@[go_sem] theorem bs_size (l : Str) : (bs l).size = l.length := by simp [bs, ByteArray.size]
theorem bs_data (l : Str) : (bs l).data.toList = l := by simp [bs]
@[go_sem] theorem bs_list (l : Str) : (bs l).toList = l := by rw [Lib.toList_data, bs_data]
theorem bs_get (l : Str) (i : Nat) (h : i < (bs l).size) : (bs l)[i] = l[i]'(by rw [← bs_size]; exact h) := rfl
theorem bs_ext {a b : ByteArray} (h : a.data.toList = b.data.toList) : a = b := by
  cases a; cases b
  simp at h
  rw [h]
theorem bs_extract (l : Str) (a b : Nat) : (bs l).extract a b = bs ((l.drop a).take (b - a)) := bs_ext (by rw [Lib.extract_data, bs_data, bs_data])
@[go_sem] theorem bs_suf (l : Str) : (bs l).extract 1 l.length = bs (suf l) := by
  rw [bs_extract, List.take_of_length_le (by rw [List.length_drop]; exact Nat.le_refl _)]; rfl
@[go_sem] theorem bs_append (a b : Str) : bs a ++ bs b = bs (a ++ b) := bs_ext (by simp [bs_data, ByteArray.data_append])

set_option maxHeartbeats 1000000 in
theorem IsByte_any (c : UInt8) (w : World) : Calls Tryz.prog 133 #[.int .u8 (c.toNat : Int)] w (Ret (.bool (isB c)) w) := by
  unfold isB
  generalize c.toNat = n
  go_enter Tryz.func133, Tryz.ntmps133
  go_wp2
  all_goals (go_ret; refine ⟨ret_bool (Bool.eq_iff_iff.2 ?_), rfl⟩; first | (simp; done) | (simp; omega) | (simp_all; omega))

theorem bs_at {l : Str} {i : Nat} {c : UInt8} (h : l[i]? = some c) : ∀ h' : i < (bs l).size, (bs l)[i]'h' = c := fun h' => by
  rw [bs_get]; exact (List.getElem?_eq_some_iff.1 h).2
theorem take_all {l : Str} {j : Nat} {c : UInt8} (h : (l.take j).all isB = true) (hc : l[j]? = some c) : (l.take (j + 1)).all isB = isB c := by
  rw [List.take_add_one, hc, List.all_append, h]; simp

def CompRel (l : Str) (i : Value) : Prop := ∃ j : Nat, i = .int .i64 j ∧ j ≤ l.length ∧ (l.take j).all isB = true
set_option maxHeartbeats 1000000 in
theorem Component_any (l : Str) (w : World) (hl : l.length < 4611686018427387904) : Calls Tryz.prog 123 #[.string (bs l)] w (Ret (.bool (compB l)) w) := by
  obtain ⟨r, hr⟩ : ∃ r, r = compB l := ⟨_, rfl⟩
  rw [← hr]
  have HR := Lib.hid hr
  clear hr
  rcases l with - | ⟨x, u⟩
  · go_enter Tryz.func123, Tryz.ntmps123
    go_wp2
    go_ret
    exact ⟨ret_bool (by rw [HR.out]; rfl), rfl⟩
  by_cases hx : x = 46
  · subst hx
    have h0 := bs_at (l := 46 :: u) (i := 0) rfl
    go_enter Tryz.func123, Tryz.ntmps123
    go_wp2
    go_ret
    exact ⟨ret_bool (by rw [HR.out]; simp [compB]), rfl⟩
  have h0 := bs_at (l := x :: u) (i := 0) rfl
  have h1 : ((x.toNat : Int) == 46) = false := by
    apply beq_eq_false_iff_ne.2
    intro e
    exact hx (UInt8.toNat_inj.1 (by have : x.toNat = 46 := by omega
                                    rw [this]; rfl))
  have hcb : compB (x :: u) = (x :: u).all isB := by
    unfold compB
    have : [46].isPrefixOf (x :: u) = false := by
      show ((46 : UInt8) == x && List.isPrefixOf [] u) = false
      rw [beq_eq_false_iff_ne.2 (fun e => hx e.symm)]; rfl
    rw [this]; rfl
  rw [hcb] at HR
  have h2 : (x :: u).isEmpty = false := rfl
  have h3 : 0 < (x :: u).length := by simp
  clear hcb hx
  generalize x :: u = l at hl HR h0 h2 h3 ⊢
  go_enter Tryz.func123, Tryz.ntmps123
  go_upto_region 4 with fail
  clear h0 h1 h2 h3
  go_loop [13] (CompRel l) (fun i => l.length - (intOf i).toNat)
  case atStart => exact ⟨0, rfl, Nat.zero_le _, by simp⟩
  case round =>
    obtain ⟨j, rfl, hj, hst⟩ := hrel
    have HST := Lib.hid hst
    clear hst
    by_cases hjl : j < l.length
    · obtain ⟨c, hc⟩ : ∃ c, l[j]? = some c := ⟨_, List.getElem?_eq_getElem hjl⟩
      have h0 := bs_at hc
      have HC := Lib.hid hc
      have HTA := Lib.hid (take_all HST.out hc)
      clear hc
      obtain ⟨b, hb⟩ : ∃ b, b = isB c := ⟨_, rfl⟩
      have HIB := Lib.hid (show Calls Tryz.prog 133 #[.int .u8 (c.toNat : Int)] w (Ret (.bool b) w) from by rw [hb]; exact IsByte_any c w)
      have HB := Lib.hid hb
      clear hb
      cases b with
      | true =>
        go_wp2_with (first
          | (go_at_call 133; (with_reducible refine HIB.out.mono ?_); rintro en w' ⟨rfl, rfl⟩)
          | fail)
        go_round
        case rel => exact ⟨j + 1, by go_num, by omega, by rw [HTA.out, ← HB.out]⟩
        case measure => simp [intOf]; omega
      | false =>
        go_wp2_with (first
          | (go_at_call 133; (with_reducible refine HIB.out.mono ?_); rintro en w' ⟨rfl, rfl⟩)
          | fail)
        go_ret
        refine ⟨ret_bool ?_, rfl⟩
        rw [HR.out]
        symm
        apply Bool.eq_false_iff.2
        intro h
        have := List.all_eq_true.1 h c (List.mem_of_getElem? HC.out)
        rw [← HB.out] at this; cases this
    · go_wp2
      go_ret
      refine ⟨ret_bool ?_, rfl⟩
      rw [HR.out, ← HST.out, List.take_of_length_le (by omega)]
end Go.Proofs.YtejljmikammcdaaGreatDoor
