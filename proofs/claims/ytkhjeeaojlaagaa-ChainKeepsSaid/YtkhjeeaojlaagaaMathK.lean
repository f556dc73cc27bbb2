/-
  The width of a number: in sevens of bits.
-/
import Derived.Test.YtkhjeeaojlaagaaMath1
import Derived.Lib.BitFns
namespace Go.Proofs.Ytkhjeeaojlaagaa

theorem bitLen_lt128 : ∀ n : Fin 128, max 1 ((Lib.bitLen n.val + 6) / 7) = 1 := by decide +kernel
theorem bitLen_le64 (x : Nat) : Lib.bitLen x ≤ 64 := by
  unfold Lib.bitLen
  suffices h : ∀ f y, Lib.bitLenAux f y ≤ f from h 64 x
  intro f
  induction f with
  | zero => intro y; simp [Lib.bitLenAux]
  | succ f ih => intro y; simp only [Lib.bitLenAux]; split; · omega
                 · have := ih (y / 2); omega
theorem bitLen_pos {x : Nat} (h : x ≠ 0) (hx : x < 2 ^ 64) : 1 ≤ Lib.bitLen x := by rw [Lib.bitLen_half x h hx]; omega
theorem width_is (v : Nat) : v < 18446744073709551616 → max 1 ((Lib.bitLen v + 6) / 7) = (enc v).length := by
  induction v using Nat.strongRecOn with
  | _ v ih =>
    intro hv
    by_cases h : v < 128
    · rw [enc_len_lt h]; exact bitLen_lt128 ⟨v, h⟩
    · rw [enc_len_ge (by omega), ← ih (v / 128) (by omega) (by omega), Lib.bitLen_shift 7 v (by omega) hv]
      have h1 := bitLen_pos (x := v / 128) (by omega) (by omega)
      have h2 : v / 2 ^ 7 = v / 128 := rfl
      rw [h2]
      omega

/-! ### What Cost sums, op by op -/
theorem costD_fine {os : List Dp} (h : os.all fineB = true) : costD os = (encD os).length := if_pos h
theorem costD_no {os : List Dp} {o : Dp} (hm : o ∈ os) (h : fineB o = false) : costD os = 0 := by
  unfold costD
  rw [if_neg]
  intro hall
  rw [List.all_eq_true] at hall
  rw [hall o hm] at h
  cases h
end Go.Proofs.Ytkhjeeaojlaagaa
