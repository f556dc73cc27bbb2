/-
  The walk of the law CodecWhole.
-/
import Derived.Test.YteifhemamedlgaaLawA5
namespace Go.Proofs.Yteifhemamedlgaa
open Go.RowKit

def WholeRel (w : World) (l : List UInt8) (made at_ : Value) (wr : World) : Prop :=
  ∃ (a : Option Addr) (n c k : Nat), made = .slice a n c ∧ at_ = .int .i64 k ∧ k ≤ l.length ∧ Bytes wr a n c (l.take k) ∧ Ext w wr

set_option maxRecDepth 100000 in
set_option maxHeartbeats 8000000 in
theorem Whole_walk (a : Option Addr) (n c : Nat) (l : List UInt8) (w : World) (hb : Bytes w a n c l) (hs : n ≤ 140737488351232) :
    Calls Try.prog 5 #[.slice a n c] w (LawPost w) := by
  by_cases hn : 200 < n
  · go_enter Try.func5, Try.ntmps5
    go_wp2_with (go_at_call 14; refine (awake_any _).mono ?_; rintro e w1 ⟨rfl, hx⟩)
    go_ret
    exact ⟨rfl, hx⟩
  · have HL := Lib.hid hb.len
    go_enter Try.func5, Try.ntmps5
    go_wp2_with fail
    go_loopw [3, 4] (WholeRel w l) (fun _ i _ => n - (intOf i).toNat)
    case atStart => exact ⟨none, 0, 0, 0, rfl, rfl, Nat.zero_le _, Bytes.nil w, Below.refl _ _⟩
    case round =>
      obtain ⟨a1, n1, c1, k, rfl, rfl, hk, hm, hx⟩ := hrel
      have hk' : k ≤ n := by have := HL.out; omega
      by_cases h0 : k < n
      · rcases uintRes_cases_in l k hk with ⟨v, j, hr, hv, hj, hkj, hdec⟩ | hr
        · 
          have hkj' : k + j ≤ n := by have := HL.out; omega
          have HR := Lib.hid hr
          have HB := Lib.hid (dec_bytes hdec)
          have hn1 : n1 ≤ 200 := by have := hm.len; rw [List.length_take] at this; omega
          clear hr hkj hdec hk
          go_wp2_with (first
            | (go_at_call 20; (with_reducible refine (Uint_as a n c l _ _ (hb.ext hx) (by omega) HR.out).mono ?_); rintro e w1 ⟨rfl, rfl⟩)
            | (go_at_call 15; (with_reducible refine (PutUint_any a1 n1 c1 (l.take k) v _ hm (by omega) (by omega)).mono ?_); rintro e w2 ⟨a2, n2, c2, rfl, ho2, hx2⟩; rw [HB.out] at ho2; have hb2 := Bytes.of_own ho2)
            | (with_reducible refine wpList_sl_hi rfl (.tmp 55) (.tmp 56) rfl Try.elB rfl ((hb.ext hx).ext hx2).row (k + j) rfl (by omega) hkj' ?_; intro a3 hr3; have hb3 := Bytes.take hr3)
            | (go_at_call 17; (with_reducible refine (same_any a2 a3 _ _ _ _ _ _ _ hb2 hb3).mono ?_); rintro e w10 ⟨rfl, rfl⟩))
          go_roundw
          case rel => exact ⟨a2, n2, c2, k + j, rfl, by go_num, by have := HL.out; omega, hb2, hx.trans' hx2⟩
          case measure => simp [intOf]; omega
        · clear hk
          rcases hr with hr | hr
          all_goals
            have HR := Lib.hid hr
            clear hr
            go_wp2_with (first
              | (go_at_call 20; (with_reducible refine (Uint_as a n c l _ _ (hb.ext hx) (by omega) HR.out).mono ?_); rintro e w1 ⟨rfl, rfl⟩)
              | (go_at_call 14; refine (awake_any _).mono ?_; rintro e w2 ⟨rfl, hx2⟩))
            go_ret
            exact ⟨rfl, hx.trans' hx2⟩
      · go_wp2_with (go_at_call 14; refine (awake_any _).mono ?_; rintro e w2 ⟨rfl, hx2⟩)
        go_ret
        exact ⟨rfl, hx.trans' hx2⟩

end Go.Proofs.Yteifhemamedlgaa
