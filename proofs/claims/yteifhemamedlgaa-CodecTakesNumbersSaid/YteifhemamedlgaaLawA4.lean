/-
  The walks of the laws CodecTakesNumbers, CodecTakesBools, CodecTakesTexts.
-/
import Derived.Test.YteifhemamedlgaaLawA0
namespace Go.Proofs.Yteifhemamedlgaa
open Go.RowKit

set_option maxRecDepth 100000 in
set_option maxHeartbeats 2000000 in
theorem TakesNumbers_walk (a : Option Addr) (n c : Nat) (l : List UInt8) (at_ : Int) (w : World) (hb : Bytes w a n c l) (hs : n ≤ 140737488351232) (_h0 : -9223372036854775808 ≤ at_) (_h1 : at_ ≤ 9223372036854775807) :
    Calls Try.prog 7 #[.slice a n c, .int .i64 at_] w (LawPost w) := by
  by_cases hn : 200 < n
  · go_enter Try.func7, Try.ntmps7
    go_wp2_with (go_at_call 14; refine (awake_any _).mono ?_; rintro e w1 ⟨rfl, hx⟩)
    go_ret
    exact ⟨rfl, hx⟩
  · have hU := fun w hb => Uint_any a n c l at_ w hb (by omega)
    have hT := fun w hb => TakeUint_any a n c l at_ w hb (by omega)
    have hI := fun w hb => Int_any a n c l at_ w hb (by omega)
    have hJ := fun w hb => TakeInt_any a n c l at_ w hb (by omega)
    rcases hr : uintRes l at_ with ⟨v, nx, er⟩
    rcases hq : intRes l at_ with ⟨k, ny, es⟩
    simp only [hr, uintV] at hU hT
    simp only [hq, intV] at hI hJ
    have HU := Lib.hid hU
    have HT := Lib.hid hT
    have HI := Lib.hid hI
    have HJ := Lib.hid hJ
    clear hU hT hI hJ hr hq
    go_enter Try.func7, Try.ntmps7
    go_wp2_with (first
      | (go_at_call 20; refine (HU.out _ hb).mono ?_; rintro e w1 ⟨rfl, rfl⟩)
      | (go_at_call 25; refine (HT.out _ hb).mono ?_; rintro e w1 ⟨rfl, rfl⟩)
      | (go_at_call 26; refine (HI.out _ hb).mono ?_; rintro e w1 ⟨rfl, rfl⟩)
      | (go_at_call 27; refine (HJ.out _ hb).mono ?_; rintro e w1 ⟨rfl, rfl⟩)
      | (go_at_call 14; refine (awake_any _).mono ?_; rintro e w12 ⟨rfl, hx12⟩))
    go_ret
    exact ⟨rfl, hx12⟩

set_option maxRecDepth 100000 in
set_option maxHeartbeats 2000000 in
theorem TakesBools_walk (a : Option Addr) (n c : Nat) (l : List UInt8) (at_ : Int) (w : World) (hb : Bytes w a n c l) (hs : n ≤ 140737488351232) (_h0 : -9223372036854775808 ≤ at_) (_h1 : at_ ≤ 9223372036854775807) :
    Calls Try.prog 10 #[.slice a n c, .int .i64 at_] w (LawPost w) := by
  have hU := fun w hb => Bool_any a n c l at_ w hb (by omega)
  have hT := fun w hb => TakeBool_any a n c l at_ w hb (by omega)
  rcases hr : boolRes l at_ with ⟨v, nx, er⟩
  simp only [hr, boolV] at hU hT
  have HU := Lib.hid hU
  have HT := Lib.hid hT
  clear hU hT hr
  go_enter Try.func10, Try.ntmps10
  go_wp2_with (first
    | (go_at_call 28; refine (HU.out _ hb).mono ?_; rintro e w1 ⟨rfl, rfl⟩)
    | (go_at_call 29; refine (HT.out _ hb).mono ?_; rintro e w1 ⟨rfl, rfl⟩)
    | (go_at_call 14; refine (awake_any _).mono ?_; rintro e w12 ⟨rfl, hx12⟩))
  go_ret
  exact ⟨rfl, hx12⟩

set_option maxRecDepth 100000 in
set_option maxHeartbeats 2000000 in
theorem TakesTexts_walk (a : Option Addr) (n c : Nat) (l : List UInt8) (at_ most : Int) (w : World) (hb : Bytes w a n c l) (hs : n ≤ 140737488351232) (_h0 : -9223372036854775808 ≤ at_) (_h1 : at_ ≤ 9223372036854775807)
    (_h2 : -9223372036854775808 ≤ most) (h3 : most ≤ 9223372036854775807) :
    Calls Try.prog 11 #[.slice a n c, .int .i64 at_, .int .i64 most] w (LawPost w) := by
  by_cases hn : 400 < n
  · go_enter Try.func11, Try.ntmps11
    go_wp2_with (go_at_call 14; refine (awake_any _).mono ?_; rintro e w1 ⟨rfl, hx⟩)
    go_ret
    exact ⟨rfl, hx⟩
  · have hU := fun w hb => Text_any a n c l at_ most w hb (by omega) h3
    have hT := fun w hb => TakeText_any a n c l at_ most w hb (by omega) h3
    rcases hr : textRes l at_ most with ⟨v, nx, er⟩
    simp only [hr, textV] at hU hT
    have HU := Lib.hid hU
    have HT := Lib.hid hT
    clear hU hT hr
    go_enter Try.func11, Try.ntmps11
    go_wp2_with (first
      | (go_at_call 30; refine (HU.out _ hb).mono ?_; rintro e w1 ⟨rfl, rfl⟩)
      | (go_at_call 31; refine (HT.out _ hb).mono ?_; rintro e w1 ⟨rfl, rfl⟩)
      | (go_at_call 14; refine (awake_any _).mono ?_; rintro e w12 ⟨rfl, hx12⟩))
    go_ret
    exact ⟨rfl, hx12⟩

end Go.Proofs.Yteifhemamedlgaa
