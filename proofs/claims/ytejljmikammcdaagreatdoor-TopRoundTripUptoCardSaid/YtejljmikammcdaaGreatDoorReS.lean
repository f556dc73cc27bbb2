/-
  Layer region: slices.SortFunc of no holes.
-/
import Derived.Test.YtejljmikammcdaaGreatDoorReG
namespace Go.Proofs.YtejljmikammcdaaGreatDoor
open Go.RowKit

set_option maxRecDepth 100000 in
set_option maxHeartbeats 2000000 in
theorem InsNil_any (g : Nat) (w : World) : Calls Tryz.prog 103 #[.slice none 0 0, .int .i64 0, .int .i64 0, .func (.func g) #[] #[]] w (NewNone (.tuple #[]) w) := by
  go_enter Tryz.func103, Tryz.ntmps103
  go_upto_region 1 with fail
  go_loopw [8] (fun v wr => v = .int .i64 1 ∧ Ext w wr) (fun _ _ => 0)
  case atStart => exact ⟨rfl, Below.refl _ _⟩
  case round =>
    obtain ⟨rfl, hx⟩ := hrel
    rename World => wd
    go_wp2
    go_end0
    exact ⟨rfl, hx⟩
set_option maxRecDepth 100000 in
set_option maxHeartbeats 2000000 in
theorem PdqNil_any (g : Nat) (w : World) : Calls Tryz.prog 79 #[.slice none 0 0, .int .i64 0, .int .i64 0, .int .i64 0, .func (.func g) #[] #[]] w (NewNone (.tuple #[]) w) := by
  have HI := Lib.hid fun w' => InsNil_any g w'
  go_enter Tryz.func79, Tryz.ntmps79
  go_upto_region 2 with fail
  go_loopw [1, 2, 3] (fun a b c wr => a = .int .i64 0 ∧ b = .int .i64 0 ∧ c = .int .i64 0 ∧ Ext w wr) (fun _ _ _ _ => 0)
  case atStart => exact ⟨rfl, rfl, rfl, Below.refl _ _⟩
  case round =>
    obtain ⟨rfl, rfl, rfl, hx⟩ := hrel
    rename World => wd
    have HX := Lib.hid (show Ext w wd from hx)
    clear hx
    go_wp2_with (first
      | (go_at_call 103; (with_reducible refine (HI.out _).mono ?_); rintro en w2 ⟨rfl, hx2⟩)
      | fail)
    go_end0
    exact ⟨rfl, HX.out.trans' hx2⟩
set_option maxRecDepth 100000 in
set_option maxHeartbeats 2000000 in
theorem SortNil_any (g : Nat) (w : World) : Calls Tryz.prog 45 #[.slice none 0 0, .func (.func g) #[] #[]] w (NewNone (.tuple #[]) w) := by
  have HP := Lib.hid fun w' => PdqNil_any g w'
  have HL := Lib.hid fun w' => (show Calls Tryz.prog 80 #[.int .u64 0] w' (fun e w'' => e = .returned (.int .i64 0) ∧ w'' = w') from
    Any.bits_Len (SlLaysF0.n15.bits (P := Tryz.prog) (ρ := Tryz.sortHole_ren) { Tryz.sortHole with }) 0 w' (by omega) (by omega))
  go_enter Tryz.func45, Tryz.ntmps45
  go_wp2_with (first
    | (go_at_call 80; (with_reducible refine (HL.out _).mono ?_); rintro en w1 ⟨rfl, rfl⟩)
    | (go_at_call 79; (with_reducible refine (HP.out _).mono ?_); rintro en w2 ⟨rfl, hx2⟩)
    | fail)
  go_end0
  exact ⟨rfl, hx2⟩
end Go.Proofs.YtejljmikammcdaaGreatDoor
