import Derived.Test.YtncdcpaelecikaaPackA
namespace Go.Proofs.Ytncdcpaelecikaa
open Go.RowKit
set_option maxRecDepth 100000 in
theorem refSum_any (a : Option Addr) (n c : Nat) (l : List UInt8) (w : World) (hb : Bytes w a n c l) (hn : n ≤ 140737488355328) :
    Calls Try.prog 38 #[.slice a n c] w (NewNone (.int .u64 (fp l : Nat)) w) := by
  have HL := Lib.hid hb.len
  go_enter Try.func38, Try.ntmps38
  go_wp2
  go_loopw [3, 4] (SumRelW w l) (fun _ i _ => n - (intOf i).toNat)
  case atStart => exact ⟨0, rfl, by omega, rfl, Below.refl _ _⟩
  case round =>
    obtain ⟨k, rfl, hk, rfl, hx⟩ := hrel
    rename World => u'
    have hk' : k ≤ n := by have := HL.out; omega
    clear hk
    by_cases h0 : k < n
    · obtain ⟨x, hx⟩ := hb.get h0
      have HX := Lib.hid hx
      clear hx
      have hxb : (x.toNat : Int) < 256 := by have := x.toNat_lt; omega
      obtain ⟨s, hs⟩ : ∃ s, s = fp (l.take k) := ⟨_, rfl⟩
      have hlt : s < (2305843009213693951 : Nat) := by rw [hs]; exact fp_lt _
      rw [← hs]
      have HS := Lib.hid hs
      have HB := Lib.hid hlt
      clear hs hlt
      go_wp2
      refine wp_region_x [(0, false), (1, false), (2, false), (3, false), (4, false), (5, false), (6, false), (7, false), (8, false), (9, false)] (by kernel_rfl) (by kernel_rfl) ?_
      have hbd : Bytes u'.drew a n c l := (hb.ext hx).ext (Ext.drew' _)
      ((refine wpX_q rfl rfl _ (fun w' hx' => by go_simp; try rfl) ?_; go_simp))
      ((refine wpX_call rfl rfl _ _ _ (fun w' => by (try go_simp); first | done | rfl | exact ⟨rfl, rfl⟩ | exact ⟨rfl, rfl, rfl⟩) (fun w' _ => refMulB_any s w' HB.out) ?_; go_simp))
      ((refine wpX_q rfl rfl _ (fun w' hx' => by go_simp; try rfl) ?_; go_simp))
      ((refine wpX_q rfl rfl _ (fun w' hx' => by go_simp; try rfl) ?_; go_simp))
      refine wpX_ixB rfl rfl (.tmp 13) (.tmp 14) rfl Try.elB rfl hbd k rfl rfl x HX.out ?_
      intro q hq
      ((refine wpX_q rfl rfl _ (fun w' hx' => by go_simp; try rfl) ?_; go_simp))
      ((refine wpX_q rfl rfl _ (fun w' hx' => by go_simp; try rfl) ?_; go_simp))
      ((refine wpX_q rfl rfl _ (fun w' hx' => by go_simp; try rfl) ?_; go_simp))
      ((refine wpX_call rfl rfl _ _ _ (fun w' => by (try go_simp); first | done | rfl | exact ⟨rfl, rfl⟩ | exact ⟨rfl, rfl, rfl⟩) (fun w' _ => Plus_at (s * (747382712868975713 : Nat) % (2305843009213693951 : Nat)) (x.toNat + 1) w' (by simp) (by rw [IntKind.wrap_u64, IntKind.wrap_u64]; omega) (by omega) (by omega)) ?_; go_simp))
      ((refine wpX_q rfl rfl _ (fun w' hx' => by go_simp; try rfl) ?_; go_simp))
      refine wpX_nil ?_
      go_wp2
      go_roundw
      case rel => exact ⟨k + 1, by go_num, by have := HL.out; omega, congrArg (Value.int .u64) (fp_stepI HX.out HS.out), hx.trans' (Ext.drew' _)⟩
      case measure => simp [intOf]; omega
    · go_wp2
      go_ret
      refine ⟨?_, hx⟩
      rw [show l.take k = l from List.take_of_length_le (by have := HL.out; omega)]
      rfl

end Go.Proofs.Ytncdcpaelecikaa
