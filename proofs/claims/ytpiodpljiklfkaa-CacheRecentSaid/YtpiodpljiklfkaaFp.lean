/-
  Fingerprints (from the pack's texts), and stores of one cell.
-/
import Derived.Test.YtpiodpljiklfkaaGen
import Derived.StillTailTactics
import Derived.Lib.Mul64
import Derived.Laws.Bits64b
namespace Go.Proofs.Ytpiodpljiklfkaa
open Go.RowKit


theorem halfMask (a : Nat) (ha : a < 18446744073709551616) : bits .and .u64 (a : Int) 4294967295 = ((a % 4294967296 : Nat) : Int) := by
  have h := bits_and_u64_nat a 4294967295 ha (by omega)
  have e : a &&& 4294967295 = a % 4294967296 := Nat.and_two_pow_sub_one_eq_mod a 32
  rw [e] at h
  exact h
theorem halfDiv (a : Nat) : (a : Int) / 4294967296 = ((a / 4294967296 : Nat) : Int) := by omega
theorem foldMul (a b : Nat) : (a : Int) * (b : Int) = ((a * b : Nat) : Int) := (Int.natCast_mul a b).symm
theorem foldAdd (a b : Nat) : (a : Int) + (b : Int) = ((a + b : Nat) : Int) := (Int.natCast_add a b).symm
theorem wrapSmall (a : Nat) (ha : a < 18446744073709551616) : IntKind.u64.wrap (a : Int) = (a : Int) := by rw [IntKind.wrap_u64]; omega
theorem wrapMod (a : Nat) : IntKind.u64.wrap (a : Int) = ((a % 18446744073709551616 : Nat) : Int) := by rw [IntKind.wrap_u64]; omega
set_option maxRecDepth 100000 in
set_option maxHeartbeats 1000000 in
theorem Mul64_any (x y : Nat) (w : World) (hx : x < 18446744073709551616) (hy : y < 18446744073709551616) :
    Calls Try.prog 66 #[.int .u64 x, .int .u64 y] w (Ret (.tuple #[.int .u64 ((x * y / 18446744073709551616 : Nat) : Int), .int .u64 ((x * y % 18446744073709551616 : Nat) : Int)]) w) := by
  obtain ⟨bd, bt, bw, hhi⟩ := Lib.mul64_hi x y hx hy
  have ba := Lib.half_mul_le (a := x / 4294967296) (b := y / 4294967296) (by omega) (by omega)
  have bb := Lib.half_mul_le (a := x / 4294967296) (b := y % 4294967296) (by omega) (by omega)
  have bc := Lib.half_mul_le (a := x % 4294967296) (b := y / 4294967296) (by omega) (by omega)
  have ba' : x / 4294967296 * (y / 4294967296) < 18446744073709551616 := by omega
  have bb' : x / 4294967296 * (y % 4294967296) < 18446744073709551616 := by omega
  have bc' : x % 4294967296 * (y / 4294967296) < 18446744073709551616 := by omega
  have bh1 : x / 4294967296 * (y / 4294967296) + (x / 4294967296 * (y % 4294967296) + x % 4294967296 * (y % 4294967296) / 4294967296) / 4294967296 < 18446744073709551616 := by omega
  have bh : x / 4294967296 * (y / 4294967296) + (x / 4294967296 * (y % 4294967296) + x % 4294967296 * (y % 4294967296) / 4294967296) / 4294967296 + ((x / 4294967296 * (y % 4294967296) + x % 4294967296 * (y % 4294967296) / 4294967296) % 4294967296 + x % 4294967296 * (y / 4294967296)) / 4294967296 < 18446744073709551616 := by omega
  go_enter Try.func66, Try.ntmps66
  go_wp2
  simp only [halfMask x hx, halfMask y hy, halfDiv, foldMul, foldAdd, wrapSmall _ bd, wrapSmall _ bb', wrapSmall _ bt, halfMask _ bt, wrapSmall _ bc', wrapSmall _ bw, wrapSmall _ ba', wrapSmall _ bh1, wrapSmall _ bh, wrapMod (x * y)]
  rw [hhi]
  go_ret2
  exact ⟨rfl, rfl⟩
/-- The (2305843009213693951 : Nat) and the (747382712868975713 : Nat). -/

theorem mulRed (a b : Nat) (ha : a < (2305843009213693951 : Nat)) (hb : b < (2305843009213693951 : Nat)) : a * b / 2305843009213693952 < (2305843009213693951 : Nat) ∧ (a * b % 2305843009213693952 + a * b / 2305843009213693952) % (2305843009213693951 : Nat) = a * b % (2305843009213693951 : Nat) := by
  have h1 : a * b ≤ ((2305843009213693951 : Nat) - 1) * ((2305843009213693951 : Nat) - 1) := Nat.mul_le_mul (by omega) (by omega)
  have h2 : ((2305843009213693951 : Nat) - 1) * ((2305843009213693951 : Nat) - 1) = 5316911983139663482391856204266602500 := by decide
  rw [h2] at h1
  generalize a * b = c at *
  omega
theorem lowMask (c : Nat) : bits .and .u64 ((c % 18446744073709551616 : Nat) : Int) 2305843009213693951 = ((c % 2305843009213693952 : Nat) : Int) := by
  have h := bits_and_u64_nat (c % 18446744073709551616) 2305843009213693951 (by omega) (by omega)
  have e : c % 18446744073709551616 &&& 2305843009213693951 = c % 18446744073709551616 % 2305843009213693952 := Nat.and_two_pow_sub_one_eq_mod _ 61
  rw [e] at h
  rw [show c % 2305843009213693952 = c % 18446744073709551616 % 2305843009213693952 by omega]
  exact h
theorem highOr (c : Nat) (hc : c / 18446744073709551616 < 2305843009213693952) :
    bits .or .u64 (((c / 18446744073709551616 * 8 : Nat)) : Int) (((c % 18446744073709551616 / 2305843009213693952 : Nat)) : Int) = ((c / 2305843009213693952 : Nat) : Int) := by
  have h := bits_or_u64_nat (c / 18446744073709551616 * 8) (c % 18446744073709551616 / 2305843009213693952) (by omega) (by omega)
  have e : c / 18446744073709551616 * 8 ||| c % 18446744073709551616 / 2305843009213693952 = c / 18446744073709551616 * 8 + c % 18446744073709551616 / 2305843009213693952 := by
    have := Nat.shiftLeft_add_eq_or_of_lt (b := c % 18446744073709551616 / 2305843009213693952) (i := 3) (by omega) (c / 18446744073709551616)
    rw [Nat.shiftLeft_eq] at this
    exact this.symm
  rw [e] at h
  rw [show c / 2305843009213693952 = c / 18446744073709551616 * 8 + c % 18446744073709551616 / 2305843009213693952 by omega]
  exact h
set_option maxRecDepth 100000 in
theorem add_any (a b : Nat) (w : World) (ha : a < (2305843009213693951 : Nat)) (hb : b < (2305843009213693951 : Nat)) : Calls Try.prog 56 #[.int .u64 a, .int .u64 b] w (Ret (.int .u64 ((a + b) % (2305843009213693951 : Nat) : Nat)) w) := by
  have ha' : (a : Int) < 2305843009213693951 := by omega
  have hb' : (b : Int) < 2305843009213693951 := by omega
  clear ha hb
  obtain ⟨r, hr⟩ : ∃ r, r = (a + b) % (2305843009213693951 : Nat) := ⟨_, rfl⟩
  rw [← hr]
  have HR := Lib.hid hr
  clear hr
  by_cases h : 2305843009213693951 ≤ (a : Int) + b
  all_goals
    go_enter Try.func56, Try.ntmps56
    go_wp2
    go_ret
    exact ⟨ret_int (by have := HR.out; omega), rfl⟩
set_option maxRecDepth 100000 in
theorem Plus_any (a b : Nat) (w : World) (ha : a ≤ (2305843009213693951 : Nat)) (hb : b ≤ (2305843009213693951 : Nat)) : Calls Try.prog 69 #[.int .u64 a, .int .u64 b] w (Ret (.int .u64 ((a + b) % (2305843009213693951 : Nat) : Nat)) w) := by
  have ha' : (a : Int) ≤ 2305843009213693951 := by omega
  have hb' : (b : Int) ≤ 2305843009213693951 := by omega
  clear ha hb
  obtain ⟨r, hr⟩ : ∃ r, r = (a + b) % (2305843009213693951 : Nat) := ⟨_, rfl⟩
  rw [← hr]
  have HR := Lib.hid hr
  clear hr
  by_cases h : 2305843009213693951 ≤ (a : Int) + b
  · by_cases h2 : 2305843009213693951 ≤ (a : Int) + b - 2305843009213693951
    all_goals
      go_enter Try.func69, Try.ntmps69
      go_wp2
      go_ret
      exact ⟨ret_int (by have := HR.out; omega), rfl⟩
  · go_enter Try.func69, Try.ntmps69
    go_wp2
    go_ret
    exact ⟨ret_int (by have := HR.out; omega), rfl⟩
set_option maxRecDepth 100000 in
theorem multiply_any (a b : Nat) (w : World) (ha : a < (2305843009213693951 : Nat)) (hb : b < (2305843009213693951 : Nat)) : Calls Try.prog 57 #[.int .u64 a, .int .u64 b] w (Ret (.int .u64 (a * b % (2305843009213693951 : Nat) : Nat)) w) := by
  obtain ⟨hq, hr⟩ := mulRed a b ha hb
  have HR := Lib.hid hr
  have hc : a * b / 18446744073709551616 < 2305843009213693952 := by omega
  go_enter Try.func57, Try.ntmps57
  clear hr
  go_wp2_with (go_at_call 66; (with_reducible refine (Mul64_any a b _ (by omega) (by omega)).mono ?_); rintro e w1 ⟨rfl, rfl⟩)
  rw [show (a : Int) * (b : Int) / 18446744073709551616 * 8 = ((a * b / 18446744073709551616 * 8 : Nat) : Int) by simp, show (a : Int) * (b : Int) % 18446744073709551616 / 2305843009213693952 = ((a * b % 18446744073709551616 / 2305843009213693952 : Nat) : Int) by simp, highOr _ hc, show (a : Int) * (b : Int) % 18446744073709551616 = ((a * b % 18446744073709551616 : Nat) : Int) by simp, lowMask]
  rw [show ((a * b % 2305843009213693952 : Nat) : Int).tmod 2305843009213693951 = ((a * b % 2305843009213693952 % (2305843009213693951 : Nat) : Nat) : Int) from rfl, show ((a * b / 2305843009213693952 : Nat) : Int).tmod 2305843009213693951 = ((a * b / 2305843009213693952 % (2305843009213693951 : Nat) : Nat) : Int) from rfl]
  refine (add_any _ _ _ (Nat.mod_lt _ (by decide)) (Nat.mod_lt _ (by decide))).mono ?_
  rintro e w1 ⟨rfl, rfl⟩
  go_wp2
  go_ret
  exact ⟨ret_int (by have := HR.out; omega), rfl⟩
set_option maxRecDepth 100000 in
theorem refMul_any (a b : Nat) (w : World) (ha : a < (2305843009213693951 : Nat)) (hb : b < (2305843009213693951 : Nat)) : Calls Try.prog 70 #[.int .u64 a, .int .u64 b] w (Ret (.int .u64 (a * b % (2305843009213693951 : Nat) : Nat)) w) := by
  obtain ⟨hq, hr⟩ := mulRed a b ha hb
  have HR := Lib.hid hr
  have hc : a * b / 18446744073709551616 < 2305843009213693952 := by omega
  go_enter Try.func70, Try.ntmps70
  clear hr
  go_wp2_with (go_at_call 66; (with_reducible refine (Mul64_any a b _ (by omega) (by omega)).mono ?_); rintro e w1 ⟨rfl, rfl⟩)
  rw [show (a : Int) * (b : Int) / 18446744073709551616 * 8 = ((a * b / 18446744073709551616 * 8 : Nat) : Int) by simp, show (a : Int) * (b : Int) % 18446744073709551616 / 2305843009213693952 = ((a * b % 18446744073709551616 / 2305843009213693952 : Nat) : Int) by simp, highOr _ hc, show (a : Int) * (b : Int) % 18446744073709551616 = ((a * b % 18446744073709551616 : Nat) : Int) by simp, lowMask]
  refine (Plus_any _ _ _ (by omega) (by omega)).mono ?_
  rintro e w1 ⟨rfl, rfl⟩
  go_wp2
  go_ret
  exact ⟨ret_int (by have := HR.out; omega), rfl⟩
theorem multiplyB_any (a : Nat) (w : World) (ha : a < (2305843009213693951 : Nat)) : Calls Try.prog 57 #[.int .u64 a, .int .u64 747382712868975713] w (Ret (.int .u64 (a * (747382712868975713 : Nat) % (2305843009213693951 : Nat) : Nat)) w) := multiply_any a (747382712868975713 : Nat) w ha (by omega)
theorem refMulB_any (a : Nat) (w : World) (ha : a < (2305843009213693951 : Nat)) : Calls Try.prog 70 #[.int .u64 a, .int .u64 747382712868975713] w (Ret (.int .u64 (a * (747382712868975713 : Nat) % (2305843009213693951 : Nat) : Nat)) w) := refMul_any a (747382712868975713 : Nat) w ha (by omega)
theorem add_at {A B : Int} (a b : Nat) (w : World) (hA : A = a) (hB : B = b) (ha : a < (2305843009213693951 : Nat)) (hb : b < (2305843009213693951 : Nat)) : Calls Try.prog 56 #[.int .u64 A, .int .u64 B] w (Ret (.int .u64 ((a + b) % (2305843009213693951 : Nat) : Nat)) w) := by
  subst hA hB; exact add_any a b w ha hb
theorem Plus_at {A B : Int} (a b : Nat) (w : World) (hA : A = a) (hB : B = b) (ha : a ≤ (2305843009213693951 : Nat)) (hb : b ≤ (2305843009213693951 : Nat)) : Calls Try.prog 69 #[.int .u64 A, .int .u64 B] w (Ret (.int .u64 ((a + b) % (2305843009213693951 : Nat) : Nat)) w) := by
  subst hA hB; exact Plus_any a b w ha hb
/-- The fingerprint of a string, behind a beginning with the sum s. -/
def fpStep (s : Nat) (x : UInt8) : Nat := (s * (747382712868975713 : Nat) % (2305843009213693951 : Nat) + (x.toNat + 1)) % (2305843009213693951 : Nat)
def fpFrom (s : Nat) (l : List UInt8) : Nat := l.foldl fpStep s
def fp (l : List UInt8) : Nat := fpFrom 0 l
theorem fpStep_lt (s : Nat) (x : UInt8) : fpStep s x < (2305843009213693951 : Nat) := by unfold fpStep; omega
theorem foldl_take {α β : Type} {f : β → α → β} {l : List α} {s : β} {k : Nat} {x : α} (h : l[k]? = some x) : (l.take (k + 1)).foldl f s = f ((l.take k).foldl f s) x := by
  rw [List.take_add_one, h]; simp
theorem fpFrom_take {l : List UInt8} {s k : Nat} {x : UInt8} (h : l[k]? = some x) : fpFrom s (l.take (k + 1)) = fpStep (fpFrom s (l.take k)) x := by
  exact foldl_take h
theorem fpFrom_lt (l : List UInt8) : ∀ (s : Nat), s < (2305843009213693951 : Nat) → fpFrom s l < (2305843009213693951 : Nat) := by
  induction l with
  | nil => intro s h; exact h
  | cons x l ih => intro s _; exact ih _ (fpStep_lt s x)
theorem fp_lt (l : List UInt8) : fp l < (2305843009213693951 : Nat) := fpFrom_lt l 0 (by omega)
def SumRel (l : List UInt8) (s i : Value) : Prop := ∃ k : Nat, i = .int .i64 k ∧ k ≤ l.length ∧ s = .int .u64 (fp (l.take k) : Nat)
theorem fp_stepI {l : List UInt8} {s k : Nat} {x : UInt8} (h : l[k]? = some x) (hs : s = fp (l.take k)) : ((s : Int) * 747382712868975713 + (x.toNat + 1)) % 2305843009213693951 = (fp (l.take (k + 1)) : Nat) := by
  have e := fpFrom_take (s := 0) h
  unfold fpStep at e
  unfold fp at *
  rw [e, ← hs]
  omega
def SumRelW (w : World) (l : List UInt8) (s i : Value) (w' : World) : Prop := ∃ k : Nat, i = .int .i64 k ∧ k ≤ l.length ∧ s = .int .u64 (fp (l.take k) : Nat) ∧ Ext w w'
def SumRel3 (l : List UInt8) (s _x i : Value) : Prop := ∃ k : Nat, i = .int .i64 k ∧ k ≤ l.length ∧ s = .int .u64 (fp (l.take k) : Nat)
set_option maxRecDepth 100000 in
theorem Sum_any (a : Option Addr) (n c : Nat) (l : List UInt8) (w : World) (hb : Bytes w a n c l) (hn : n ≤ 140737488355328) :
    Calls Try.prog 38 #[.slice a n c] w (Ret (.int .u64 (fp l : Nat)) w) := by
  have HL := Lib.hid hb.len
  go_enter Try.func38, Try.ntmps38
  go_wp2
  go_loop [3, 5, 8] (SumRel3 l) (fun _ _ i => n - (intOf i).toNat)
  case atStart => exact ⟨0, rfl, by omega, rfl⟩
  case round =>
    obtain ⟨k, rfl, hk, rfl⟩ := hrel
    have hk' : k ≤ n := by have := HL.out; omega
    clear hk
    by_cases h0 : k < n
    · obtain ⟨x, hx⟩ := hb.get h0
      have HX := Lib.hid hx
      clear hx
      have hxb : (x.toNat : Int) < 256 := by have := x.toNat_lt; omega
      obtain ⟨s, hs⟩ : ∃ s, s = fp (l.take k) := ⟨_, rfl⟩
      have hlt : s < (2305843009213693951 : Nat) := by rw [hs]; exact fp_lt _
      rw [← hs]
      have HS := Lib.hid hs
      have HB := Lib.hid hlt
      clear hs hlt
      go_wp2_with (first
        | (with_reducible refine wpList_ixB rfl (.tmp 6) (.tmp 8) rfl Try.elB rfl hb k rfl rfl x HX.out ?_; intro p hp)
        | (go_at_call 57; (with_reducible refine (multiplyB_any s _ HB.out).mono ?_); rintro e w1 ⟨rfl, rfl⟩)
        | (go_at_call 56; (with_reducible refine (add_at (s * (747382712868975713 : Nat) % (2305843009213693951 : Nat)) (x.toNat + 1) _ (by simp) (by simp) (by omega) (by omega)).mono ?_); rintro e w1 ⟨rfl, rfl⟩))
      go_round
      case rel => exact ⟨k + 1, by go_num, by have := HL.out; omega, congrArg (Value.int .u64) (fp_stepI HX.out HS.out)⟩
      case measure => simp [intOf]; omega
    · go_wp2
      go_ret
      refine ⟨?_, rfl⟩
      rw [show l.take k = l from List.take_of_length_le (by have := HL.out; omega)]
      rfl
set_option maxRecDepth 100000 in
theorem refSum_any (a : Option Addr) (n c : Nat) (l : List UInt8) (w : World) (hb : Bytes w a n c l) (hn : n ≤ 140737488355328) :
    Calls Try.prog 67 #[.slice a n c] w (NewNone (.int .u64 (fp l : Nat)) w) := by
  have HL := Lib.hid hb.len
  go_enter Try.func67, Try.ntmps67
  go_wp2
  go_loopw [3, 4] (SumRelW w l) (fun _ i _ => n - (intOf i).toNat)
  case atStart => exact ⟨0, rfl, by omega, rfl, Below.refl _ _⟩
  case round =>
    obtain ⟨k, rfl, hk, rfl, hx⟩ := hrel
    rename World => u'
    have hk' : k ≤ n := by have := HL.out; omega
    clear hk
    by_cases h0 : k < n
    · obtain ⟨x, hx⟩ := hb.get h0
      have HX := Lib.hid hx
      clear hx
      have hxb : (x.toNat : Int) < 256 := by have := x.toNat_lt; omega
      obtain ⟨s, hs⟩ : ∃ s, s = fp (l.take k) := ⟨_, rfl⟩
      have hlt : s < (2305843009213693951 : Nat) := by rw [hs]; exact fp_lt _
      rw [← hs]
      have HS := Lib.hid hs
      have HB := Lib.hid hlt
      clear hs hlt
      go_wp2
      refine wp_region_x [(0, false), (1, false), (2, false), (3, false), (4, false), (5, false), (6, false), (7, false), (8, false), (9, false)] (by kernel_rfl) (by kernel_rfl) ?_
      have hbd : Bytes u'.drew a n c l := (hb.ext hx).ext (Ext.drew' _)
      ((refine wpX_q rfl rfl _ (fun w' hx' => by go_simp; try rfl) ?_; go_simp))
      ((refine wpX_call rfl rfl _ _ _ (fun w' => by (try go_simp); first | done | rfl | exact ⟨rfl, rfl⟩ | exact ⟨rfl, rfl, rfl⟩) (fun w' _ => refMulB_any s w' HB.out) ?_; go_simp))
      ((refine wpX_q rfl rfl _ (fun w' hx' => by go_simp; try rfl) ?_; go_simp))
      ((refine wpX_q rfl rfl _ (fun w' hx' => by go_simp; try rfl) ?_; go_simp))
      refine wpX_ixB rfl rfl (.tmp 13) (.tmp 14) rfl Try.elB rfl hbd k rfl rfl x HX.out ?_
      intro q hq
      ((refine wpX_q rfl rfl _ (fun w' hx' => by go_simp; try rfl) ?_; go_simp))
      ((refine wpX_q rfl rfl _ (fun w' hx' => by go_simp; try rfl) ?_; go_simp))
      ((refine wpX_q rfl rfl _ (fun w' hx' => by go_simp; try rfl) ?_; go_simp))
      ((refine wpX_call rfl rfl _ _ _ (fun w' => by (try go_simp); first | done | rfl | exact ⟨rfl, rfl⟩ | exact ⟨rfl, rfl, rfl⟩) (fun w' _ => Plus_at (s * (747382712868975713 : Nat) % (2305843009213693951 : Nat)) (x.toNat + 1) w' (by simp) (by rw [IntKind.wrap_u64, IntKind.wrap_u64]; omega) (by omega) (by omega)) ?_; go_simp))
      ((refine wpX_q rfl rfl _ (fun w' hx' => by go_simp; try rfl) ?_; go_simp))
      refine wpX_nil ?_
      go_wp2
      go_roundw
      case rel => exact ⟨k + 1, by go_num, by have := HL.out; omega, congrArg (Value.int .u64) (fp_stepI HX.out HS.out), hx.trans' (Ext.drew' _)⟩
      case measure => simp [intOf]; omega
    · go_wp2
      go_ret
      refine ⟨?_, hx⟩
      rw [show l.take k = l from List.take_of_length_le (by have := HL.out; omega)]
      rfl
set_option maxRecDepth 100000 in
theorem Of_any (a : Option Addr) (n c : Nat) (l : List UInt8) (w : World) (hb : Bytes w a n c l) (hn : n ≤ 140737488355328) :
    Calls Try.prog 19 #[.slice a n c] w (NewNone (.agg #[.int .u64 (fp l : Nat), .int .i64 n]) w) := by
  go_enter Try.func19, Try.ntmps19
  go_wp2_with (go_at_call 38; (with_reducible refine (Sum_any a n c l _ (hb.ext (Ext.alloc' _ _)) hn).mono ?_); rintro e w1 ⟨rfl, rfl⟩)
  refine bodyPost_ret (results_cell_row rfl _ _ w.heap.size 45 _ (0, 0) _ rfl (heap_alloc_new w _) Try.underlying45 rfl (by kernel_rfl)) rfl ?_
  exact ⟨rfl, Ext.alloc' w _⟩
set_option maxRecDepth 100000 in
theorem refOf_any (a : Option Addr) (n c : Nat) (l : List UInt8) (w : World) (hb : Bytes w a n c l) (hn : n ≤ 140737488355328) :
    Calls Try.prog 61 #[.slice a n c] w (NewNone (.agg #[.int .u64 (fp l : Nat), .int .i64 n]) w) := by
  go_enter Try.func61, Try.ntmps61
  go_wp2_with ((go_at_call 67; (with_reducible refine (refSum_any a n c l _ (hb.ext (Ext.alloc' _ _)) hn).mono ?_); rintro e w1 ⟨rfl, hx1⟩; have hh := hx1.heap' (heap_alloc_new w _); have hf1 := fun j => frozen_none hh j; have hc1 := fun j => cell_of_row w1 w.heap.size j _ _ _ hh; clear hh))
  refine bodyPost_ret (results_cells rfl _ w.heap.size [.int .u64 (fp l : Nat), .int .i64 n] _ rfl (fun j v hj => ?_) Try.underlying45 rfl (by kernel_rfl)) rfl ?_
  · rcases j with _ | _ | j
    · cases hj; go_simp
    · cases hj; go_simp
    · cases hj
  exact ⟨rfl, ((((Below.refl _ _).alloc (Nat.le_refl _) _).trans (hx1.mono (by simp))).setCell (Nat.le_refl _) _).setCell (Nat.le_refl _) _⟩
/-- A store of a value of one cell, in a row. -/
theorem owp_st1 {P : Program} {w : World} {o : Oper} {a : Act} {K : Act → World → Prop} {Q : Exit → Act → World → Prop} (ty : TypeId) (x y : Operand) (ho : o.op = .store ty x y)
    (b j : Nat) (v : Value) (hx : a.eval x = .pointer (some ⟨b, j, none⟩)) (hy : a.eval y = v) (hv : v.cells = #[v]) (ht : w.there b j 1) (hi : (P.info? ty).map (·.size) = some 1) (h1 : v.oneCell' = true)
    (h : K (a.put o.dst undef) (w.setCell ⟨b, j, none⟩ v)) : o.wp P a w K Q := by
  have hm := run_storeVar_mid (P := P) w b j ty #[v] ht hi (by simpa using h1)
  have he : storeVar ty ⟨b, j, none⟩ v = storeVar ty ⟨b, j, none⟩ (.agg #[v]) := by
    unfold storeVar; rw [hv]; rfl
  rw [← he] at hm
  unfold Oper.wp execOp
  simp only [ho, hx, hy, Instr.storeAt, Instr.sureAddr, Sem.run_bind, Sem.run_pure, Result.andThen_ok, hm]
  exact h
theorem there_one {w : World} {b j : Nat} {v : Value} (h : w.cell? ⟨b, j, none⟩ = some v) (hf : w.frozen? ⟨b, j, none⟩ = false) : w.there b j 1 := fun i hi => by
  obtain rfl : i = 0 := by omega
  exact ⟨by simp [h], by simpa using hf⟩
end Go.Proofs.Ytpiodpljiklfkaa
