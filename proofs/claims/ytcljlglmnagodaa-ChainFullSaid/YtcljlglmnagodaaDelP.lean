/-
  The law DeltaAlike.
-/
import Derived.Test.YtcljlglmnagodaaDelL
namespace Go.Proofs.Ytcljlglmnagodaa
open Go.RowKit

/-- Fold answers a number of its own, whatever the world. -/
theorem makeFold_is (v : Int) : ∃ u : Nat, u < 50 ∧ ∀ w, Calls Try.prog 30 #[.int .i64 v, .int .i64 50] w (Ret (.int .i64 u) w) := by
  have hr1 := Int.tmod_lt_of_pos v (b := 50) (by omega)
  have hr2 : -50 < v.tmod 50 := by
    have h := Int.tmod_lt_of_pos (-v) (b := 50) (by omega)
    rw [Int.neg_tmod] at h
    omega
  obtain ⟨r, hr⟩ : ∃ r, r = v.tmod 50 := ⟨_, rfl⟩
  have HR := Lib.hid hr.symm
  rw [← hr] at hr1 hr2
  clear hr
  by_cases h3 : r < 0
  · refine ⟨(r + 50).toNat, by omega, fun w => ?_⟩
    go_enter Try.func30, Try.ntmps30
    have hr' := HR.out
    go_wp2
    go_ret
    exact ⟨ret_int (by omega), rfl⟩
  · refine ⟨r.toNat, by omega, fun w => ?_⟩
    go_enter Try.func30, Try.ntmps30
    have hr' := HR.out
    have h3' : 0 ≤ r := by omega
    go_wp2
    go_ret
    exact ⟨ret_int (by omega), rfl⟩
theorem owp_mk {P : Program} {w : World} {o : Oper} {f : Act} {K : Act → World → Prop} {Q : Exit → Act → World → Prop} (hgd : o.guard = none) (lO cO : Operand) {t : TypeId}
    (ho : o.op = .makeSlice t lO cO) {e s b : Nat} {z : Value} (E : Elem P t e s b z) (m k : Nat) {kl kc : IntKind} {L C : Int} (hl : f.eval lO = .int kl L) (hc : f.eval cO = .int kc C)
    (hL : L = (m : Int)) (hC : C = (k : Int)) (hmk : m ≤ k) (hb : b * k ≤ 281474976710656) (hm : k ≤ maxLen)
    (h : ∀ g w', w'.ownsRow w.heap.size e s (.slice (some ⟨g, 0, none⟩) m k) m (zeros z m s) → Ext w w' → K (f.put o.dst (.slice (some ⟨g, 0, none⟩) m k)) w') : o.wp P f w K Q :=
  owp_of_list (ops := #[]) hgd (wpList_mk hgd lO cO ho E m k hl hc hL hC hmk hb hm fun g w' h2 h3 => ⟨rfl, h g w' h2 h3⟩)
theorem owp_ix1 {P : Program} {w : World} {o : Oper} {f : Act} {K : Act → World → Prop} {Q : Exit → Act → World → Prop} (xO iO : Operand) {t : TypeId}
    (ho : o.op = .indexAddr t xO iO) {e b : Nat} {z : Value} (E : Elem P t e 1 b z) {g n c : Nat} (hx : f.eval xO = .slice (some ⟨g, 0, none⟩) n c)
    (i : Nat) {k : IntKind} {I : Int} (hi : f.eval iO = .int k I) (hI : I = (i : Int)) (hin : i < n)
    (hk : K (f.put o.dst (.pointer (some ⟨g, i, none⟩))) w) : o.wp P f w K Q := by
  subst hI
  have hrun := run_indexAt_slice (P := P) (w := w) t ⟨g, 0, none⟩ n c k (i : Int) E.und'
  rw [if_pos (by omega), E.size] at hrun
  simp only [Result.andThen, Int.toNat_natCast, Addr.add_lit, Nat.zero_add, Nat.mul_one] at hrun
  unfold Oper.wp
  simp [execOp, ho, hx, hi, hrun, Result.andThen]
  exact hk
def lowB (x : UInt8) : UInt8 := UInt8.ofNat (x.toNat % 128)
theorem low_not (l : List UInt8) : (128 : UInt8) ∉ l.map lowB := by
  intro h
  obtain ⟨x, -, hx⟩ := List.mem_map.1 h
  have := congrArg UInt8.toNat hx
  unfold lowB at this
  rw [UInt8.toNat_ofNat'] at this
  have h2 : (128 : UInt8).toNat = 128 := rfl
  omega
theorem set_step {α : Type} {l : List α} {f : α → UInt8} {j : Nat} {x : α} (hx : l[j]? = some x) : ((l.take j).map f ++ List.replicate (l.length - j) (0 : UInt8)).set j (f x) = (l.take (j + 1)).map f ++ List.replicate (l.length - (j + 1)) 0 := by
  have hj : j < l.length := (List.getElem?_eq_some_iff.1 hx).1
  rw [List.take_add_one, hx, List.map_append, List.set_append_right _ _ (by simp; omega), show l.length - j = (l.length - (j + 1)) + 1 by omega, List.replicate_succ]
  have : j - ((l.take j).map f).length = 0 := by simp; omega
  rw [this, List.set_cons_zero, List.append_assoc]
  rfl
def AlMid (w1 : World) (n N : Nat) (v : Nat → Value) (w' : World) : Prop :=
  ∃ g1 g2 : Nat, v 7 = .slice (some ⟨g1, 0, none⟩) n n ∧ v 8 = .slice (some ⟨g2, 0, none⟩) N N ∧ w'.ownsRow w1.heap.size 5 1 (.slice (some ⟨g1, 0, none⟩) n n) n (zeros (.int .u8 0) n 1) ∧ w'.ownsRow w1.heap.size 5 1 (.slice (some ⟨g2, 0, none⟩) N N) N (zeros (.int .u8 0) N 1) ∧ g1 ≠ g2 ∧ Ext w1 w'
def LoRel (w : World) (g1 g2 n N : Nat) (l : List UInt8) (i : Value) (wr : World) : Prop :=
  ∃ j : Nat, i = .int .i64 j ∧ j ≤ n ∧ wr.ownsRow w.heap.size 5 1 (.slice (some ⟨g1, 0, none⟩) n n) n (((l.take j).map lowB ++ List.replicate (l.length - j) 0).map u8) ∧ wr.ownsRow w.heap.size 5 1 (.slice (some ⟨g2, 0, none⟩) N N) N (zeros (.int .u8 0) N 1) ∧ Ext w wr
def HiRel (w : World) (g1 g2 n N : Nat) (l : List UInt8) (i : Value) (wr : World) : Prop :=
  ∃ j : Nat, i = .int .i64 j ∧ j ≤ N ∧ wr.ownsRow w.heap.size 5 1 (.slice (some ⟨g1, 0, none⟩) n n) n ((l.map lowB).map u8) ∧ wr.ownsRow w.heap.size 5 1 (.slice (some ⟨g2, 0, none⟩) N N) N ((((List.range N).take j).map (fun _ => (128 : UInt8)) ++ List.replicate ((List.range N).length - j) 0).map u8) ∧ Ext w wr
theorem zeros_u8 (n : Nat) : zeros (.int .u8 0) n 1 = (List.replicate n (0 : UInt8)).map u8 := by rw [zeros_one rfl, List.map_replicate]; rfl

theorem alike_same {w8 : World} {a8 : Option Addr} {n8 c8 : Nat} {L8 : List Od} (g2 M : Nat) (hL8 : Ops w8 a8 n8 c8 L8) (hB : Bytes w8 (some ⟨g2, 0, none⟩) (M + 1) (M + 1) (List.replicate (M + 1) 128)) (hD : L8.map Od.d = [⟨0, 0, List.replicate (M + 1) 128⟩]) (hM : M + 1 ≤ 50) :
    Calls Try.prog 29 #[.slice a8 n8 c8, .slice (some ⟨w8.heap.size, 0, none⟩) 1 1] (w8.alloc (.cells #[.int .i64 0, .int .i64 0, .slice (some ⟨g2, 0, none⟩) (M + 1) (M + 1)] 39)) (NewNone (.bool true) (w8.alloc (.cells #[.int .i64 0, .int .i64 0, .slice (some ⟨g2, 0, none⟩) (M + 1) (M + 1)] 39))) := by
  have hO : Ops (w8.alloc (.cells #[.int .i64 0, .int .i64 0, .slice (some ⟨g2, 0, none⟩) (M + 1) (M + 1)] 39)) (some ⟨w8.heap.size, 0, none⟩) 1 1 [⟨0, 0, some ⟨g2, 0, none⟩, M + 1, M + 1, List.replicate (M + 1) 128⟩] := by
    refine ⟨rfl, Row.new w8 #[.int .i64 0, .int .i64 0, .slice (some ⟨g2, 0, none⟩) (M + 1) (M + 1)] _ 1 3 rfl (by decide), fun k hk => ?_⟩
    rw [List.mem_singleton] at hk
    subst hk
    exact ⟨hB.ext (Ext.alloc' _ _), (by show M + 1 ≤ 140737488355328; omega), (i64_of (by decide) (by decide) : i64B 0), (i64_of (by decide) (by decide) : i64B 0)⟩
  have hn2 : n8 = 1 := by
    have h := congrArg List.length hD
    rw [List.length_map, hL8.1] at h
    exact h
  exact Same_any a8 n8 c8 _ 1 1 L8 _ _ (hL8.ext (Ext.alloc' _ _)) hO hD (by omega)

set_option maxRecDepth 100000 in
set_option maxHeartbeats 4000000 in
theorem DeltaAlike_walk (a : Option Addr) (n c : Nat) (l : List UInt8) (k : Int) (w : World) (hb : Bytes w a n c l) (hs : n ≤ 140737488351232) (_h0 : -9223372036854775808 ≤ k) (_h1 : k ≤ 9223372036854775807) :
    Calls Try.prog 5 #[.slice a n c, .int .i64 k] w (LawPost w) := by
  have HL := Lib.hid hb.len
  by_cases h2048 : 2048 < n
  · have hd : decide ((2048 : Int) < n) = true := decide_eq_true (by omega)
    go_enter Try.func5, Try.ntmps5
    go_wp2
    go_ret
    exact ⟨rfl, Below.refl _ _⟩
  have hd : decide ((2048 : Int) < n) = false := decide_eq_false (by omega)
  have hmk : makeRes l l = (makeD l l, 0) := by unfold makeRes; rw [HL.out, if_neg (by omega)]
  have HMK := Lib.hid hmk
  clear hmk
  go_enter Try.func5, Try.ntmps5
  go_upto_region 4 with (first
    | (go_at_call 26; (with_reducible refine (Make_any _ _ _ _ _ _ _ _ _ hb hb (by omega) (by omega) HMK.out).mono ?_); rintro e w2 ⟨a2, n2, c2, L2, rfl, hL2, hD2, hx2⟩; have HD2 := Lib.hid hD2; clear hD2)
    | fail)
  go_cut [41] from 22 (fun s41 w' => s41 = .bool false ∧ Ext w2 w')
  case first =>
    by_cases h4 : 4 ≤ n
    · have hd4 : decide ((4 : Int) ≤ n) = true := decide_eq_true (by omega)
      have hD : L2.map Od.d = [⟨0, n, []⟩] := by rw [HD2.out, make_self (by rw [HL.out]; exact h4), HL.out]
      have hS : ∀ w3, Ext w2 w3 → Calls Try.prog 29 #[.slice a2 n2 c2, .slice (some ⟨w3.heap.size, 0, none⟩) 1 1] (w3.alloc (.cells #[.int .i64 0, .int .i64 n, .slice none 0 0] 39)) (NewNone (.bool true) (w3.alloc (.cells #[.int .i64 0, .int .i64 n, .slice none 0 0] 39))) := fun w3 hx => by
        have hO : Ops (w3.alloc (.cells #[.int .i64 0, .int .i64 n, .slice none 0 0] 39)) (some ⟨w3.heap.size, 0, none⟩) 1 1 [⟨0, n, none, 0, 0, []⟩] := by
          refine ⟨rfl, Row.new w3 #[.int .i64 0, .int .i64 n, .slice none 0 0] _ 1 3 rfl (by decide), fun k hk => ?_⟩
          rw [List.mem_singleton] at hk
          subst hk
          exact ⟨Bytes.nil _, Nat.zero_le _, (i64_of (by decide) (by decide) : i64B 0), (i64_of (by omega) (by omega) : i64B n)⟩
        have hn2 : n2 = 1 := by
          have h := congrArg List.length hD
          rw [List.length_map, hL2.1] at h
          exact h
        exact Same_any a2 n2 c2 _ 1 1 L2 _ _ ((hL2.ext hx).ext (Ext.alloc' _ _)) hO hD (by omega)
      clear hD
      go_wp2_with (first
        | (go_at_call 28; (with_reducible refine (known_any _).mono ?_); rintro e w3 ⟨rfl, hx3⟩; have hS3 := hS w3 hx3)
        | (go_at_call 29; (with_reducible refine hS3.mono ?_); rintro e w4 ⟨rfl, hx4⟩)
        | fail)
      go_meet
      exact ⟨rfl, (Ext.trans' hx3 (Ext.alloc' _ _)).trans' hx4⟩
    · have hd4 : decide ((4 : Int) ≤ n) = false := decide_eq_false (by omega)
      go_wp2_with (first
        | (go_at_call 28; (with_reducible refine (known_any _).mono ?_); rintro e w3 ⟨rfl, hx3⟩)
        | fail)
      go_meet
      exact ⟨rfl, hx3⟩
  case rest =>
    obtain ⟨rfl, hx23⟩ := hcut
    rename World => w3
    obtain ⟨u, hu, hF⟩ := makeFold_is k
    have HF := Lib.hid hF
    have hxw := hx2.trans' hx23
    clear hF hd
    have hwu : IntKind.i64.wrap (1 + (u : Int)) = ((1 + u : Nat) : Int) := by rw [IntKind.wrap_i64]; omega
    go_wp2
    refine wp_region_e [] (.qs [0, 1, 3, 4, 5] (.alt 2 (.qs [7] (.l 6 (.qs [8] .nil))) (.alt 6 (.l 2 (.qs [7, 8] .nil)) .stop))) (by kernel_rfl) (by kernel_rfl) ?_
    refine wpY_midA (Meets [7, 8, 42, 43, 44, 45, 46, 47, 48] (AlMid w3 n (1 + u))) ?_ ?_
    · iterate 3 ((refine wpY_q rfl rfl _ (fun w' hx' => by go_simp; try rfl) ?_; go_simp))
      ((refine wpY_call rfl rfl _ _ _ (fun w' => by (try go_simp); first | done | rfl | exact ⟨rfl, rfl⟩ | exact ⟨rfl, rfl, rfl⟩) (fun w' _ => HF.out w') ?_; go_simp))
      ((refine wpY_q rfl rfl _ (fun w' hx' => by go_simp; try rfl) ?_; go_simp))
      have E1 : Ext w3 w3.drew := Ext.drew' _
      refine wpY_alt rfl rfl ?_ (wpY_alt rfl rfl ?_ wpY_stop)
      · refine owp_mk rfl _ _ rfl Try.elB n n rfl rfl rfl rfl (Nat.le_refl _) (by omega) (by unfold maxLen; omega) ?_
        intro g1 w4 ho4 hx4
        refine ⟨fun _ => E1.trans' hx4, ?_⟩
        go_simp
        ((refine wpY_q rfl rfl _ (fun w' hx' => by go_simp; try rfl) ?_; go_simp))
        refine wpY_l rfl rfl (owp_mk rfl _ _ rfl Try.elB (1 + u) (1 + u) rfl rfl rfl rfl (Nat.le_refl _) (by omega) (by unfold maxLen; omega) ?_)
        intro g2 w5 ho5 hx5
        refine ⟨fun _ => (E1.trans' hx4).trans' hx5, ?_⟩
        go_simp
        ((refine wpY_q rfl rfl _ (fun w' hx' => by go_simp; try rfl) ?_; go_simp))
        refine wpY_nil (Meets.mk (by kernel_rfl) ⟨g1, g2, rfl, rfl, own_base (own_ext ho4 hx5) (Nat.le_refl _), own_base ho5 (E1.trans' hx4).size, ?_, (E1.trans' hx4).trans' hx5⟩)
        have b1 := (own_block ho4 g1 rfl).2
        have b2 := (own_block ho5 g2 rfl).1
        omega
      · refine owp_mk rfl _ _ rfl Try.elB (1 + u) (1 + u) rfl rfl rfl rfl (Nat.le_refl _) (by omega) (by unfold maxLen; omega) ?_
        intro g2 w4 ho4 hx4
        refine ⟨fun _ => E1.trans' hx4, ?_⟩
        go_simp
        refine wpY_l rfl rfl (owp_mk rfl _ _ rfl Try.elB n n rfl rfl rfl rfl (Nat.le_refl _) (by omega) (by unfold maxLen; omega) ?_)
        intro g1 w5 ho5 hx5
        refine ⟨fun _ => (E1.trans' hx4).trans' hx5, ?_⟩
        go_simp
        iterate 2 ((refine wpY_q rfl rfl _ (fun w' hx' => by go_simp; try rfl) ?_; go_simp))
        refine wpY_nil (Meets.mk (by kernel_rfl) ⟨g1, g2, rfl, rfl, own_base ho5 (E1.trans' hx4).size, own_base (own_ext ho4 hx5) (Nat.le_refl _), ?_, (E1.trans' hx4).trans' hx5⟩)
        have b1 := (own_block ho4 g2 rfl).2
        have b2 := (own_block ho5 g1 rfl).1
        omega
    · rintro a' w5 ⟨v, rfl, g1, g2, hv7, hv8, ho1, ho2, hne, hx5⟩
      simp only [fill, hv7, hv8]
      go_simp
      clear hv7 hv8 hwu
      obtain ⟨N, hN⟩ : ∃ N, N = 1 + u := ⟨_, rfl⟩
      rw [← hN] at ho2 ⊢
      have hN1 : 1 ≤ N := by omega
      have hN50 : N ≤ 50 := by omega
      clear hN hu HF
      go_wp2
      go_loopw [9] (LoRel w3 g1 g2 n N l) (fun i _ => n - (intOf i).toNat)
      case atStart =>
        refine ⟨0, rfl, Nat.zero_le _, ?_, ho2, hx5⟩
        have h := ho1
        rw [zeros_u8] at h
        rw [List.take_zero, Nat.sub_zero, HL.out]
        exact h
      case round =>
        obtain ⟨j, rfl, hj, hlo, hhi, hx6⟩ := hrel
        rename World => w6
        by_cases hjn : j < n
        · obtain ⟨x, hx⟩ : ∃ x, l[j]? = some x := ⟨_, List.getElem?_eq_getElem (by have := HL.out; omega)⟩
          have HX := Lib.hid hx
          have ha := and_127 x
          have hb6 := hb.ext (hxw.trans' hx6)
          clear hx
          go_wp2_with (first
            | ((with_reducible refine atSlot 59 ?_); refine wpList_of_wp rfl (owp_ixB (o := ⟨some 59, _, _, _, _, _⟩) _ _ rfl Try.elB rfl hb6 j rfl rfl x HX.out ?_); intro p7 hp7)
            | ((with_reducible refine atSlot 62 ?_); refine wpList_of_wp rfl (owp_ix1 (o := ⟨some 62, _, _, _, _, _⟩) _ _ rfl Try.elB rfl j rfl rfl hjn ?_))
            | ((with_reducible refine atStore 62 ?_); refine wpList_of_wp rfl (owp_st1 (o := ⟨none, _, _, _, _, _⟩) 5 _ _ rfl g1 j (.int .u8 ((x.toNat % 128 : Nat) : Int)) rfl rfl rfl (own_there hlo (by omega)) (by kernel_rfl) rfl ?_))
            | fail)
          go_roundw
          case rel =>
            have h8 := own_setCell (j := j) (v := u8 (lowB x)) hlo (by omega)
            rw [set_u8, set_step HX.out] at h8
            have hval : Value.int .u8 ((x.toNat % 128 : Nat) : Int) = u8 (lowB x) := by unfold lowB; rw [u8_ofNat _ (by omega)]
            rw [← hval] at h8
            have hg8 := grown_setCell' w6 g1 j (.int .u8 ((x.toNat % 128 : Nat) : Int))
            exact ⟨j + 1, by go_num, by omega, h8, own_other hhi hg8 (fun e => hne (by simpa [blockOf] using e.symm)), hx6.rd hg8 (own_block hlo g1 rfl).1⟩
          case measure => simp [intOf]; omega
        · obtain rfl : j = n := by omega
          have hlo2 := hlo
          rw [List.take_of_length_le (by have := HL.out; omega), show l.length - j = 0 by have := HL.out; omega, List.replicate_zero, List.append_nil] at hlo2
          have hhi2 := hhi
          clear hlo hhi
          go_wp2
          go_loopw [10] (HiRel w3 g1 g2 j N l) (fun i _ => N - (intOf i).toNat)
          case atStart =>
            refine ⟨0, rfl, Nat.zero_le _, hlo2, ?_, hx6⟩
            rw [zeros_u8] at hhi2
            rw [List.take_zero, Nat.sub_zero, List.length_range]
            exact hhi2
          case round =>
            obtain ⟨i, rfl, hi, hlo, hhi, hx7⟩ := hrel
            rename World => w7
            by_cases hiN : i < N
            · have hr : (List.range N)[i]? = some i := by simp [hiN]
              have HR := Lib.hid hr
              clear hr
              go_wp2_with (first
                | ((with_reducible refine atSlot 71 ?_); refine wpList_of_wp rfl (owp_ix1 (o := ⟨some 71, _, _, _, _, _⟩) _ _ rfl Try.elB rfl i rfl rfl hiN ?_))
                | ((with_reducible refine atStore 71 ?_); refine wpList_of_wp rfl (owp_st1 (o := ⟨none, _, _, _, _, _⟩) 5 _ _ rfl g2 i (.int .u8 128) rfl rfl rfl (own_there hhi (by omega)) (by kernel_rfl) rfl ?_))
                | fail)
              go_roundw
              case rel =>
                have h8 := own_setCell (j := i) (v := u8 128) hhi (by omega)
                rw [set_u8, set_step (f := fun _ => (128 : UInt8)) HR.out] at h8
                have hg8 := grown_setCell' w7 g2 i (.int .u8 128)
                exact ⟨i + 1, by go_num, by omega, own_other hlo hg8 (fun e => hne (by simpa [blockOf] using e)), h8, hx7.rd hg8 (own_block hhi g2 rfl).1⟩
              case measure => simp [intOf]; omega
            · obtain rfl : i = N := by omega
              have hB1 := Bytes.of_own hlo
              have hB2 : Bytes w7 (some ⟨g2, 0, none⟩) i i (List.replicate i 128) := by
                have h := hhi
                rw [List.take_of_length_le (by simp), List.length_range, Nat.sub_self, List.replicate_zero, List.append_nil, List.map_const', List.length_range] at h
                exact Bytes.of_own h
              obtain ⟨M, rfl⟩ : ∃ M, i = M + 1 := ⟨i - 1, by omega⟩
              have hmk2 : makeRes (l.map lowB) (List.replicate (M + 1) 128) = ([⟨0, 0, List.replicate (M + 1) 128⟩], 0) := by
                unfold makeRes
                rw [List.length_map, List.length_replicate, if_neg (by have := HL.out; omega), make_apart (low_not l)]
              have HMK2 := Lib.hid hmk2
              have hW := hxw.trans' hx7
              clear hmk2 hlo hhi
              go_wp2_with (first
                | (go_at_call 26; (with_reducible refine (Make_any _ _ _ _ _ _ _ _ _ hB1 hB2 (by omega) (by omega) HMK2.out).mono ?_); rintro e w8 ⟨a8, n8, c8, L8, rfl, hL8, hD8, hx8⟩; have hS := alike_same g2 M hL8 (hB2.ext hx8) hD8 (by omega); clear hD8)
                | (go_at_call 29; (with_reducible refine hS.mono ?_); rintro e w9 ⟨rfl, hx9⟩)
                | fail)
              go_ret
              exact ⟨rfl, ((hW.trans' hx8).trans' (Ext.alloc' w8 _)).trans' hx9⟩
end Go.Proofs.Ytcljlglmnagodaa
