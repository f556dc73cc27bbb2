/-
  Several texts in one: ChaN, ChaQ, ChaI, ChaR.
-/
import Derived.Test.YtkhjeeaojlaagaaChn3
import Derived.Test.YtkhjeeaojlaagaaDelM
import Derived.Test.YtkhjeeaojlaagaaOrdU
import Derived.Test.YtkhjeeaojlaagaaChn2
import Derived.Test.YtkhjeeaojlaagaaMathK
import Derived.Deep.CutRange
import Derived.Test.YtkhjeeaojlaagaaChn1
import Derived.Test.YtkhjeeaojlaagaaDelS
/-
  Chains: the law's next content.
-/
namespace Go.Proofs.Ytkhjeeaojlaagaa
open Go.RowKit

def NxPost (w : World) (g k N : Nat) (e : Ending) (w' : World) : Prop :=
  ∃ (a : Option Addr) (m c k2 : Nat) (l : List UInt8), e = .returned (.slice a m c) ∧ w'.ownsRow w.heap.size 5 1 (.slice a m c) m (l.map u8) ∧ m ≤ N + 30 ∧ Tape w' g k2 ∧ k2 ≤ k + 100 ∧ w.grownBy w' (some g)

set_option maxRecDepth 100000 in
set_option maxHeartbeats 4000000 in
theorem next27_any (g k D : Nat) (a : Option Addr) (n c : Nat) (l : List UInt8) (w : World) (ht : Tape w g k) (hk : k ≤ 10000000000000) (hb : w.ownsRow D 5 1 (.slice a n c) n (l.map u8)) (hD : g < D) (hn : n ≤ 1000000) :
    Calls Try.prog 12 #[.pointer (some ⟨g, 0, none⟩), .slice a n c] w (NxPost w g k n) := by
  have t1 : True := trivial
  have hgl := ht.lt
  have hln := own_len hb
  go_enter Try.func12, Try.ntmps12
  go_wp2_with (first
    | (go_at_call 18; (with_reducible refine (Next_any g k 5 _ ht (by omega) (by omega)).mono ?_); rintro e w1 ⟨u1, rfl, hu1, ht1, hg1⟩; refine Stop.of ?_))
  by_cases h0 : u1 = 0
  · subst h0
    refine Stop.out ?_
    clear hu1 hb
    go_wp2_with (first
      | (go_at_call 18; have _t := t1; (with_reducible refine (Next_any g (k + 1) 30 _ ht1 (by omega) (by omega)).mono ?_); rintro e w2 ⟨u2, rfl, hu2, ht2, hg2⟩; clear t1)
      | (go_at_call 18; (with_reducible refine (Next_any g (k + 1 + 1) 3 _ ht2 (by omega) (by omega)).mono ?_); rintro e w3 ⟨u3, rfl, hu3, ht3, hg3⟩; refine Stop.of ?_))
    have hu2' : u2 ≤ 29 := by unfold Below1 at hu2; omega
    have hu3' : u3 ≤ 2 := by unfold Below1 at hu3; omega
    have htb := TapeBytes_any g (k + 1 + 1 + 1) u2 (1 + u3) w3 ht3 (by omega) (by omega) (by omega)
    rw [show ((1 + u3 : Nat) : Int) = 1 + (u3 : Int) by omega] at htb
    have HTB := Lib.hid htb
    have HG := Lib.hid (grown_trans' (grown_trans' hg1 hg2) hg3)
    clear htb hu2 hu3 hg1 hg2 hg3 ht1 ht2 ht3 ht
    refine Stop.out ?_
    go_wp2_with (go_at_call 23; (with_reducible refine HTB.out.mono ?_); rintro e w4 ⟨a4, c4, l4, rfl, ho, ht4, hg4⟩)
    go_ret
    exact ⟨a4, u2, c4, _, l4, rfl, own_base ho HG.out.size, by omega, ht4, by omega, grown_trans' HG.out hg4⟩
  · obtain ⟨q1, q2⟩ := neI (x := (u1 : Int)) (y := 0) (by omega)
    refine Stop.out ?_
    clear hu1 h0
    have t2 : True := trivial
    go_wp2_with (first
      | (go_at_call 18; have _t := t1; (with_reducible refine (Next_any g (k + 1) ((n : Int) + 1) _ ht1 (by omega) (by omega)).mono ?_); rintro e w2 ⟨s, rfl, hs, ht2, hg2⟩; clear t1; have hs' : s ≤ n := (by unfold Below1 at hs; omega); clear hs; have hmw : IntKind.i64.wrap ((n : Int) - (s : Int)) = (n : Int) - (s : Int) := (by rw [IntKind.wrap_i64]; omega))
      | (go_at_call 18; have _t := t2; (with_reducible refine (Next_any g (k + 1 + 1) _ _ ht2 (by omega) (by omega)).mono ?_); rintro e w3 ⟨u, rfl, hu, ht3, hg3⟩; clear t2; have hsu : s + u ≤ n := (by unfold Below1 at hu; omega); clear hu hmw)
      | fail)
    all_goals
      have hb3 : ∀ w', w3.grownBy w' (some g) → w'.ownsRow D 5 1 (.slice a n c) n (l.map Proofs.Ytkhjeeaojlaagaa.u8) := fun w' h => own_kept (own_kept (own_kept (own_kept hb hg1 hD) hg2 hD) hg3 hD) h hD
      have HG3 := Lib.hid (grown_trans' (grown_trans' hg1 hg2) hg3)
      have HB3 := Lib.hid hb3
      have HT3 := Lib.hid (ht3.ext (Ext.drew' w3))
      have R3 : w3.grownBy w3.drew (some g) := grown_drewO w3 _
      clear hb3 ht1 ht2 ht3 ht hg1 hg2 hg3 hb
      go_wp2
      refine wp_region_z (fun w' => w3.grownBy w' (some g)) R3 [] (.qs [0, 1, 2, 3, 4, 7, 8, 9] (.l 5 (.l 6 (.l 10 (.l 11 (.qs [12] .nil)))))) (by kernel_rfl) (by kernel_rfl) ?_
      iterate 2 ((refine wpZ_q rfl rfl _ (fun w' hx' => by go_simp; try rfl) ?_; go_simp))
      refine wpZ_sl_hi rfl rfl (.tmp 32) (.tmp 33) rfl Try.elB rfl (fun w' h => Row.of_own (HB3.out w' h)) R3 s rfl rfl hs' ?_
      intro a34 hr34
      iterate 4 ((refine wpZ_q rfl rfl _ (fun w' hx' => by go_simp; try rfl) ?_; go_simp))
      refine wpZ_sl_lo rfl rfl (.tmp 39) (.tmp 40) rfl Try.elB rfl (fun w' h => Row.of_own (HB3.out w' h)) (s + u) rfl (by omega) hsu ?_
      intro a41 hr41
      refine wpZ_l rfl rfl ?_
      go_simp
      refine (Next_any g _ 4 _ HT3.out (by omega) (by omega)).mono ?_
      rintro e w4 ⟨u4, rfl, hu4, ht4, hg4⟩
      have hu4' : u4 ≤ 3 := by unfold Below1 at hu4; omega
      have R4 := grown_trans' R3 hg4
      refine ⟨R4, ?_⟩
      refine wpZ_l rfl rfl ?_
      go_simp
      refine (TapeBytes_any g _ u4 3 w4 ht4 (by omega) (by omega) (by omega)).mono ?_
      rintro e w5 ⟨a5, c5, l5, rfl, ho5, ht5, hg5⟩
      have R5 := grown_trans' R4 hg5
      refine ⟨R5, ?_⟩
      refine wpZ_l rfl rfl ?_
      go_simp
      have hal := Ext.alloc' w5 (.cells #[.slice a34 s c, .slice a5 u4 c5, .slice a41 (n - (s + u)) (c - (s + u))] 28)
      have hrow := Row.new w5 #[.slice a34 s c, .slice a5 u4 c5, .slice a41 (n - (s + u)) (c - (s + u))] 28 3 1 rfl (by decide)
      have R6 := grown_trans' R5 (grown_extS g hal)
      refine ⟨R6, ?_⟩
      refine wpZ_l rfl rfl ?_
      go_simp
      have hB : Bts (w5.alloc (.cells #[.slice a34 s c, .slice a5 u4 c5, .slice a41 (n - (s + u)) (c - (s + u))] 28)) (some ⟨w5.heap.size, 0, none⟩) 3 3 [⟨a34, s, c, l.take s⟩, ⟨a5, u4, c5, l5⟩, ⟨a41, n - (s + u), c - (s + u), l.drop (s + u)⟩] := by
        refine ⟨rfl, hrow, fun k hk => ?_⟩
        simp only [List.mem_cons, List.not_mem_nil, or_false] at hk
        rcases hk with rfl | rfl | rfl
        · exact ⟨Bytes.mk' (by have h := hr34 _ R6; rw [Nat.mul_one, ← List.map_take] at h; exact h), by show s ≤ _; omega⟩
        · exact ⟨Bytes.of_own (own_ext ho5 hal), by show u4 ≤ _; omega⟩
        · exact ⟨Bytes.mk' (by have h := hr41 _ R6; rw [Nat.mul_one, ← List.map_drop] at h; exact h), by show n - (s + u) ≤ _; omega⟩
      have hl5 := own_len ho5
      have hfl : ([⟨a34, s, c, l.take s⟩, ⟨a5, u4, c5, l5⟩, ⟨a41, n - (s + u), c - (s + u), l.drop (s + u)⟩] : List Bt).flatMap Bt.l = l.take s ++ (l5 ++ l.drop (s + u)) := by simp
      have hlen : (l.take s ++ (l5 ++ l.drop (s + u))).length ≤ n + 3 := by
        rw [List.length_append, List.length_append, List.length_take, List.length_drop]; omega
      have hj := Joined_any _ 3 3 _ _ hB (by omega) (by rw [hfl]; omega)
      rw [hfl] at hj
      refine hj.mono ?_
      rintro e w7 ⟨a7, n7, c7, rfl, ho7, hx7⟩
      have R7 := grown_trans' R6 (grown_extS g hx7)
      refine ⟨R7, ?_⟩
      ((refine wpZ_q rfl rfl _ (fun w' hx' => by go_simp; try rfl) ?_; go_simp))
      refine wpZ_nil ?_
      go_simp
      have h7 := own_len ho7
      have HF := Lib.hid (show NxPost w g k n (.returned (.slice a7 n7 c7)) w7 from ⟨a7, n7, c7, _, _, rfl, own_base ho7 (by have h1 := HG3.out.size; have h2 := R6.size; omega), by omega, (ht5.ext hal).ext hx7, by omega, grown_trans' HG3.out R7⟩)
      clear hj ho7 hB hrow hr34 hr41 ho5 ht4 ht5 hfl hlen h7 hl5
      go_wp2
      go_ret
      exact HF.out
end Go.Proofs.Ytkhjeeaojlaagaa
/-
  Chains: the law's made chains.
-/
namespace Go.Proofs.Ytkhjeeaojlaagaa
open Go.RowKit

/-- A made chain. -/
structure MkC (w : World) (g : Nat) (X : Nat) (wr : World) (a : Option Addr) (m c : Nat) (L : List Lk) (S : List (List UInt8 × Nat)) : Prop where
  own : OwnLks wr w.heap.size a m c L
  val : Val (L.map Lk.d) S
  few : ∀ y ∈ S, y.1.length ≤ X
  short : ∀ y ∈ L.map Lk.d, y.l.length ≤ 1000000
theorem short_snoc {L : List Ln} {x : Ln} (h : ∀ y ∈ L, y.l.length ≤ 1000000) (hx : x.l.length ≤ 1000000) : ∀ y ∈ L ++ [x], y.l.length ≤ 1000000 := fun y hy => by
  rcases List.mem_append.1 hy with hy | hy
  · exact h y hy
  · obtain rfl : y = x := by simpa using hy
    exact hx
theorem apL_short {S : List (List UInt8 × Nat)} {b : List UInt8} (hb : b.length ≤ 1000000) : (apL S b).l.length ≤ 1000000 := by
  rcases apL_ok (S := S) (b := b) (by omega) with ⟨h1, -⟩ | ⟨c, d, -, -, h1, -, -, h2, -⟩
  · rw [h1]; exact hb
  · rw [h2]; show (encD (makeD c b)).length ≤ _; omega
def MkPost (w : World) (g k N : Nat) (e : Ending) (w' : World) : Prop :=
  ∃ (a : Option Addr) (m c k2 : Nat) (L : List Lk) (S : List (List UInt8 × Nat)), e = .returned (.slice a m c) ∧ MkC w g 300 w' a m c L S ∧ m ≤ N ∧ Tape w' g k2 ∧ k2 ≤ k + 10000 ∧ w.grownBy w' (some g)
def MqRel (w : World) (g k N q : Nat) (ch ct i : Value) (wr : World) : Prop :=
  ∃ (a ba : Option Addr) (m c k2 j bn bc : Nat) (L : List Lk) (S : List (List UInt8 × Nat)) (bl : List UInt8), q = j ∧ i = .int .i64 j ∧ ch = .slice a m c ∧ ct = .slice ba bn bc ∧ MkC w g 300 wr a m c L S ∧ wr.ownsRow w.heap.size 5 1 (.slice ba bn bc) bn (bl.map u8) ∧ bn + 30 * j ≤ 260 ∧ m + j ≤ N ∧ Tape wr g k2 ∧ k2 + 1000 * j ≤ k + 10000 ∧ w.grownBy wr (some g)
theorem lean_ok {S : List (List UInt8 × Nat)} {c b : List UInt8} {i d : Nat} (h : S[i]? = some (c, d)) (hd : d < 8) (hc : c.length ≤ 2048) (hb : b.length ≤ 2048) : lnS S ⟨(i : Int), encD (makeD c b)⟩ = ((b, d + 1), 0) := by
  have h3 : decD (c.length : Int) (encD (makeD c b)) = some (makeD c b) := decD_enc (by rw [make_check hc hb])
  have h4 := lnS_lean h h3 hd
  rwa [make_turns] at h4

theorem make_encLen {b t : List UInt8} (hb : b.length ≤ 2048) (ht : t.length ≤ 2048) : (encD (makeD b t)).length ≤ 1000000 := by
  have h := make_cost hb ht
  have h2 : (makeD b t).all fineB = true := List.all_eq_true.2 fun o ho => fineB_iff.2 ((make_inv b t).nm.2 o ho).fine
  rw [costD_fine h2] at h
  omega

set_option maxRecDepth 100000 in
set_option maxHeartbeats 8000000 in
theorem made27_any (g k N : Nat) (w : World) (ht : Tape w g k) (hk : k ≤ 10000000000) (hN : N ≤ 7) :
    Calls Try.prog 10 #[.pointer (some ⟨g, 0, none⟩), .int .i64 N] w (MkPost w g k N) := by
  have hgl := ht.lt
  have t1 : True := trivial
  go_enter Try.func10, Try.ntmps10
  go_wp2_with (first
    | (go_at_call 18; have _t := t1; (with_reducible refine (Next_any g k 40 _ ht (by omega) (by omega)).mono ?_); rintro e w1 ⟨u1, rfl, hu1, ht1, hg1⟩; clear t1; have hu1' : u1 ≤ 39 := (by unfold Below1 at hu1; omega); clear hu1)
    | (go_at_call 23; (refine (TapeBytes_any g (k + 1) u1 2 _ ht1 (by omega) (by omega) (by omega)).mono ?_); rintro e w2 ⟨a2, c2, l2, rfl, ho2, ht2, hg2⟩)
    | (go_at_call 18; (with_reducible refine (Next_any g (k + 1 + u1) ((N : Int) + 1) _ ht2 (by omega) (by omega)).mono ?_); rintro e w3 ⟨cn, rfl, hcn, ht3, hg3⟩; have hcn' : cn ≤ N := (by unfold Below1 at hcn; omega); clear hcn)
    | fail)
  have hg13 := grown_trans' (grown_trans' hg1 hg2) hg3
  have ho3 := own_kept (own_base ho2 hg1.size) hg3 hgl
  clear ho2 ht1 ht2 hg1 hg2 hg3 ht
  go_loopg [5, 6, 7] cn (fun q ch ct i wr => MqRel w g k N q ch ct i wr)
  case atStart => exact ⟨none, a2, 0, 0, _, cn, u1, c2, [], [], l2, rfl, rfl, rfl, rfl, ⟨OwnLks.nil _ _, Val.nil, (fun y hy => by cases hy), (fun y hy => by cases hy)⟩, ho3, by omega, by omega, ht3, by omega, hg13⟩
  case round =>
    obtain ⟨a, ba, m, c, k2, j, bn, bc, L, S, bl, hq, rfl, rfl, rfl, hM, hb, hbn, hmj, ht4, hk4, hg4⟩ := hrel
    rename World => w4
    have HQ := Lib.hid hq
    have HM := Lib.hid hM
    have HB := Lib.hid hb
    have HG := Lib.hid hg4
    clear hq hM hb ht3 ho3 hg13 hg4
    by_cases hj : 0 < j
    rotate_left
    · have hd : decide (0 < j) = false := decide_eq_false hj
      have HF := Lib.hid (show MkPost w g k N (.returned (.slice a m c)) w4 from ⟨a, m, c, k2, L, S, rfl, HM.out, by omega, ht4, by omega, HG.out⟩)
      go_wp2
      go_ret
      exact HF.out
    have hd : decide (0 < j) = true := decide_eq_true hj
    go_upto_region 6 with fail
    go_cut [33] from 26 to 74 (fun s33 w' => ∃ (q : Bool) (k3 : Nat), s33 = .bool q ∧ (q = true → 0 < m) ∧ Tape w' g k3 ∧ k3 ≤ k2 + 1 ∧ w4.grownBy w' (some g))
    case first =>
      by_cases hm0 : m = 0
      · have hd2 : decide (0 < m) = false := decide_eq_false (by omega)
        have HM0 := Lib.hid hm0
        clear hm0
        go_wp2_with (first
          | (go_at_call 18; (with_reducible refine (Next_any g k2 3 _ ht4 (by omega) (by omega)).mono ?_); rintro e w5 ⟨u5, rfl, hu5, ht5, hg5⟩)
          | fail)
        all_goals
          go_meet
          exact ⟨false, k2 + 1, by simp, (fun h => by cases h), ht5, by omega, hg5⟩
      · have hd2 : decide (0 < m) = true := decide_eq_true (by omega)
        clear hm0
        go_wp2_with (first
          | (go_at_call 18; (with_reducible refine (Next_any g k2 3 _ ht4 (by omega) (by omega)).mono ?_); rintro e w5 ⟨u5, rfl, hu5, ht5, hg5⟩)
          | fail)
        all_goals
          go_meet
          exact ⟨_, k2 + 1, rfl, (fun _ => of_decide_eq_true hd2), ht5, by omega, hg5⟩
    case rest =>
      obtain ⟨qq, k3, rfl, hqm, ht5, hk5, hg5⟩ := hcut
      rename World => w5
      have HM5 := Lib.hid (show MkC w g 300 w5 a m c L S from ⟨HM.out.own.kept hg5 hgl, HM.out.val, HM.out.few, HM.out.short⟩)
      have HB5 := Lib.hid (own_kept HB.out hg5 hgl)
      have HG5 := Lib.hid (grown_trans' HG.out hg5)
      have hbl := own_len HB.out
      clear ht4 hd hg5 HM HB HG
      cases qq with
      | false =>
        have hap := refAppend27_any a m c L ba bn bc bl w5 HM5.out.own.links (Bytes.of_own HB5.out) (by omega) (by omega) (apC_ok HM5.out.val (by rw [List.length_map, HM5.out.own.len]; omega) (by omega))
        have HAP := Lib.hid hap
        obtain ⟨dd, hV⟩ := apL_val (b := bl) HM5.out.val (by omega)
        have HV := Lib.hid hV
        clear hap hV
        go_wp2_with (first
          | (go_at_call 14; (with_reducible refine HAP.out.mono ?_); rintro e w6 ⟨a6, n6, c6, L6, rfl, hO6, hD6, hx6⟩; have HO6 := Lib.hid hO6; have HD6 := Lib.hid hD6; clear hO6 hD6; have ht6 := ht5.ext hx6; have HB6 := Lib.hid (own_ext HB5.out hx6))
          | (go_at_call 12; (with_reducible refine (next27_any g k3 w.heap.size ba bn bc bl _ ht6 (by omega) HB6.out hgl (by omega)).mono ?_); rintro e w7 ⟨a7, n7, c7, k7, l7, rfl, ho7, hn7, ht7, hk7, hg7⟩; have HO7 := Lib.hid ho7; clear ho7)
          | fail)
        have hn6 : n6 = m + 1 := by rw [← HO6.out.len, ← List.length_map (f := Lk.d), HD6.out, List.length_append, List.length_map, HM5.out.own.len]; rfl
        go_roundg (j - 1)
        case measure => have := HQ.out; omega
        case rel =>
          have hs5 := HG5.out.size
          have hs6 := hx6.size
          have hg6 := grown_trans' HG5.out (grown_extS g hx6)
          subst hn6
          refine ⟨a6, a7, m + 1, c6, k7, j - 1, n7, c7, L6, S ++ [(bl, dd)], l7, rfl, by go_num, rfl, rfl, ⟨(HO6.out.base hs5).kept hg7 hgl, by rw [HD6.out]; exact HV.out, fun y hy => ?_, by rw [HD6.out]; exact short_snoc HM5.out.short (apL_short (by omega))⟩, own_base HO7.out hg6.size, by omega, by omega, ht7, by omega, grown_trans' hg6 hg7⟩
          rcases List.mem_append.1 hy with hy | hy
          · exact HM5.out.few y hy
          · obtain rfl : y = (bl, dd) := by simpa using hy
            show bl.length ≤ 300
            omega
      | true =>
        have hm0 := hqm rfl
        have hst := HM5.out.val.st (by rw [List.length_map, HM5.out.own.len]; omega)
        have hSn : S.length = m := by rw [HM5.out.val.len, List.length_map, HM5.out.own.len]
        have HST := Lib.hid hst
        have HSN := Lib.hid hSn
        clear hst hSn
        go_wp2_with (first
          | (go_at_call 18; (with_reducible refine (Next_any g k3 m _ ht5 (by omega) (by omega)).mono ?_); rintro e w6 ⟨u6, rfl, hu6, ht6, hg6⟩; refine Stop.of ?_)
          | fail)
        have hu6' : u6 < m := by unfold Below1 at hu6; omega
        obtain ⟨y, hy⟩ : ∃ y, S[u6]? = some y := ⟨_, List.getElem?_eq_getElem (by rw [HSN.out]; exact hu6')⟩
        obtain ⟨ct, dt⟩ := y
        have hcl : ct.length ≤ 300 := HM5.out.few _ (List.mem_of_getElem? hy)
        have hct : ct.length ≤ 1048576 ∧ dt ≤ 8 := HM5.out.val.size (List.mem_of_getElem? hy)
        have hdt := hct.2
        have HM6 := Lib.hid (show MkC w g 300 w6 a m c L S from ⟨HM5.out.own.kept hg6 hgl, HM5.out.val, HM5.out.few, HM5.out.short⟩)
        have HB6 := Lib.hid (own_kept HB5.out hg6 hgl)
        have HG6 := Lib.hid (grown_trans' HG5.out hg6)
        have hmk : makeRes ct bl = (makeD ct bl, 0) := by unfold makeRes; rw [if_neg (by omega)]
        obtain ⟨hfew, hen⟩ := makeD_len (b := ct) (t := bl) (by omega)
        have HMK := Lib.hid hmk
        have HFW := Lib.hid hfew
        have HEN := Lib.hid hen
        have HY := Lib.hid hy
        have hdv : depV S 0 m (u6 : Int) = (dt : Int) := by unfold depV; rw [if_neg (by omega), Int.toNat_natCast, getD_of HY.out]
        have hdp : ∀ w', Ext w6 w' → Calls Try.prog 22 #[.slice a m c, .int .i64 (u6 : Int)] w' (NewNone (.int .i64 (dt : Int)) w') := fun w' hx => by
          have h := refDepth27_any a m c L u6 w' (HM6.out.own.links.ext hx) (by omega) ⟨by omega, by omega⟩ HST.out
          rwa [hdv] at h
        have hmn : ∀ (w2 : World) (a1 : Option Addr) (m1 c1 : Nat) (BL : List Bt), OwnBts w2 w6.heap.size a1 m1 c1 BL → BL.map Bt.l = S.map Prod.fst → m = m1 := fun w2 a1 m1 c1 BL hB hBS => by
          rw [← hB.len, ← List.length_map (f := Bt.l), hBS, List.length_map, HSN.out]
        have hlen9 : (encD (makeD ct bl)).length ≤ 1000000 := make_encLen (by omega) (by omega)
        have HDP := Lib.hid hdp
        have HMN := Lib.hid hmn
        have HLEN := Lib.hid hlen9
        clear hdp hmn hdv hlen9
        by_cases h8 : dt < 8
        · have hd8 : decide ((dt : Int) < 8) = true := decide_eq_true (by omega)
          have HLEAN := Lib.hid (lean_ok (b := bl) HY.out h8 (by omega) (by omega))
          refine Stop.out ?_
          clear hct hy hmk hfew hen hu6 HM5 HB5 HG5 hg6 h8
          go_wp2_with (first
          | (go_at_call 11; (with_reducible refine (refContents_any a m c L _ HM6.out.own.links (by omega) HST.out).mono ?_); rintro e w7 ⟨a7, n7, c7, BL, rfl, hB7, hBS7, hx7⟩; have hn7 := HMN.out _ _ _ _ _ hB7 hBS7; subst hn7; obtain ⟨k7, hk7, hkl7⟩ := bt_of hBS7 HY.out; have hbI := hB7.bts.2.2 k7 (List.mem_of_getElem? hk7); have HK7 := Lib.hid hk7; have HB7 := Lib.hid hbI.1; have hk7n : k7.n ≤ 140737488355328 := hbI.2; have HKL := Lib.hid hkl7; have HR7 := Lib.hid hB7.bts.2.1; clear hbI hk7 hkl7 hB7 hBS7)
          | ((with_reducible refine atSlot 41 ?_); refine wpList_of_wp rfl (owp_ix (o := ⟨some 41, _, _, _, _, _⟩) _ _ rfl Try.elBs rfl HR7.out u6 rfl rfl hu6' ?_); intro b8 o8 hc8; have hd9 := bt_cell HK7.out hc8; clear hc8; have hmk2 := HMK.out; rw [← HKL.out] at hmk2; have HM2 := Lib.hid hmk2; clear hmk2)
          | (go_at_call 32; (with_reducible refine (refMake_any k7.a k7.n k7.c k7.l ba bn bc bl _ HB7.out ((Bytes.of_own HB6.out).ext hx7) hk7n (by omega) HM2.out).mono ?_); rintro e w8 ⟨a8, n8, c8, L8, rfl, hO8, hD8, hx8⟩; have HO8 := Lib.hid hO8; have HD8 := Lib.hid hD8; clear hO8 hD8 hd9; have hen2 := HEN.out; rw [← HKL.out, ← HD8.out, HB7.out.len] at hen2; have HE2 := Lib.hid hen2; clear hen2; have hn8 : n8 ≤ 4096 := (by rw [← HO8.out.1, ← List.length_map (f := Od.d), HD8.out, HKL.out]; exact HFW.out))
          | (go_at_call 33; (with_reducible refine (refEncode_any (k7.n : Int) a8 n8 c8 L8 _ HO8.out (by omega) HE2.out).mono ?_); rintro e w9 ⟨a9, n9, c9, rfl, ho9, hx9⟩; rw [HD8.out, HKL.out] at ho9; have hl9 := own_len ho9; have HO9 := Lib.hid ho9; have hx69 := hx7.trans' (hx8.trans' hx9); clear ho9)
          | (go_at_call 22; (with_reducible refine (HDP.out _ hx69).mono ?_); rintro e w10 ⟨rfl, hx10⟩; have hx610 := hx69.trans' hx10; have ht10 := ht6.ext hx610; have HB10 := Lib.hid (own_ext HB6.out hx610); have hY10 := own_ext HO9.out hx10)
          | ((with_reducible refine atSlot 65 ?_); have HLO := Lib.hid (HM6.out.own.ext (hx610.trans' (Ext.alloc' w10 (.cells #[.int .i64 (u6 : Int), .slice a9 n9 c9] 45)))); have hsz10 := HG6.out.size; have hsx10 := hx610.size; refine wpList_of_wp rfl (owp_app (o := ⟨some 65, _, _, _, _, _⟩) _ _ rfl Try.elLk rfl HLO.out.own rfl (Row.new w10 #[.int .i64 (u6 : Int), .slice a9 n9 c9] 45 1 2 rfl (by decide)) (lk_oneCell [⟨(u6 : Int), a9, n9, c9, []⟩]) (by omega) (by unfold maxLen; omega) (Nat.le_trans (Nat.le_trans hsz10 hsx10) (Ext.alloc' w10 _).size) ?_); intro a11 c11 w11 ho11 hg11; refine Stop.of ?_)
          | fail)
          have hO11 := OwnLks.push (y := ⟨(u6 : Int), a9, n9, c9, encD (makeD ct bl)⟩) HLO.out hg11 ho11 (own_ext (own_base hY10 (by have h1 := hx7.size; have h2 := hx8.size; omega)) (Ext.alloc' w10 _)) ⟨(by show n9 ≤ _; have := HLEN.out; omega), i64_of (by show (-9223372036854775808 : Int) ≤ (u6 : Int); omega) (by show (u6 : Int) ≤ 9223372036854775807; omega)⟩
          have hgo := fun b (hb : blockOf a = some b) => (own_block HLO.out.own b hb).1
          have hg10 := grown_trans' HG6.out (grown_extS g (hx610.trans' (Ext.alloc' w10 (.cells #[.int .i64 (u6 : Int), .slice a9 n9 c9] 45))))
          have hg11w := chg_trans hg10 hg11 (fun b hb => .inl (hgo b hb))
          have ht11 := (ht10.ext (Ext.alloc' w10 (.cells #[.int .i64 (u6 : Int), .slice a9 n9 c9] 45))).grown hg11 (fun b hb => by have := hgo b hb; omega)
          have HB11 := Lib.hid (own_app_other (own_ext HB10.out (Ext.alloc' w10 (.cells #[.int .i64 (u6 : Int), .slice a9 n9 c9] 45))) HLO.out.own (by decide) hg11)
          have HO11 := Lib.hid hO11
          have HV11 := Lib.hid (HM6.out.val.snoc HLEAN.out)
          refine Stop.out ?_
          clear hO11 ho11 hg10 hg11 hgo hY10
          go_wp2_with (first
            | (go_at_call 12; (with_reducible refine (next27_any g (k3 + 1) w.heap.size ba bn bc bl _ ht11 (by omega) HB11.out hgl (by omega)).mono ?_); rintro e w12 ⟨a12, n12, c12, k12, l12, rfl, ho12, hn12, ht12, hk12, hg12⟩; have HO12 := Lib.hid ho12; clear ho12)
            | fail)
          have hgF := grown_trans' hg11w hg12
          go_roundg (j - 1)
          case measure => have := HQ.out; omega
          case rel =>
            refine ⟨a11, a12, m + 1, c11, k12, j - 1, n12, c12, _, S ++ [(bl, dt + 1)], l12, rfl, by go_num, rfl, rfl, ⟨HO11.out.kept hg12 hgl, by rw [List.map_append]; exact HV11.out, fun y hy => ?_, by rw [List.map_append]; exact short_snoc HM6.out.short HLEN.out⟩, own_base HO12.out hg11w.size, by omega, by omega, ht12, by omega, hgF⟩
            rcases List.mem_append.1 hy with hy | hy
            · exact HM6.out.few y hy
            · obtain rfl : y = (bl, dt + 1) := by simpa using hy
              show bl.length ≤ 300
              omega
        · have hd8 : decide ((dt : Int) < 8) = false := decide_eq_false (by omega)
          refine Stop.out ?_
          clear hct hy hmk hfew hen hu6 HM5 HB5 HG5 hg6 h8
          go_wp2_with (first
          | (go_at_call 11; (with_reducible refine (refContents_any a m c L _ HM6.out.own.links (by omega) HST.out).mono ?_); rintro e w7 ⟨a7, n7, c7, BL, rfl, hB7, hBS7, hx7⟩; have hn7 := HMN.out _ _ _ _ _ hB7 hBS7; subst hn7; obtain ⟨k7, hk7, hkl7⟩ := bt_of hBS7 HY.out; have hbI := hB7.bts.2.2 k7 (List.mem_of_getElem? hk7); have HK7 := Lib.hid hk7; have HB7 := Lib.hid hbI.1; have hk7n : k7.n ≤ 140737488355328 := hbI.2; have HKL := Lib.hid hkl7; have HR7 := Lib.hid hB7.bts.2.1; clear hbI hk7 hkl7 hB7 hBS7)
          | ((with_reducible refine atSlot 41 ?_); refine wpList_of_wp rfl (owp_ix (o := ⟨some 41, _, _, _, _, _⟩) _ _ rfl Try.elBs rfl HR7.out u6 rfl rfl hu6' ?_); intro b8 o8 hc8; have hd9 := bt_cell HK7.out hc8; clear hc8; have hmk2 := HMK.out; rw [← HKL.out] at hmk2; have HM2 := Lib.hid hmk2; clear hmk2)
          | (go_at_call 32; (with_reducible refine (refMake_any k7.a k7.n k7.c k7.l ba bn bc bl _ HB7.out ((Bytes.of_own HB6.out).ext hx7) hk7n (by omega) HM2.out).mono ?_); rintro e w8 ⟨a8, n8, c8, L8, rfl, hO8, hD8, hx8⟩; have HO8 := Lib.hid hO8; have HD8 := Lib.hid hD8; clear hO8 hD8 hd9; have hen2 := HEN.out; rw [← HKL.out, ← HD8.out, HB7.out.len] at hen2; have HE2 := Lib.hid hen2; clear hen2; have hn8 : n8 ≤ 4096 := (by rw [← HO8.out.1, ← List.length_map (f := Od.d), HD8.out, HKL.out]; exact HFW.out))
          | (go_at_call 33; (with_reducible refine (refEncode_any (k7.n : Int) a8 n8 c8 L8 _ HO8.out (by omega) HE2.out).mono ?_); rintro e w9 ⟨a9, n9, c9, rfl, ho9, hx9⟩; rw [HD8.out, HKL.out] at ho9; have hl9 := own_len ho9; have HO9 := Lib.hid ho9; have hx69 := hx7.trans' (hx8.trans' hx9); clear ho9)
          | (go_at_call 22; (with_reducible refine (HDP.out _ hx69).mono ?_); rintro e w10 ⟨rfl, hx10⟩; have hx610 := hx69.trans' hx10; have ht10 := ht6.ext hx610; have HB10 := Lib.hid (own_ext HB6.out hx610); have hY10 := own_ext HO9.out hx10)
          | (go_at_call 12; (with_reducible refine (next27_any g (k3 + 1) w.heap.size ba bn bc bl _ ht10 (by omega) HB10.out hgl (by omega)).mono ?_); rintro e w12 ⟨a12, n12, c12, k12, l12, rfl, ho12, hn12, ht12, hk12, hg12⟩; have HO12 := Lib.hid ho12; clear ho12)
          | fail)
          have hs6 := HG6.out.size
          have hg10 := grown_trans' HG6.out (grown_extS g hx610)
          have hgF := grown_trans' hg10 hg12
          go_roundg (j - 1)
          case measure => have := HQ.out; omega
          case rel => exact ⟨a, a12, m, c, k12, j - 1, n12, c12, L, S, l12, rfl, by go_num, rfl, rfl, ⟨(HM6.out.own.ext hx610).kept hg12 hgl, HM6.out.val, HM6.out.few, HM6.out.short⟩, own_base HO12.out hg10.size, by omega, by omega, ht12, by omega, hgF⟩
end Go.Proofs.Ytkhjeeaojlaagaa
/-
  Chains: Drop.
-/
namespace Go.Proofs.Ytkhjeeaojlaagaa
open Go.RowKit

theorem lk_set_all {y : Lk} : ∀ {L : List Lk} {i : Nat}, i < L.length → (L.flatMap Lk.cells).take (i * 2) ++ y.cells ++ (L.flatMap Lk.cells).drop (i * 2 + 2) = (L.set i y).flatMap Lk.cells
  | [], _, h => by simp at h
  | x :: L, 0, _ => by
    rw [List.flatMap_cons, Nat.zero_mul, Nat.zero_add, List.take_zero, List.nil_append, List.set_cons_zero, List.flatMap_cons, List.drop_append, List.drop_of_length_le (show x.cells.length ≤ 2 from Nat.le_refl _), List.nil_append, show x.cells.length = 2 from rfl]
    rfl
  | x :: L, i + 1, h => by
    have hc : x.cells.length = 2 := rfl
    rw [List.flatMap_cons, List.set_cons_succ, List.flatMap_cons, ← lk_set_all (by simpa using h), List.take_append, List.drop_append, List.take_of_length_le (by omega), List.drop_of_length_le (by omega), hc, List.nil_append,
      show (i + 1) * 2 - 2 = i * 2 by omega, show (i + 1) * 2 + 2 - 2 = i * 2 + 2 by omega]
    simp
theorem OwnLks.data {w w' : World} {B n c A : Nat} {L : List Lk} (h : OwnLks w B (some ⟨A, 0, none⟩) n c L) (hg : w.grownBy w' (some A)) {n1 c1 : Nat} {a1 : Option Addr} {xs : List Value} (h1 : w.ownsRow B 5 1 (.slice a1 n1 c1) n1 xs) : w'.ownsRow B 5 1 (.slice a1 n1 c1) n1 xs := by
  obtain ⟨cur, hcur⟩ := own_heap h.own (b := A) rfl
  exact own_other h1 hg (fun e => own_apart h1 hcur (by decide) e.symm)
theorem OwnLks.set {w : World} {B n c A i : Nat} {L : List Lk} {y : Lk} (h : OwnLks w B (some ⟨A, 0, none⟩) n c L) (hi : i < n) (hd : w.ownsRow B 5 1 (.slice y.a y.n y.c) y.n (y.l.map u8) ∧ y.n ≤ 140737488355328 ∧ i64B y.b) :
    OwnLks (w.setCells A (i * 2) y.cells) B (some ⟨A, 0, none⟩) n c (L.set i y) where
  len := by rw [List.length_set]; exact h.len
  own := by
    rw [← lk_set_all (by rw [h.len]; exact hi)]
    exact own_setCells y.cells (i * 2) w _ h.own (by show i * 2 + 2 ≤ n * 2; omega)
  dat x hx := by
    have hg := grown_setCells A y.cells (i * 2) w
    rcases List.mem_or_eq_of_mem_set hx with hx | rfl
    · exact ⟨h.data hg (h.dat x hx).1, (h.dat x hx).2⟩
    · exact ⟨h.data hg hd.1, hd.2⟩
theorem OwnLks.set1 {w : World} {B n c A i j : Nat} {L : List Lk} {x y : Lk} {v : Value} (h : OwnLks w B (some ⟨A, 0, none⟩) n c L) (hx : L[i]? = some x) (hj : j < 2) (hy : y.cells = x.cells.set j v) (hd : w.ownsRow B 5 1 (.slice y.a y.n y.c) y.n (y.l.map u8) ∧ y.n ≤ 140737488355328 ∧ i64B y.b) :
    OwnLks (w.setCell ⟨A, i * 2 + j, none⟩ v) B (some ⟨A, 0, none⟩) n c (L.set i y) where
  len := by rw [List.length_set]; exact h.len
  own := by
    have hi : i < n := by rw [← h.len]; exact (List.getElem?_eq_some_iff.1 hx).1
    rw [← lk_set_one hx hj hy]
    exact own_setCell h.own (by omega)
  dat z hz := by
    have hg := grown_setCell' w A (i * 2 + j) v
    rcases List.mem_or_eq_of_mem_set hz with hz | rfl
    · exact ⟨h.data hg (h.dat z hz).1, (h.dat z hz).2⟩
    · exact ⟨h.data hg hd.1, hd.2⟩
/-- Kept so far: the first j links are as Drop leaves them, the others as they were. -/
def DrRel (w : World) (S : List (List UInt8 × Nat)) (L : List Ln) (k m : Nat) (a : Option Addr) (c : Nat) (i : Value) (wr : World) : Prop :=
  ∃ (j : Nat) (LL : List Lk), i = .int .i64 j ∧ j ≤ m ∧ OwnLks wr w.heap.size a m c LL ∧ (∀ i y, i < j → LL[i]? = some y → ∃ x, L[k + i]? = some x ∧ y.d = drL S k (k + i) x) ∧ (∀ i y, j ≤ i → LL[i]? = some y → L[k + i]? = some y.d) ∧ Ext w wr

set_option maxRecDepth 100000 in
set_option maxHeartbeats 8000000 in
theorem chDrop_any (a : Option Addr) (n c : Nat) (L : List Lk) (first : Int) (w : World) (hL : Links w a n c L) (hn : n ≤ 140737488355328) (hf : i64B first) {LR : List Ln} {er : Int} (hr : drC (L.map Lk.d) first = (LR, er)) :
    Calls Try.prog 26 #[.slice a n c, .int .i64 first] w (LkR w LR er) := by
  obtain ⟨S, e0, hst⟩ : ∃ S e0, stC (L.map Lk.d) = (S, e0) := ⟨_, _, rfl⟩
  have HM := Lib.hid (chCheck_any a n c L w hL hn hst)
  have HLN := Lib.hid hL.1
  have hf' : -9223372036854775808 ≤ first ∧ first ≤ 9223372036854775807 := hf
  unfold drC at hr
  rw [hst] at hr
  simp only at hr
  rw [List.length_map, hL.1] at hr
  by_cases he : e0 = 0
  rotate_left
  · rw [if_neg he] at hr
    cases hr
    obtain ⟨q1, q2⟩ := neI he
    clear he
    go_enter Try.func26, Try.ntmps26
    go_wp2_with (first
      | (go_at_call 28; (with_reducible refine HM.out.mono ?_); rintro e w2 ⟨rfl, hx2⟩)
      | fail)
    go_ret2
    exact ⟨none, 0, 0, [], rfl, OwnLks.nil _ _, rfl, hx2⟩
  subst he
  rw [if_pos rfl] at hr
  by_cases hlt : first < 0
  · rw [if_pos (.inl hlt)] at hr
    cases hr
    have hd : decide (first < 0) = true := decide_eq_true hlt
    go_enter Try.func26, Try.ntmps26
    go_wp2_with (first
      | (go_at_call 28; (with_reducible refine HM.out.mono ?_); rintro e w2 ⟨rfl, hx2⟩)
      | fail)
    go_ret2
    exact ⟨none, 0, 0, [], rfl, OwnLks.nil _ _, rfl, hx2⟩
  obtain ⟨k, rfl⟩ := Int.eq_ofNat_of_zero_le (show 0 ≤ first by omega)
  by_cases hgt : (n : Int) < k
  · rw [if_pos (.inr hgt)] at hr
    cases hr
    have hd : decide ((n : Int) < k) = true := decide_eq_true hgt
    go_enter Try.func26, Try.ntmps26
    go_wp2_with (first
      | (go_at_call 28; (with_reducible refine HM.out.mono ?_); rintro e w2 ⟨rfl, hx2⟩)
      | fail)
    go_ret2
    exact ⟨none, 0, 0, [], rfl, OwnLks.nil _ _, rfl, hx2⟩
  rw [if_neg (by omega), Int.toNat_natCast] at hr
  simp only [Prod.mk.injEq] at hr
  obtain ⟨hLR, rfl⟩ := hr
  have hkn : k ≤ n := by omega
  obtain ⟨hV, hn256⟩ := stC_val hst
  rw [List.length_map, hL.1] at hn256
  have HLR := Lib.hid hLR
  have HV := Lib.hid hV
  have HLL := Lib.hid hL
  have hrow := hL.2.1
  clear hLR hV hst hlt hgt hL
  go_enter Try.func26, Try.ntmps26
  go_wp2_with (first
    | (go_at_call 28; (with_reducible refine HM.out.mono ?_); rintro e w2 ⟨rfl, hx2⟩)
    | ((with_reducible refine atSlot 25 ?_); refine wpList_of_wp rfl (owp_sl_lo (o := ⟨some 25, _, _, _, _, _⟩) _ _ rfl Try.elLk rfl (hrow.ext hx2) k rfl rfl hkn ?_); intro a3 hr3; have hL3 : Links w2 a3 (n - k) (c - k) (L.drop k) := ⟨(by rw [List.length_drop, HLN.out]), (by rw [← lk_drop]; exact hr3), (fun y hy => (HLL.out.2.2 y (List.mem_of_mem_drop hy)).ext hx2)⟩; have HL3 := Lib.hid hL3; clear hL3 hr3)
    | (go_at_call 40; (with_reducible refine (copied_any a3 (n - k) (c - k) (L.drop k) _ HL3.out (by omega)).mono ?_); rintro e w4 ⟨a4, n4, c4, L4, rfl, hO4, hD4, hx4⟩)
    | fail)
  have hn4 : n4 = n - k := by rw [← hO4.len, ← List.length_map (f := Lk.d), hD4, List.length_map, List.length_drop, HLN.out]
  obtain ⟨m, hm⟩ : ∃ m, m = n - k := ⟨_, rfl⟩
  rw [← hm] at hn4
  subst hn4
  have HM4 := Lib.hid hm
  have hm256 : n4 + k ≤ 256 := by omega
  have hx24 := hx2.trans' hx4
  have hO4' := hO4.base hx2.size
  have HD4 := Lib.hid hD4
  clear hm hD4 hO4
  go_loopw [29] (DrRel w S (L.map Lk.d) k n4 a4 c4) (fun i _ => n4 - (intOf i).toNat)
  case atStart =>
    refine ⟨0, L4, rfl, Nat.zero_le _, hO4', (fun i y h => absurd h (Nat.not_lt_zero _)), (fun i y _ hy => ?_), hx24⟩
    have h := congrArg (fun l => l[i]?) HD4.out
    simp only [List.getElem?_map, hy, Option.map_some, List.getElem?_drop] at h
    rw [List.getElem?_map]
    exact h.symm
  case round =>
    obtain ⟨j, LL, rfl, hj, hO, hA, hB, hx⟩ := hrel
    rename World => w5
    by_cases hjn : j < n4
    rotate_left
    · obtain rfl : j = n4 := by omega
      have hfin : LL.map Lk.d = LR := by
        rw [← HLR.out]
        refine List.ext_getElem? fun i => ?_
        rw [drF_get, List.getElem?_map, List.getElem?_drop]
        by_cases hi : i < j
        · obtain ⟨y, hy⟩ : ∃ y, LL[i]? = some y := ⟨_, List.getElem?_eq_getElem (by rw [hO.len]; exact hi)⟩
          obtain ⟨x, h1, h2⟩ := hA i y hi hy
          rw [hy, h1]
          simp [h2]
        · rw [List.getElem?_eq_none (by rw [hO.len]; omega), List.getElem?_eq_none (by rw [List.length_map, HLN.out]; have := HM4.out; omega)]
          rfl
      have HF := Lib.hid hfin
      clear hfin hA hB
      go_wp2
      go_ret2
      exact ⟨a4, j, c4, LL, rfl, hO, HF.out, hx⟩
    obtain ⟨A, cur, rfl, hAb, hcur, -, -⟩ := own_some hO.own (by omega)
    obtain ⟨y, hy⟩ : ∃ y, LL[j]? = some y := ⟨_, List.getElem?_eq_getElem (by rw [hO.len]; exact hjn)⟩
    have hyL := hB j y (Nat.le_refl _) hy
    have hyo := hO.dat y (List.mem_of_getElem? hy)
    have hyb : -9223372036854775808 ≤ y.b ∧ y.b ≤ 9223372036854775807 := hyo.2.2
    obtain ⟨z, hz1, hz2⟩ := HV.out.2 (k + j) _ hyL
    have hbk := lnS_ok hz2
    have hyr : -1 ≤ y.b ∧ y.b < (k + j : Nat) := by
      rcases hbk with ⟨h1, -, -⟩ | ⟨jj, ct, dt, os, h1, h2, -⟩
      · have h1' : y.b = -1 := h1; omega
      · have h1' : y.b = jj := h1
        have := (List.getElem?_eq_some_iff.1 h2).1
        rw [List.length_take] at this
        omega
    have hr5 := Row.of_own hO.own
    have hfin : ∀ (y' : Lk), y'.d = drL S k (k + j) y.d → (∀ i q, i < j + 1 → (LL.set j y')[i]? = some q → ∃ x, (L.map Lk.d)[k + i]? = some x ∧ q.d = drL S k (k + i) x) ∧ (∀ i q, j + 1 ≤ i → (LL.set j y')[i]? = some q → (L.map Lk.d)[k + i]? = some q.d) := fun y' hy' => by
      refine ⟨fun i q hi hq => ?_, fun i q hi hq => ?_⟩
      · rcases get_set_or hq with ⟨rfl, rfl⟩ | ⟨hne, hq⟩
        · exact ⟨_, hyL, hy'⟩
        · exact hA i q (by omega) hq
      · rw [List.getElem?_set_ne (by omega)] at hq
        exact hB i q (by omega) hq
    have HFN := Lib.hid hfin
    have HY := Lib.hid hy
    have HO := Lib.hid hO
    have HYO := Lib.hid hyo
    have HAB := Lib.hid hAb
    have hE6 := Ext.alloc' w5 (.cells #[.int .i64 y.b, .slice y.a y.n y.c] 45)
    have HAA := Lib.hid hA
    have HBB := Lib.hid hB
    have HZ1 := Lib.hid hz1
    have hfull : y.b = -1 → y.l = z.1 := fun h => by
      rcases hbk with ⟨-, -, h3⟩ | ⟨jj, ct, dt, os, h1, -⟩
      · rw [h3]; rfl
      · have h4 : y.b = (jj : Int) := h1
        omega
    have HFU := Lib.hid hfull
    clear hfull
    clear hyL hyo hz2 hbk hfin hA hB hO hcur hy hAb hz1
    by_cases hge : (k : Int) ≤ y.b
    · have hd : decide ((k : Int) ≤ y.b) = true := decide_eq_true hge
      have hO6 := (HO.out.ext hE6).own
      have HO6 := Lib.hid hO6
      clear hO6
      go_wp2_with (first
        | ((with_reducible refine atSlot 32 ?_); refine wpList_of_wp rfl (owp_ix (o := ⟨some 32, _, _, _, _, _⟩) _ _ rfl Try.elLk rfl hr5 j rfl rfl hjn ?_); intro b3 o3 hc3; have hrg3 := lk_range HY.out hc3; clear hc3)
        | ((with_reducible refine atSlot 33 ?_); refine wpList_of_wp rfl (wp_load_mid (op := ⟨some 33, _, _, _, _, _⟩) 45 _ rfl b3 o3 rfl _ _ hrg3 Try.underlying45 rfl (by kernel_rfl) ?_); simp only [Lk.cells]; clear hrg3)
        | ((with_reducible refine atSlot 41 ?_); refine wpList_of_wp rfl (owp_ix (o := ⟨some 41, _, _, _, _, _⟩) _ _ rfl Try.elLk rfl (Row.of_own HO6.out) j rfl rfl hjn ?_); intro b4 o4 hc4; have hd4 := (hc4 0 (by decide)).trans (lk_get HY.out 0 (by decide)); simp only [Lk.cells, Nat.add_zero, List.getElem?_cons_zero] at hd4; clear hc4)
        | ((with_reducible refine atSlot 46 ?_); refine wpList_of_wp rfl (owp_ixp3 (o := ⟨some 46, _, _, _, _, _⟩) _ _ rfl Try.elLk rfl j rfl rfl hjn ?_))
        | ((with_reducible refine atStore 47 ?_); refine wpList_of_wp rfl (owp_st1 (o := ⟨none, _, _, _, _, _⟩) 3 _ _ rfl A (j * 2 + 0) (.int .i64 (y.b - k)) rfl rfl rfl (own_there HO6.out (by omega)) (by kernel_rfl) rfl ?_))
        | fail)
      go_roundw
      case rel =>
        have hO7 := (HO.out.ext hE6).set1 (y := { y with b := y.b - k }) (v := .int .i64 (y.b - k)) HY.out (by decide : 0 < 2) rfl ⟨own_ext HYO.out.1 hE6, HYO.out.2.1, i64_of (by show -9223372036854775808 ≤ y.b - k; omega) (by show y.b - k ≤ 9223372036854775807; omega)⟩
        obtain ⟨g1, g2⟩ := HFN.out { y with b := y.b - k } (by unfold drL; rw [if_neg (by show ¬ y.b < (k : Int); omega)]; rfl)
        exact ⟨j + 1, _, by go_num, hjn, hO7, g1, g2, (hx.trans' hE6).st HAB.out _ _⟩
      case measure => simp [intOf]; omega
    · have hd : decide ((k : Int) ≤ y.b) = false := decide_eq_false hge
      by_cases h0 : 0 ≤ y.b
      · have hd2 : decide ((0 : Int) ≤ y.b) = true := decide_eq_true h0
        have hco := content_any a n c L S (k + j) z _ HV.out (HLL.out.ext (hx.trans' hE6)) HZ1.out
        rw [show ((k + j : Nat) : Int) = (k : Int) + (j : Int) by omega] at hco
        have HCO := Lib.hid hco
        clear hco
        go_wp2_with (first
          | ((with_reducible refine atSlot 32 ?_); refine wpList_of_wp rfl (owp_ix (o := ⟨some 32, _, _, _, _, _⟩) _ _ rfl Try.elLk rfl hr5 j rfl rfl hjn ?_); intro b3 o3 hc3; have hrg3 := lk_range HY.out hc3; clear hc3)
          | ((with_reducible refine atSlot 33 ?_); refine wpList_of_wp rfl (wp_load_mid (op := ⟨some 33, _, _, _, _, _⟩) 45 _ rfl b3 o3 rfl _ _ hrg3 Try.underlying45 rfl (by kernel_rfl) ?_); simp only [Lk.cells]; clear hrg3)
          | (go_at_call 38; (with_reducible refine HCO.out.mono ?_); rintro e w7 ⟨a7, n7, c7, rfl, ho7, hx7⟩; have hE7 := hE6.trans' hx7; have HO7 := Lib.hid (HO.out.ext hE7))
          | ((with_reducible refine atSlot 60 ?_); refine wpList_of_wp rfl (owp_ixp3 (o := ⟨some 60, _, _, _, _, _⟩) _ _ rfl Try.elLk rfl j rfl rfl hjn ?_))
          | ((with_reducible refine atStore 60 ?_); refine wpList_store_mid rfl 45 _ _ rfl A (j * 2) #[.int .i64 (-1), .slice a7 n7 c7] rfl rfl (own_there HO7.out.own (by simp; omega)) (by kernel_rfl) (by simp [Value.oneCell']) ?_)
          | fail)
        have hl7 := own_len ho7
        have hz := HV.out.size (List.mem_of_getElem? HZ1.out)
        go_roundw
        case rel =>
          have hO8 := HO7.out.set (i := j) (y := ⟨-1, a7, n7, c7, z.1⟩) hjn ⟨own_base ho7 (hx.trans' hE6).size, (by show n7 ≤ _; omega), (i64_of (by decide) (by decide) : i64B (-1))⟩
          obtain ⟨g1, g2⟩ := HFN.out ⟨-1, a7, n7, c7, z.1⟩ (by unfold drL; rw [if_pos (by show y.b < (k : Int); omega), getD_of HZ1.out]; rfl)
          exact ⟨j + 1, _, by go_num, hjn, hO8, g1, g2, (hx.trans' hE7).sts HAB.out _ _⟩
        case measure => simp [intOf]; omega
      · have hb1 : y.b = -1 := by omega
        have hd2 : decide ((0 : Int) ≤ y.b) = false := decide_eq_false h0
        have HB1 := Lib.hid hb1
        clear hb1
        go_wp2_with (first
          | ((with_reducible refine atSlot 32 ?_); refine wpList_of_wp rfl (owp_ix (o := ⟨some 32, _, _, _, _, _⟩) _ _ rfl Try.elLk rfl hr5 j rfl rfl hjn ?_); intro b3 o3 hc3; have hrg3 := lk_range HY.out hc3; clear hc3)
          | ((with_reducible refine atSlot 33 ?_); refine wpList_of_wp rfl (wp_load_mid (op := ⟨some 33, _, _, _, _, _⟩) 45 _ rfl b3 o3 rfl _ _ hrg3 Try.underlying45 rfl (by kernel_rfl) ?_); simp only [Lk.cells]; clear hrg3)
          | fail)
        go_roundw
        case rel =>
          refine ⟨j + 1, LL, by go_num, hjn, HO.out.ext hE6, fun i q hi hq => ?_, fun i q hi hq => HBB.out i q (by omega) hq, hx.trans' hE6⟩
          by_cases hij : i = j
          · subst hij
            rw [HY.out] at hq
            cases hq
            refine ⟨_, HBB.out i y (Nat.le_refl _) HY.out, ?_⟩
            unfold drL
            rw [if_pos (by show y.b < (k : Int); omega), getD_of HZ1.out]
            show Ln.mk y.b y.l = _
            rw [HB1.out, HFU.out HB1.out]
          · exact HAA.out i q (by omega) hq
        case measure => simp [intOf]; omega
end Go.Proofs.Ytkhjeeaojlaagaa
/-
  Chains: the law's chains with a fault.
-/
namespace Go.Proofs.Ytkhjeeaojlaagaa
open Go.RowKit

def FkO (w : World) (g k : Nat) (e : Ending) (w' : World) : Prop :=
  ∃ (a : Option Addr) (m c k2 : Nat) (L : List Lk), e = .returned (.slice a m c) ∧ OwnLks w' w.heap.size a m c L ∧ m ≤ 7 ∧ Tape w' g k2 ∧ k2 ≤ k + 10100 ∧ w.grownBy w' (some g)
theorem u8_one (l : List UInt8) : (l ++ [1]).map u8 = l.map u8 ++ [.int .u8 1] := by rw [List.map_append]; rfl

set_option maxRecDepth 100000 in
set_option maxHeartbeats 8000000 in
theorem faulty27_any (g k N : Nat) (w : World) (ht : Tape w g k) (hk : k ≤ 1000000000) (hN : N ≤ 7) :
    Calls Try.prog 17 #[.pointer (some ⟨g, 0, none⟩), .int .i64 N] w (FkO w g k) := by
  have hgl := ht.lt
  go_enter Try.func17, Try.ntmps17
  go_wp2_with (first
    | (go_at_call 10; (with_reducible refine (made27_any g k N _ ht (by omega) hN).mono ?_); rintro e w1 ⟨a, m, c, k1, L, S, rfl, hM1, hmN, ht1, hk1, hg1⟩; refine Stop.of ?_)
    | fail)
  have HM1 := Lib.hid hM1
  clear hM1
  by_cases hm0 : m = 0
  · subst hm0
    refine Stop.out ?_
    go_wp2
    go_ret
    exact ⟨a, 0, c, k1, L, rfl, HM1.out.own, by omega, ht1, by omega, hg1⟩
  obtain ⟨q1, q2⟩ := neI (x := (m : Int)) (y := 0) (by omega)
  refine Stop.out ?_
  have t1 : True := trivial
  go_wp2_with (first
    | (go_at_call 18; have _t := t1; (with_reducible refine (Next_any g k1 m _ ht1 (by omega) (by omega)).mono ?_); rintro e w2 ⟨i, rfl, hi, ht2, hg2⟩; clear t1; have him : i < m := (by unfold Below1 at hi; omega); clear hi)
    | (go_at_call 18; (with_reducible refine (Next_any g (k1 + 1) 7 _ ht2 (by omega) (by omega)).mono ?_); rintro e w3 ⟨s, rfl, hs, ht3, hg3⟩; refine Stop.of ?_)
    | fail)
  have hg13 := grown_trans' (grown_trans' hg1 hg2) hg3
  have hO3 := (HM1.out.own.kept hg2 hgl).kept hg3 hgl
  obtain ⟨A, cur, rfl, hAb, hcur, -, -⟩ := own_some hO3.own (by omega)
  obtain ⟨x, hx⟩ : ∃ x, L[i]? = some x := ⟨_, List.getElem?_eq_getElem (by rw [hO3.len]; exact him)⟩
  have hxo := hO3.dat x (List.mem_of_getElem? hx)
  have hxs : x.l.length ≤ 1000000 := HM1.out.short x.d (List.mem_map_of_mem (List.mem_of_getElem? hx))
  have hxl := own_len hxo.1
  obtain ⟨xb, xa, xn, xc, xl⟩ := x
  simp only at hxs hxl
  have hAg : g < A := by omega
  have HX := Lib.hid hx
  have HXO := Lib.hid hxo
  have HG3 := Lib.hid hg13
  have HO3 := Lib.hid hO3
  have HAB := Lib.hid hAb
  clear hx hxo hO3 hcur hg2 hg3 hg1 ht1 ht2 HM1 q1 q2 hm0 hs
  clear hAb hg13
  by_cases h0 : s = 0
  · have hs0 : (s : Int) = 0 := by omega
    obtain ⟨p0, r0⟩ := eqI (x := (s : Int)) (y := 0) (by omega)
    refine Stop.out ?_
    clear hs0 h0
    go_wp2_with (first
      | (go_at_call 18; (with_reducible refine (Next_any g (k1 + 1 + 1) 2 _ ht3 (by omega) (by omega)).mono ?_); rintro e w4 ⟨u, rfl, hu, ht4, hg4⟩; have hu' : u ≤ 1 := (by unfold Below1 at hu; omega); have HO4 := Lib.hid (HO3.out.kept hg4 hgl); have HXO4 := Lib.hid (show w4.ownsRow w.heap.size 5 1 (.slice xa xn xc) xn (xl.map Proofs.Ytkhjeeaojlaagaa.u8) ∧ xn ≤ 140737488355328 from ⟨own_kept HXO.out.1 hg4 hgl, HXO.out.2.1⟩); have HG4 := Lib.hid (grown_trans' HG3.out hg4); clear hu hg4)
      | ((with_reducible refine atSlot 28 ?_); refine wpList_of_wp rfl (owp_ixp3 (o := ⟨some 28, _, _, _, _, _⟩) _ _ rfl Try.elLk rfl i rfl rfl him ?_))
      | ((with_reducible refine atStore 29 ?_); refine wpList_of_wp rfl (owp_st1 (o := ⟨none, _, _, _, _, _⟩) 3 _ _ rfl A (i * 2 + 0) (.int .i64 ((i : Int) + (u : Int))) rfl rfl rfl (own_there HO4.out.own (by omega)) (by kernel_rfl) rfl ?_))
      | fail)
    have hO4 := HO4.out.set1 (y := ⟨(i : Int) + (u : Int), xa, xn, xc, xl⟩) (v := .int .i64 ((i : Int) + (u : Int))) HX.out (by decide : 0 < 2) rfl ⟨HXO4.out.1, HXO4.out.2, i64_of (by show (-9223372036854775808 : Int) ≤ (i : Int) + (u : Int); omega) (by show (i : Int) + (u : Int) ≤ (9223372036854775807 : Int); omega)⟩
    have hg4 := grown_setCell' w4 A (i * 2 + 0) (.int .i64 ((i : Int) + (u : Int)))
    have HF := Lib.hid (show FkO w g k (.returned (.slice (some ⟨A, 0, none⟩) m c)) (w4.setCell ⟨A, i * 2 + 0, none⟩ (.int .i64 ((i : Int) + (u : Int)))) from ⟨_, m, c, k1 + 1 + 1 + 1, _, rfl, hO4, by omega, ht4.grown hg4 (fun b hb => by cases hb; exact hAg), by omega, chg_trans HG4.out hg4 (fun b hb => by cases hb; exact .inl HAB.out)⟩)
    go_ret
    exact HF.out
  by_cases h1 : s = 1
  · have hs0 : (s : Int) = 1 := by omega
    obtain ⟨p0, r0⟩ := neI (x := (s : Int)) (y := 0) (by omega)
    obtain ⟨p1, r1⟩ := eqI (x := (s : Int)) (y := 1) (by omega)
    refine Stop.out ?_
    clear hs0 h0 h1
    go_wp2_with (first
      | ((with_reducible refine atSlot 34 ?_); refine wpList_of_wp rfl (owp_ixp3 (o := ⟨some 34, _, _, _, _, _⟩) _ _ rfl Try.elLk rfl i rfl rfl him ?_))
      | ((with_reducible refine atStore 35 ?_); refine wpList_of_wp rfl (owp_st1 (o := ⟨none, _, _, _, _, _⟩) 3 _ _ rfl A (i * 2 + 0) (.int .i64 (-2)) rfl rfl rfl (own_there HO3.out.own (by omega)) (by kernel_rfl) rfl ?_))
      | fail)
    have hO4 := HO3.out.set1 (y := ⟨-2, xa, xn, xc, xl⟩) (v := .int .i64 (-2)) HX.out (by decide : 0 < 2) rfl ⟨HXO.out.1, HXO.out.2.1, i64_of (by show (-9223372036854775808 : Int) ≤ -2; decide) (by show (-2 : Int) ≤ (9223372036854775807 : Int); decide)⟩
    have hg4 := grown_setCell' w3 A (i * 2 + 0) (.int .i64 (-2))
    have HF := Lib.hid (show FkO w g k (.returned (.slice (some ⟨A, 0, none⟩) m c)) (w3.setCell ⟨A, i * 2 + 0, none⟩ (.int .i64 (-2))) from ⟨_, m, c, k1 + 1 + 1, _, rfl, hO4, by omega, ht3.grown hg4 (fun b hb => by cases hb; exact hAg), by omega, chg_trans HG3.out hg4 (fun b hb => by cases hb; exact .inl HAB.out)⟩)
    go_ret
    exact HF.out
  by_cases h2 : s = 2
  · have hs0 : (s : Int) = 2 := by omega
    obtain ⟨p0, r0⟩ := neI (x := (s : Int)) (y := 0) (by omega)
    obtain ⟨p1, r1⟩ := neI (x := (s : Int)) (y := 1) (by omega)
    obtain ⟨p2, r2⟩ := eqI (x := (s : Int)) (y := 2) (by omega)
    have hr3 := Row.of_own HO3.out.own
    refine Stop.out ?_
    clear hs0 h0 h1 h2
    go_wp2_with (first
      | ((with_reducible refine atSlot 42 ?_); refine wpList_of_wp rfl (owp_ix (o := ⟨some 42, _, _, _, _, _⟩) _ _ rfl Try.elLk rfl hr3 i rfl rfl him ?_); intro b5 o5 hc5; have hd5 := (hc5 1 (by decide)).trans (lk_get HX.out 1 (by decide)); simp only [Lk.cells, List.getElem?_cons_zero, List.getElem?_cons_succ] at hd5; clear hc5)
      | ((with_reducible refine atSlot 45 ?_); refine wpList_of_wp rfl (owp_clone (o := ⟨some 45, _, _, _, _, _⟩) _ _ rfl Try.elB rfl rfl (Bytes.of_own HXO.out.1).row (u8_oneCell _) (by omega) ?_); intro a6 c6 w6 ho6 hx6; have HO6 := Lib.hid ho6; clear ho6 hd5)
      | ((with_reducible refine atSlot 47 ?_); refine wpList_of_wp rfl (owp_app (o := ⟨some 47, _, _, _, _, _⟩) _ _ rfl Try.elB rfl (own_ext HO6.out (Ext.alloc' w6 _)) rfl (Row.new w6 #[.int .u8 1] 5 1 1 rfl (by decide)) (u8_oneCell [1]) (by omega) (by unfold maxLen; omega) (Nat.le_trans hx6.size (Ext.alloc' w6 _).size) ?_); intro a7 c7 w7 ho7 hg7; rw [← u8_one] at ho7; have hx7 : Ext w3 w7 := below_app (hx6.trans' (Ext.alloc' w6 _)) (own_ext HO6.out (Ext.alloc' w6 _)) hg7 (Nat.le_trans hx6.size (Ext.alloc' w6 _).size); have HO7 := Lib.hid ho7; have HL7 := Lib.hid (HO3.out.ext hx7); clear ho7 hg7)
      | ((with_reducible refine atSlot 48 ?_); refine wpList_of_wp rfl (owp_ixp3 (o := ⟨some 48, _, _, _, _, _⟩) _ _ rfl Try.elLk rfl i rfl rfl him ?_))
      | ((with_reducible refine atStore 49 ?_); refine wpList_of_wp rfl (owp_st1 (o := ⟨none, _, _, _, _, _⟩) 28 _ _ rfl A (i * 2 + 1) (.slice a7 (xn + 1) c7) rfl rfl rfl (own_there HL7.out.own (by omega)) (by kernel_rfl) rfl ?_))
      | fail)
    have hO4 := HL7.out.set1 (y := ⟨xb, a7, xn + 1, c7, xl ++ [1]⟩) (v := .slice a7 (xn + 1) c7) HX.out (by decide : 1 < 2) rfl ⟨own_base HO7.out HG3.out.size, (by show xn + 1 ≤ _; omega), HXO.out.2.2⟩
    have hg4 := grown_setCell' w7 A (i * 2 + 1) (.slice a7 (xn + 1) c7)
    have HF := Lib.hid (show FkO w g k (.returned (.slice (some ⟨A, 0, none⟩) m c)) (w7.setCell ⟨A, i * 2 + 1, none⟩ (.slice a7 (xn + 1) c7)) from ⟨_, m, c, k1 + 1 + 1, _, rfl, hO4, by omega, (ht3.ext hx7).grown hg4 (fun b hb => by cases hb; exact hAg), by omega, chg_trans (grown_trans' HG3.out (grown_extS g hx7)) hg4 (fun b hb => by cases hb; exact .inl HAB.out)⟩)
    go_ret
    exact HF.out
  by_cases h3 : s = 3
  · have hs0 : (s : Int) = 3 := by omega
    obtain ⟨p0, r0⟩ := neI (x := (s : Int)) (y := 0) (by omega)
    obtain ⟨p1, r1⟩ := neI (x := (s : Int)) (y := 1) (by omega)
    obtain ⟨p2, r2⟩ := neI (x := (s : Int)) (y := 2) (by omega)
    obtain ⟨p3, r3⟩ := eqI (x := (s : Int)) (y := 3) (by omega)
    refine Stop.out ?_
    clear hs0 h0 h1 h2 h3
    go_wp2_with (first
      | (go_at_call 18; (with_reducible refine (Next_any g (k1 + 1 + 1) ((i : Int) + 1) _ ht3 (by omega) (by omega)).mono ?_); rintro e w4 ⟨u, rfl, hu, ht4, hg4⟩; have hu' : u ≤ i := (by unfold Below1 at hu; omega); have HO4 := Lib.hid (HO3.out.kept hg4 hgl); have HXO4 := Lib.hid (show w4.ownsRow w.heap.size 5 1 (.slice xa xn xc) xn (xl.map Proofs.Ytkhjeeaojlaagaa.u8) ∧ xn ≤ 140737488355328 from ⟨own_kept HXO.out.1 hg4 hgl, HXO.out.2.1⟩); have HG4 := Lib.hid (grown_trans' HG3.out hg4); clear hu hg4)
      | ((with_reducible refine atSlot 59 ?_); refine wpList_of_wp rfl (owp_ixp3 (o := ⟨some 59, _, _, _, _, _⟩) _ _ rfl Try.elLk rfl i rfl rfl him ?_))
      | ((with_reducible refine atStore 60 ?_); refine wpList_of_wp rfl (owp_st1 (o := ⟨none, _, _, _, _, _⟩) 3 _ _ rfl A (i * 2 + 0) (.int .i64 ((u : Int) - 1)) rfl rfl rfl (own_there HO4.out.own (by omega)) (by kernel_rfl) rfl ?_))
      | fail)
    have hO4 := HO4.out.set1 (y := ⟨(u : Int) - 1, xa, xn, xc, xl⟩) (v := .int .i64 ((u : Int) - 1)) HX.out (by decide : 0 < 2) rfl ⟨HXO4.out.1, HXO4.out.2, i64_of (by show (-9223372036854775808 : Int) ≤ (u : Int) - 1; omega) (by show (u : Int) - 1 ≤ (9223372036854775807 : Int); omega)⟩
    have hg4 := grown_setCell' w4 A (i * 2 + 0) (.int .i64 ((u : Int) - 1))
    have HF := Lib.hid (show FkO w g k (.returned (.slice (some ⟨A, 0, none⟩) m c)) (w4.setCell ⟨A, i * 2 + 0, none⟩ (.int .i64 ((u : Int) - 1))) from ⟨_, m, c, k1 + 1 + 1 + 1, _, rfl, hO4, by omega, ht4.grown hg4 (fun b hb => by cases hb; exact hAg), by omega, chg_trans HG4.out hg4 (fun b hb => by cases hb; exact .inl HAB.out)⟩)
    go_ret
    exact HF.out
  · obtain ⟨p0, r0⟩ := neI (x := (s : Int)) (y := 0) (by omega)
    obtain ⟨p1, r1⟩ := neI (x := (s : Int)) (y := 1) (by omega)
    obtain ⟨p2, r2⟩ := neI (x := (s : Int)) (y := 2) (by omega)
    obtain ⟨p3, r3⟩ := neI (x := (s : Int)) (y := 3) (by omega)
    have HF := Lib.hid (show FkO w g k (.returned (.slice (some ⟨A, 0, none⟩) m c)) w3 from ⟨_, m, c, k1 + 1 + 1, _, rfl, HO3.out, by omega, ht3, by omega, HG3.out⟩)
    refine Stop.out ?_
    clear h0 h1 h2 h3
    go_wp2_with fail
    go_ret
    exact HF.out
theorem made27_7 (g k : Nat) (w : World) (ht : Tape w g k) (hk : k ≤ 10000000000) :
    Calls Try.prog 10 #[.pointer (some ⟨g, 0, none⟩), .int .i64 7] w (MkPost w g k 7) := made27_any g k 7 w ht hk (by decide)
theorem made27_5 (g k : Nat) (w : World) (ht : Tape w g k) (hk : k ≤ 10000000000) :
    Calls Try.prog 10 #[.pointer (some ⟨g, 0, none⟩), .int .i64 5] w (MkPost w g k 5) := made27_any g k 5 w ht hk (by decide)
theorem faulty27_7 (g k : Nat) (w : World) (ht : Tape w g k) (hk : k ≤ 1000000000) :
    Calls Try.prog 17 #[.pointer (some ⟨g, 0, none⟩), .int .i64 7] w (FkO w g k) := faulty27_any g k 7 w ht hk (by decide)
end Go.Proofs.Ytkhjeeaojlaagaa
