/-
  Chains: Append.
-/
import Derived.Test.YtcljlglmnagodaaChaD
import Derived.Test.YtcljlglmnagodaaChaE
import Derived.Deep.CutRange
namespace Go.Proofs.Ytcljlglmnagodaa
open Go.RowKit

/-- Links in new memory, and an error. -/
def LkR (w : World) (L : List Ln) (er : Int) (e : Ending) (w' : World) : Prop :=
  ∃ (a : Option Addr) (n c : Nat) (LL : List Lk), e = .returned (.tuple #[.slice a n c, .int .i64 er]) ∧ OwnLks w' w.heap.size a n c LL ∧ LL.map Lk.d = L ∧ Ext w w'
/-- The link that Append adds, as it lies there before the content is copied. -/
def ApLink (w0 : World) (bx : Nat) (x : Ln) (bb : List UInt8) (w' : World) : Prop :=
  ∃ (kb : Int) (a n c : _) (l : List UInt8), w'.heap[bx]? = some (.cells #[.int .i64 kb, .slice a n c] 73 (0, 0)) ∧ Ext w0 w' ∧
    ((kb = -1 ∧ a = none ∧ n = 0 ∧ c = 0 ∧ x = ⟨-1, bb⟩) ∨ (0 ≤ kb ∧ i64B kb ∧ x = ⟨kb, l⟩ ∧ n ≤ 140737488355328 ∧ w'.ownsRow w0.heap.size 5 1 (.slice a n c) n (l.map u8)))
theorem box_set2 {w : World} {g : Nat} {x y x' y' : Value} {t : TypeId} (h : w.heap[g]? = some (.cells #[x, y] t (0, 0))) : (w.setCells g 0 [x', y']).heap[g]? = some (.cells #[x', y'] t (0, 0)) := by
  simp [World.setCells, World.setCell, Array.getElem?_modify, h]
theorem apL_full {S : List (List UInt8 × Nat)} {b : List UInt8} (h : ∀ c d, S.getLast? = some (c, d) → ¬ (d < 8 ∧ c.length ≤ 2048 ∧ b.length ≤ 2048 ∧ (encD (makeD c b)).length < b.length)) : apL S b = ⟨-1, b⟩ := by
  unfold apL
  cases hS : S.getLast? with
  | none => rfl
  | some y => obtain ⟨c, d⟩ := y; simp only; exact if_neg (h c d hS)
theorem apL_lean {S : List (List UInt8 × Nat)} {b c : List UInt8} {d : Nat} (hS : S.getLast? = some (c, d)) (h : d < 8 ∧ c.length ≤ 2048 ∧ b.length ≤ 2048 ∧ (encD (makeD c b)).length < b.length) : apL S b = ⟨((S.length - 1 : Nat) : Int), encD (makeD c b)⟩ := by
  unfold apL; rw [hS]; exact if_pos h

set_option maxRecDepth 100000 in
set_option maxHeartbeats 8000000 in
theorem chAppend_any (a : Option Addr) (n c : Nat) (L : List Lk) (a1 : Option Addr) (n1 c1 : Nat) (b : List UInt8) (w : World) (hL : Links w a n c L) (hb : Bytes w a1 n1 c1 b) (hn : n ≤ 140737488355328) (hn1 : n1 ≤ 140737488355328) {LR : List Ln} {er : Int} (hr : apC (L.map Lk.d) b = (LR, er)) :
    Calls Try.prog 53 #[.slice a n c, .slice a1 n1 c1] w (LkR w LR er) := by
  obtain ⟨S, e0, hst⟩ : ∃ S e0, stC (L.map Lk.d) = (S, e0) := ⟨_, _, rfl⟩
  have HM := Lib.hid (measure_any a n c L w hL hn hst)
  have HLN := Lib.hid hL.1
  have HBL := Lib.hid hb.len
  unfold apC at hr
  rw [hst] at hr
  simp only at hr
  rw [List.length_map, hL.1, hb.len] at hr
  by_cases he : e0 = 0
  rotate_left
  · rw [if_neg he] at hr
    cases hr
    obtain ⟨q1, q2⟩ := neI he
    clear he
    go_enter Try.func53, Try.ntmps53
    go_wp2_with (first
      | (go_at_call 89; (with_reducible refine HM.out.mono ?_); rintro e w2 ⟨X, rfl, hX, -, hx2⟩)
      | ((with_reducible refine atStore 6 ?_); refine wpList_store_mid rfl 121 _ _ rfl w2.heap.size 0 (ints X) rfl rfl ((Arr.new w2).there hX) (ints_size hX) (ints_one _) ?_)
      | fail)
    go_ret2
    exact ⟨none, 0, 0, [], rfl, OwnLks.nil _ _, rfl, (hx2.al _).sts hx2.size _ _⟩
  subst he
  rw [if_pos rfl] at hr
  by_cases h256 : n = 256
  · rw [if_pos h256] at hr
    cases hr
    obtain ⟨q1, q2⟩ := eqI (x := (n : Int)) (y := 256) (by omega)
    clear h256
    go_enter Try.func53, Try.ntmps53
    go_wp2_with (first
      | (go_at_call 89; (with_reducible refine HM.out.mono ?_); rintro e w2 ⟨X, rfl, hX, -, hx2⟩)
      | ((with_reducible refine atStore 6 ?_); refine wpList_store_mid rfl 121 _ _ rfl w2.heap.size 0 (ints X) rfl rfl ((Arr.new w2).there hX) (ints_size hX) (ints_one _) ?_)
      | fail)
    go_ret2
    exact ⟨none, 0, 0, [], rfl, OwnLks.nil _ _, rfl, (hx2.al _).sts hx2.size _ _⟩
  rw [if_neg h256] at hr
  obtain ⟨q1, q2⟩ := neI (x := (n : Int)) (y := 256) (by omega)
  by_cases hbig : 1048576 < n1
  · rw [if_pos hbig] at hr
    cases hr
    have hd : decide ((1048576 : Int) < n1) = true := decide_eq_true (by omega)
    go_enter Try.func53, Try.ntmps53
    go_wp2_with (first
      | (go_at_call 89; (with_reducible refine HM.out.mono ?_); rintro e w2 ⟨X, rfl, hX, -, hx2⟩)
      | ((with_reducible refine atStore 6 ?_); refine wpList_store_mid rfl 121 _ _ rfl w2.heap.size 0 (ints X) rfl rfl ((Arr.new w2).there hX) (ints_size hX) (ints_one _) ?_)
      | fail)
    go_ret2
    exact ⟨none, 0, 0, [], rfl, OwnLks.nil _ _, rfl, (hx2.al _).sts hx2.size _ _⟩
  rw [if_neg hbig] at hr
  simp only [Prod.mk.injEq] at hr
  obtain ⟨hLR, rfl⟩ := hr
  have hd1 : decide ((1048576 : Int) < n1) = false := decide_eq_false (by omega)
  obtain ⟨hV, hn256⟩ := stC_val hst
  rw [List.length_map, hL.1] at hn256
  have hSn : S.length = n := by rw [hV.len, List.length_map, hL.1]
  have hnn : n < 256 := by omega
  have HLR := Lib.hid hLR
  have HV := Lib.hid hV
  have HSN := Lib.hid hSn
  have HBB := Lib.hid hb
  have HLL := Lib.hid hL
  have HNB := Lib.hid (show n1 ≤ 1048576 by omega)
  clear hLR hV hSn hst hn256 hbig h256 hb hL
  go_enter Try.func53, Try.ntmps53
  go_upto_region 10 with (first
    | (go_at_call 89; (with_reducible refine HM.out.mono ?_); rintro e w2 ⟨X, rfl, hX, hXS, hx2⟩; have HXS := Lib.hid (hXS rfl); clear hXS)
    | ((with_reducible refine atStore 6 ?_); refine wpList_store_mid rfl 121 _ _ rfl w2.heap.size 0 (ints X) rfl rfl ((Arr.new w2).there hX) (ints_size hX) (ints_one _) ?_)
    | fail)
  have hA3 := (Arr.new w2).put hX
  have hx3 := (hx2.al (.cells Try.zeroCells121 121)).sts hx2.size 0 (ints X).toList
  generalize (w2.alloc (.cells Try.zeroCells121 121)).setCells w2.heap.size 0 (ints X).toList = w3 at hA3 hx3 ⊢
  generalize w2.heap.size = gd at hA3 ⊢
  have hbx := heap_alloc_new w3 (.cells #[.int .i64 (-1), .slice none 0 0] 73)
  have hA4 := hA3.al (.cells #[.int .i64 (-1), .slice none 0 0] 73)
  have hx4 := hx3.al (.cells #[.int .i64 (-1), .slice none 0 0] 73)
  have hzb := hx3.size
  generalize w3.heap.size = bx at hbx hzb ⊢
  generalize w3.alloc (.cells #[.int .i64 (-1), .slice none 0 0] 73) = w4 at hbx hA4 hx4 ⊢
  clear hA3 hx3 hx2
  have HA4 := Lib.hid hA4
  have HX := Lib.hid hX
  have HBX := Lib.hid hbx
  have hLL4 : ∀ w', Ext w4 w' → Links w' a n c L := fun w' h => HLL.out.ext (hx4.trans' h)
  have HL4 := Lib.hid hLL4
  have hbb4 : ∀ w', Ext w4 w' → Bytes w' a1 n1 c1 b := fun w' h => HBB.out.ext (hx4.trans' h)
  have HB4 := Lib.hid hbb4
  clear hA4 hX hbx hLL4 hbb4
  go_cut [40] from 33 (fun s40 w' => ∃ q : Bool, s40 = .bool q ∧ w' = w4 ∧ ((q = false ∧ apL S b = ⟨-1, b⟩) ∨ (q = true ∧ 0 < n ∧ ∃ ct dt, S[n - 1]? = some (ct, dt) ∧ dt < 8)))
  case first =>
    by_cases hn0 : n = 0
    · have hS0 : S = [] := List.eq_nil_of_length_eq_zero (by have := HSN.out; omega)
      have hap : apL S b = ⟨-1, b⟩ := apL_full (fun c d h => by rw [hS0] at h; cases h)
      have HAP := Lib.hid hap
      clear hap hS0
      have hn1' : n < 1 := by omega
      clear hn0
      go_wp2
      go_meet
      exact ⟨false, rfl, rfl, .inl ⟨rfl, HAP.out⟩⟩
    have hn0' : 0 < n := by omega
    obtain ⟨⟨ct, dt⟩, hy⟩ : ∃ y, S[n - 1]? = some y := ⟨_, List.getElem?_eq_getElem (by have := HSN.out; omega)⟩
    have hlast : S.getLast? = some (ct, dt) := by rw [List.getLast?_eq_getElem?, HSN.out]; exact hy
    have hxm := HXS.out _ _ hy
    have hq : w4.cell? ⟨gd, n - 1, none⟩ = some (.int .i64 (dt : Int)) := HA4.out.at_ hxm
    have HY := Lib.hid hy
    by_cases h8 : dt < 8
    · have hd3 : decide ((dt : Int) < 8) = true := decide_eq_true (by omega)
      clear hlast hy hxm hn0
      go_wp2
      go_meet
      exact ⟨true, rfl, rfl, .inr ⟨rfl, hn0', ct, dt, HY.out, h8⟩⟩
    · have hap : apL S b = ⟨-1, b⟩ := apL_full (fun c d h h1 => by rw [hlast] at h; cases h; exact h8 h1.1)
      have hd3 : decide ((dt : Int) < 8) = false := decide_eq_false (by omega)
      have HAP := Lib.hid hap
      clear hap hlast hy hxm hn0
      go_wp2
      go_meet
      exact ⟨false, rfl, rfl, .inl ⟨rfl, HAP.out⟩⟩
  obtain ⟨q, rfl, rfl, hqq⟩ := hcut
  rename World => w4
  go_upto_if 40 with fail
  go_cut [10, 11] from 13 (fun _ _ w' => ApLink w bx (apL S b) b w')
  case first =>
    rcases hqq with ⟨rfl, hap⟩ | ⟨rfl, hn0', ct, dt, hy, h8⟩
    · have HAP := Lib.hid hap
      clear hap
      go_wp2
      go_meet
      exact ⟨-1, none, 0, 0, [], HBX.out, hx4, .inl ⟨rfl, rfl, rfl, rfl, by rw [HAP.out]⟩⟩
    · have hlast : S.getLast? = some (ct, dt) := by rw [List.getLast?_eq_getElem?, HSN.out]; exact hy
      have hsz := HV.out.size (List.mem_of_getElem? hy)
      have hct : ct.length ≤ 1048576 := hsz.1
      have hco := content_any a n c L S (n - 1) (ct, dt) w4 HV.out (HL4.out _ (Below.refl _ _)) hy
      rw [show ((n - 1 : Nat) : Int) = (n : Int) - 1 by omega] at hco
      obtain ⟨le, ok, hen⟩ : ∃ le ok, encV ct b = (le, ok) := ⟨_, _, rfl⟩
      have hap : (ok = false ∧ apL S b = ⟨-1, b⟩) ∨ (ok = true ∧ apL S b = ⟨(n : Int) - 1, le⟩) := by
        unfold encV at hen
        by_cases hbig : 2048 < ct.length ∨ 2048 < b.length
        · rw [if_pos hbig] at hen
          cases hen
          exact .inl ⟨rfl, apL_full (fun c d h h1 => by rw [hlast] at h; cases h; omega)⟩
        · rw [if_neg hbig] at hen
          simp only [Prod.mk.injEq] at hen
          obtain ⟨h1, h2⟩ := hen
          by_cases h3 : (encD (makeD ct b)).length < b.length
          · refine .inr ⟨by rw [← h2]; exact decide_eq_true h3, ?_⟩
            rw [apL_lean hlast ⟨h8, by omega, by omega, h3⟩, HSN.out, h1]
            congr 1
            omega
          · exact .inl ⟨by rw [← h2]; exact decide_eq_false h3, apL_full (fun c d h h1 => by rw [hlast] at h; cases h; exact h3 h1.2.2.2)⟩
      have HCO := Lib.hid hco
      have HEN := Lib.hid hen
      clear hco hlast hy hen hsz
      rcases hap with ⟨rfl, hap⟩ | ⟨rfl, hap⟩
      · have HAP := Lib.hid hap
        clear hap
        go_wp2_with (first
          | (go_at_call 91; (with_reducible refine HCO.out.mono ?_); rintro e w5 ⟨a5, n5, c5, rfl, ho5, hx5⟩; have hl5 := own_len ho5; have hb5 := HB4.out w5 hx5; have hn5 : n5 ≤ 1048576 := (by have h : ct.length = n5 := hl5; omega))
          | (go_at_call 90; (with_reducible refine (encoded_any a5 n5 c5 ct a1 n1 c1 b _ (Bytes.of_own ho5) hb5 (by omega) hn1 HEN.out).mono ?_); rintro e w6 ⟨a6, n6, c6, rfl, ho6, hx6⟩)
          | fail)
        go_meet
        exact ⟨-1, none, 0, 0, [], (hx5.trans' hx6).heap' HBX.out, hx4.trans' (hx5.trans' hx6), .inl ⟨rfl, rfl, rfl, rfl, by rw [HAP.out]⟩⟩
      · have HAP := Lib.hid hap
        clear hap
        go_wp2_with (first
          | (go_at_call 91; (with_reducible refine HCO.out.mono ?_); rintro e w5 ⟨a5, n5, c5, rfl, ho5, hx5⟩; have hl5 := own_len ho5; have hb5 := HB4.out w5 hx5; have hn5 : n5 ≤ 1048576 := (by have h : ct.length = n5 := hl5; omega))
          | (go_at_call 90; (with_reducible refine (encoded_any a5 n5 c5 ct a1 n1 c1 b _ (Bytes.of_own ho5) hb5 (by omega) hn1 HEN.out).mono ?_); rintro e w6 ⟨a6, n6, c6, rfl, ho6, hx6⟩; have hbx6 := (hx5.trans' hx6).heap' HBX.out)
          | ((with_reducible refine atStore 8 ?_); refine wpList_store_mid rfl 73 _ _ rfl bx 0 #[.int .i64 ((n : Int) - 1), .slice a6 n6 c6] rfl rfl (there_box hbx6 (by simp)) (by kernel_rfl) (by simp [Value.oneCell']) ?_)
          | fail)
        go_meet
        have hg7 := grown_setCells bx [.int .i64 ((n : Int) - 1), .slice a6 n6 c6] 0 w6
        have hE6 := hx4.trans' (hx5.trans' hx6)
        have ho6' := own_base ho6 (hx4.trans' hx5).size
        have hl6 := own_len ho6
        have hle : le.length ≤ 1048576 := by
          have h := HEN.out
          unfold encV at h
          by_cases hbig : 2048 < ct.length ∨ 2048 < b.length
          · rw [if_pos hbig] at h; cases h
          · rw [if_neg hbig] at h
            simp only [Prod.mk.injEq, decide_eq_true_eq] at h
            rw [← h.1]; have := h.2; omega
        exact ⟨(n : Int) - 1, a6, n6, c6, le, box_set2 hbx6, hE6.sts hzb 0 _, .inr ⟨by omega, i64_of (by omega) (by omega), HAP.out, by omega, own_other ho6' hg7 (fun e => own_apart ho6' hbx6 (by decide) e.symm)⟩⟩
  case rest =>
    obtain ⟨kb, ka, kn, kc, kl, hbx5, hx5, hcase⟩ := hcut
    rename World => w5
    have hLL5 : ∀ w', Ext w5 w' → Links w' a n c L := fun w' h => HLL.out.ext (hx5.trans' h)
    have HL5 := Lib.hid hLL5
    have hb5 := HBB.out.ext hx5
    have hbc := fun i => cell_of_row w5 bx i _ _ _ hbx5
    have HBX5 := Lib.hid hbx5
    clear hbx5 hLL5
    go_upto_if 55 with fail
    go_cut [8, 55] from 13 (fun s8 _ w' => s8 = .pointer (some ⟨bx, 0, none⟩) ∧ ∃ y : Lk, y.d = apL S b ∧ w'.heap[bx]? = some (.cells #[.int .i64 y.b, .slice y.a y.n y.c] 73 (0, 0)) ∧ Ext w w' ∧ w'.ownsRow w.heap.size 5 1 (.slice y.a y.n y.c) y.n (y.l.map u8) ∧ y.n ≤ 140737488355328 ∧ i64B y.b)
    case first =>
      rcases hcase with ⟨rfl, rfl, rfl, rfl, hap⟩ | ⟨hk0, hkb, hap, hkn, hko⟩
      · have HAP := Lib.hid hap
        clear hap hbc
        go_wp2_with (first
          | (go_at_call 92; (with_reducible refine (Clone_any a1 n1 c1 b _ hb5 hn1).mono ?_); rintro e w6 ⟨a6, n6, c6, rfl, ho6, hx6⟩; have hb6 := hx6.heap' HBX5.out; have hq1 := cell_of_row w6 bx 1 _ _ _ hb6)
          | ((with_reducible refine atStore 58 ?_); refine wpList_of_wp rfl (owp_st1 (o := ⟨none, _, _, _, _, _⟩) 26 _ _ rfl bx 1 (.slice a6 n6 c6) rfl rfl rfl (there_box hb6 (by simp)) (by kernel_rfl) rfl ?_))
          | fail)
        go_meet
        have hg7 := grown_setCell' w6 bx 1 (.slice a6 n6 c6)
        have ho6' := own_base ho6 hx5.size
        have hl6 := own_len ho6
        have hn6 : n6 = n1 := by have := HBL.out; omega
        refine ⟨rfl, ⟨-1, a6, n6, c6, b⟩, HAP.out.symm, heap_set1 hb6, (hx5.trans' hx6).st hzb 1 _, own_other ho6' hg7 (fun e => own_apart ho6' hb6 (by decide) e.symm), by show n6 ≤ _; omega, (i64_of (by decide) (by decide) : i64B (-1))⟩
      · have hd5 : decide (kb < 0) = false := decide_eq_false (by omega)
        have HAP := Lib.hid hap
        clear hap
        go_wp2
        go_meet
        exact ⟨rfl, ⟨kb, ka, kn, kc, kl⟩, HAP.out.symm, HBX5.out, hx5, hko, hkn, hkb⟩
    case rest =>
      obtain ⟨rfl, y, hyd, hb7, hx7, ho7, hyn, hyb⟩ := hcut
      rename World => w7
      have hL7 : ∀ w', Ext w7 w' → Links w' a n c L := fun w' h => HLL.out.ext (hx7.trans' h)
      have HL7 := Lib.hid hL7
      have hrg : ∀ w', Ext w7 w' → w'.rangeAt bx 0 y.cells := fun w' h i v hi => by
        rw [Nat.zero_add, cell_of_row _ _ i _ _ _ (h.heap' hb7)]
        simpa [Lk.cells] using hi
      have hone : ∀ u ∈ y.cells, u.oneCell' = true := fun u hu => by
        simp only [Lk.cells, List.mem_cons, List.not_mem_nil, or_false] at hu
        rcases hu with rfl | rfl <;> rfl
      have HYD := Lib.hid hyd
      have hz7 := hx7.size
      clear hL7 hbc hcase hx4 hqq hyd
      have E8 := Ext.drew' w7
      go_wp2
      refine wp_region_e [] (.qs [0, 2] (.alt 1 (.l 3 (.l 4 (.qs [5, 6] .nil))) (.alt 3 (.l 1 (.l 4 (.qs [5, 6] .nil))) .stop))) (by kernel_rfl) (by kernel_rfl) ?_
      ((refine wpY_q rfl rfl _ (fun w' hx' => by go_simp; try rfl) ?_; go_simp))
      refine wpY_ld rfl rfl (.tmp 8) rfl bx 0 rfl y.cells _ hrg Try.underlying73 rfl (by kernel_rfl) ?_
      refine wpY_alt rfl rfl ?_ (wpY_alt rfl rfl ?_ wpY_stop)
      · go_simp
        refine (copied_any a n c L _ (HL7.out _ E8) (by omega)).mono ?_
        rintro e w8 ⟨a8, n8, c8, L8, rfl, hO8, hD8, hx8⟩
        have E9 := E8.trans' hx8
        refine ⟨E9, ?_⟩
        refine wpY_l rfl rfl ?_
        go_simp
        have hal := Ext.alloc' w8 (.cells #[.int .i64 y.b, .slice y.a y.n y.c] 73)
        refine ⟨E9.trans' hal, ?_⟩
        have hn8 : n8 = n := by rw [← hO8.len, ← List.length_map (f := Lk.d), hD8, List.length_map, HLN.out]
        subst hn8
        refine wpY_l rfl rfl (owp_app _ _ rfl Try.elLk rfl (hO8.ext hal).own rfl (Row.new w8 #[.int .i64 y.b, .slice y.a y.n y.c] 73 1 2 rfl (by decide)) hone (by omega) (by unfold maxLen; omega) (Nat.le_trans hx8.size hal.size) ?_)
        intro a9 c9 w9 ho9 hg9
        have hO9 := OwnLks.push (y := y) ((hO8.base (Nat.le_trans hz7 (Nat.le_refl _))).ext hal) hg9 (own_base ho9 (Nat.le_trans hz7 (Nat.le_refl _))) (own_ext ho7 (E9.trans' hal)) ⟨hyn, hyb⟩
        have E10 : Ext w7 w9 := below_app (E9.trans' hal) (hO8.ext hal).own hg9 (E9.trans' hal).size
        refine ⟨fun _ => E10, ?_⟩
        go_simp
        iterate 2 ((refine wpY_q rfl rfl _ (fun w' hx' => by go_simp; try rfl) ?_; go_simp))
        refine wpY_nil ?_
        go_wp2
        go_ret2
        exact ⟨a9, _, c9, _, rfl, hO9, by rw [← HLR.out, List.map_append, hD8, ← HYD.out]; rfl, hx7.trans' E10⟩
      · go_simp
        have hal := Ext.alloc' w7.drew (.cells #[.int .i64 y.b, .slice y.a y.n y.c] 73)
        have E9 := E8.trans' hal
        refine ⟨E9, ?_⟩
        refine wpY_l rfl rfl ?_
        go_simp
        refine (copied_any a n c L _ (HL7.out _ E9) (by omega)).mono ?_
        rintro e w8 ⟨a8, n8, c8, L8, rfl, hO8, hD8, hx8⟩
        have E10 := E9.trans' hx8
        refine ⟨E10, ?_⟩
        have hn8 : n8 = n := by rw [← hO8.len, ← List.length_map (f := Lk.d), hD8, List.length_map, HLN.out]
        subst hn8
        refine wpY_l rfl rfl (owp_app _ _ rfl Try.elLk rfl hO8.own rfl ((Row.new w7.drew #[.int .i64 y.b, .slice y.a y.n y.c] 73 1 2 rfl (by decide)).ext hx8) hone (by omega) (by unfold maxLen; omega) hx8.size ?_)
        intro a9 c9 w9 ho9 hg9
        have hO9 := OwnLks.push (y := y) (hO8.base (Nat.le_trans hz7 E9.size)) hg9 (own_base ho9 (Nat.le_trans hz7 E9.size)) (own_ext ho7 E10) ⟨hyn, hyb⟩
        have E11 : Ext w7 w9 := below_app E10 (own_base hO8.own E9.size) hg9 E10.size
        refine ⟨fun _ => E11, ?_⟩
        go_simp
        iterate 2 ((refine wpY_q rfl rfl _ (fun w' hx' => by go_simp; try rfl) ?_; go_simp))
        refine wpY_nil ?_
        go_wp2
        go_ret2
        exact ⟨a9, _, c9, _, rfl, hO9, by rw [← HLR.out, List.map_append, hD8, ← HYD.out]; rfl, hx7.trans' E11⟩
end Go.Proofs.Ytcljlglmnagodaa
