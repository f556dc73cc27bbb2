/-
  The law CacheBounds.
-/
import Derived.Test.YtpiodpljiklfkaaCacX
import Derived.Test.YtpiodpljiklfkaaCacPl
import Derived.Test.YtpiodpljiklfkaaCacE
namespace Go.Proofs.Ytpiodpljiklfkaa
open Go.RowKit

theorem sum_ids {room : Nat} {E : List En} (h : OkE room E) : sumK (E.map En.id) = (sizeF E : Nat) := by
  have h1 : ∀ (M : List En), (∀ x ∈ M, x.id = idOf x.l) → sumK (M.map En.id) = (sizeF M : Nat) := fun M => by
    induction M with
    | nil => intro _; rfl
    | cons x M ih =>
      intro hM
      have h2 := ih fun y hy => hM y (List.mem_cons_of_mem _ hy)
      have h3 : x.id.2 = (x.l.length : Int) := congrArg Prod.snd (hM x (List.mem_cons_self ..))
      rw [List.map_cons]
      simp only [sumK, sizeF]
      omega
  exact h1 E fun x hx => (h.right x hx).1
theorem ids_small {room : Nat} {E : List En} (h : OkE room E) (hr : room ≤ 1048576) {k : Nat × Int} (hk : k ∈ E.map En.id) : k.1 ≤ 18446744073709551615 ∧ 1 ≤ k.2 ∧ k.2 ≤ 1048576 := by
  obtain ⟨x, hx, rfl⟩ := List.mem_map.1 hk
  have h1 := h.right x hx
  have h2 := size_mem hx
  have h3 := h.fits
  have h4 : x.id = idOf x.l := h1.1
  rw [h4]
  have := fp_lt x.l
  refine ⟨?_, ?_, ?_⟩
  · show fp x.l ≤ _; omega
  · show (1 : Int) ≤ (x.l.length : Int); omega
  · show (x.l.length : Int) ≤ _; omega
theorem ids_at {E : List En} (h : (E.map En.id).Nodup) {j : Nat} {k : Nat × Int} (hk : (E.map En.id)[j]? = some k) : ∃ x, E[j]? = some x ∧ x.id = k ∧ atF k E = some j ∧ pinsC E k = x.p := by
  rw [List.getElem?_map] at hk
  obtain ⟨x, hx, rfl⟩ := Option.map_eq_some_iff.1 hk
  exact ⟨x, hx, rfl, atF_self h hx, pins_self h hx⟩
theorem id_size {w : World} {b o i : Nat} {l : List (Nat × Int)} {k : Nat × Int} (hk : l[i]? = some k) (hc : ∀ j, j < 2 → w.cell? ⟨b, o + j, none⟩ = (l.flatMap idCells)[i * 2 + j]?) : w.cell? ⟨b, o + 1, none⟩ = some (.int .i64 k.2) :=
  (hc 1 (by decide)).trans (id_get hk 1 (by decide))
theorem sum_boundM {K : List (Nat × Int)} (h : ∀ k ∈ K, 0 ≤ k.2 ∧ k.2 ≤ 1048576) (j : Nat) : 0 ≤ sumK (K.take j) ∧ sumK (K.take j) ≤ 1048576 * j := by
  induction j with
  | zero => simp [sumK]
  | succ j ih =>
    cases hk : K[j]? with
    | none =>
      rw [List.getElem?_eq_none_iff] at hk
      rw [List.take_of_length_le (by omega), ← List.take_of_length_le (l := K) hk]
      omega
    | some k =>
      rw [sum_take hk]
      have := h k (List.mem_of_getElem? hk)
      omega
/-- The pinned ones so far. -/
def B1Rel (w6 : World) (E : List En) (n : Nat) (out i : Value) (wr : World) : Prop :=
  ∃ (j m cp : Nat) (a : Option Addr) (P : List (Nat × Int)), i = .int .i64 j ∧ j ≤ n ∧ out = .slice a m cp ∧ m ≤ j ∧ P.length = m ∧ wr.ownsRow w6.heap.size 45 2 (.slice a m cp) m (P.flatMap idCells) ∧ (∀ q ∈ P, ∃ x ∈ E, x.id = q ∧ 0 < x.p) ∧ Ext w6 wr
def B2Rel (w : World) (n : Nat) (K : List (Nat × Int)) (s i : Value) (wr : World) : Prop := ∃ j : Nat, i = .int .i64 j ∧ j ≤ n ∧ s = .int .i64 (sumK (K.take j)) ∧ Ext w wr
def B3Rel (w : World) (n : Nat) (i : Value) (wr : World) : Prop := ∃ j : Nat, i = .int .i64 j ∧ j ≤ n ∧ Ext w wr
def BoRel (w : World) (g c room b8 : Nat) (i : Value) (wr : World) : Prop :=
  ∃ (j k : Nat) (a : Option Addr) (n cp : Nat) (E : List En) (F : List Nat), i = .int .i64 j ∧ k + 80 * j ≤ 100000 ∧ PlJ w g c room b8 k a n cp E F wr
theorem PlJ.cac {w wr : World} {g c room b5 k n cp : Nat} {a : Option Addr} {E : List En} {F : List Nat} (h : PlJ w g c room b5 k a n cp E F wr) : ∃ B1, Cac wr B1 c room E F := by
  obtain ⟨⟨B1, B2, L, -, -, -, -, h5, -⟩, -⟩ := h
  exact ⟨B1, h5⟩

set_option maxRecDepth 100000 in
set_option maxHeartbeats 8000000 in
theorem CacheBounds_walk (a1 : Option Addr) (n1 c1 : Nat) (L1 : List Int) (x1 : Int) (w : World)
    (hl : Row w a1 n1 c1 1 (L1.map (Value.int .i64))) (hli : ∀ x ∈ L1, -9223372036854775808 ≤ x ∧ x ≤ 9223372036854775807) (ha1 : ∀ p, a1 = some p → 0 < n1 → p.block < w.heap.size)
    (_h1 : -9223372036854775808 ≤ x1) (_h2 : x1 ≤ 9223372036854775807) :
    Calls Try.prog 9 #[.slice a1 n1 c1, .int .i64 x1] w (LawPost w) := by
  have ht : Tape (w.alloc (.cells #[.slice a1 n1 c1, .int .i64 0] 39)) w.heap.size 0 :=
    ⟨a1, n1, c1, L1, heap_alloc_new w _, hl.ext (Ext.alloc' _ _), ha1, hli⟩
  have hx1 : Ext w (w.alloc (.cells #[.slice a1 n1 c1, .int .i64 0] 39)) := Ext.alloc' _ _
  have HT := Lib.hid ht
  have HX1 := Lib.hid hx1
  clear ht hx1 hl hli ha1
  go_enter Try.func9, Try.ntmps9
  go_upto_region 2 with fail
  obtain ⟨g, hge⟩ : ∃ g, g = w.heap.size := ⟨_, rfl⟩
  rw [← hge] at HT ⊢
  generalize w.alloc (.cells #[.slice a1 n1 c1, .int .i64 0] 39) = w1 at HT HX1 ⊢
  have hgz : w.heap.size ≤ g := Nat.le_of_eq hge.symm
  clear hge
  go_upto_region 3 with (first
    | (go_at_call 17; (with_reducible refine (makeFold_any x1 14 _ (by decide)).mono ?_); rintro en w2 ⟨u1, rfl, hu1, rfl⟩; have hu13 : u1 ≤ 13 := (by unfold Below1 at hu1; omega); clear hu1)
    | fail)
  obtain ⟨room, hroom⟩ : ∃ room, room = 1 + u1 := ⟨_, rfl⟩
  have hri : (1 : Int) + (u1 : Int) = room := by omega
  rw [hri]
  have hr1 : 1 ≤ room := by omega
  have hr14 : room ≤ 14 := by omega
  clear hri hroom hu13
  have HNW := Lib.hid (New38_at room w1 hr1 (by omega))
  go_upto_region 4 with (first
    | (go_at_call 12; (with_reducible refine HNW.out.mono ?_); rintro en w2 ⟨c, F, rfl, hC2, hx2⟩)
    | fail)
  have HC2 := Lib.hid hC2
  have HX2 := Lib.hid hx2
  have HKN := Lib.hid (known38_any w2)
  clear hC2 hx2 HNW
  go_upto_region 6 with (first
    | (go_at_call 14; (with_reducible refine HKN.out.mono ?_); rintro en w4 ⟨rfl, hx4'⟩; have HX4 := Lib.hid (show Ext w2 w4 from hx4'); clear hx4')
    | fail)
  have HRN := Lib.hid (refNew38_any (room : Int) w4)
  go_upto_region 7 with (first
    | (go_at_call 13; (with_reducible refine HRN.out.mono ?_); rintro en w5 ⟨⟨r, er, rfl, hor⟩, hx5⟩; obtain ⟨rfl, rfl⟩ : r = room ∧ er = 0 := (by rcases hor with ⟨h1, -⟩ | ⟨-, -, h2, h3⟩; (omega); exact ⟨h2, h3⟩); have HX5 := Lib.hid hx5; clear hx5 hor; have HP := Lib.hid (put_new w5 #[.int .i64 0, .slice none 0 0] #[.int .i64 room, .slice none 0 0] 28); have HN := Lib.hid (heap_alloc_new w5 (.cells #[.int .i64 0, .slice none 0 0] 28)))
    | ((with_reducible refine atStore 8 ?_); refine wpList_of_wp rfl (wp_store_row (o := ⟨none, _, _, _, _, _⟩) _ _ _ rfl w5.heap.size #[.int .i64 room, .slice none 0 0] rfl rfl _ _ HN.out (by kernel_rfl) rfl (by simp [Value.oneCell']) ?_))
    | fail)
  obtain ⟨hx6, hh6⟩ := HP.out
  obtain ⟨b8, hb8⟩ : ∃ b8, b8 = w5.heap.size := ⟨_, rfl⟩
  generalize (w5.alloc (.cells #[.int .i64 0, .slice none 0 0] 28)).setRow w5.heap.size #[.int .i64 room, .slice none 0 0] = w6 at hx6 hh6 ⊢
  rw [← hb8] at hh6 ⊢
  have hx46 := HX5.out.trans' hx6
  have hx16 : Ext w1 w6 := HX2.out.trans' (HX4.out.trans' hx46)
  have hgl := HT.out.lt
  have hD6 : Duo w6 g 0 c room none 0 0 [] F := ⟨w1.heap.size, w1.heap.size, [], HT.out.ext hx16, hgl, hgl, hx16.size, HC2.out.ext (HX4.out.trans' hx46), ⟨own_nil _ _ _ _, (fun q hq => by cases hq), OkE.nil room, by omega⟩, rfl, fun x hx => by cases hx⟩
  have hF6 : ∀ q ∈ F, w.heap.size ≤ q := fun q hq => Nat.le_trans HX1.out.size (HC2.out.base q hq)
  have hgb : g < b8 := by
    have h1 := HX2.out.size
    have h2 := HX4.out.size
    have h3 := HX5.out.size
    omega
  have HPJ := Lib.hid (show PlJ w g c room b8 0 none 0 0 [] F w6 from ⟨hD6, hh6, HX1.out.trans' hx16, hF6, hgz, hgb⟩)
  have HTN := Lib.hid (Next_any g 0 30 w6 hD6.tape (by omega) (by omega))
  clear hD6 hF6 hx16 hx46 hx6 hh6 hb8 HP HN HRN HKN HC2 HX2 HX4 HX5 HT HX1
  go_wp2_with (first
    | (go_at_call 18; (with_reducible refine HTN.out.mono ?_); rintro e w7 ⟨cn, rfl, hcn, ht7, hg7⟩; have hcn' : cn ≤ 29 := (by unfold Below1 at hcn; omega); have HP7 := Lib.hid (HPJ.out.tick hg7 ht7); clear hcn ht7 hg7)
    | fail)
  go_loopw [10] (BoRel w g c room b8) (fun i _ => (intOf i).toNat)
  case atStart => exact ⟨cn, 1, none, 0, 0, [], F, rfl, by omega, HP7.out⟩
  case round =>
    obtain ⟨j, k, a, n, cp, E, F, rfl, hk, hpj⟩ := hrel
    rename World => w8
    have HP8 := Lib.hid hpj
    obtain ⟨B1, hC8⟩ := hpj.cac
    have HC8 := Lib.hid hC8
    have HI8 := Lib.hid (IDs_any B1 c room E F w8 hC8)
    have HOK := Lib.hid hC8.ok
    have hcnt := hC8.ok.1.count
    clear hpj hC8 HP7 HPJ HTN
    by_cases hj : 0 < j
    · go_wp2_with (first
        | (go_at_call 16; (with_reducible refine HI8.out.mono ?_); rintro en w9 ⟨ia, im, ic, rfl, him, hio, hx9⟩; have HIM := Lib.hid him; have HIO := Lib.hid hio; have HX9 := Lib.hid hx9; clear him hio hx9)
        | fail)
      have HIL := Lib.hid (show E.length = im by have h := HIM.out; rw [List.length_map] at h; exact h.symm)
      have him5 : im ≤ 1048576 := by have h1 := HIL.out; have h2 := HOK.out.2; omega
      go_loopw [12, 13] (B1Rel w9 E im) (fun _ i _ => im - (intOf i).toNat)
      case atStart => exact ⟨0, 0, 0, none, [], rfl, Nat.zero_le _, rfl, Nat.le_refl _, rfl, own_nil _ _ _ _, (fun q hq => by cases hq), Below.refl _ _⟩
      case round =>
        obtain ⟨i, m, pc, pa, P, rfl, hi, rfl, hmi, hPl, hPo, hPe, hx⟩ := hrel
        rename World => wa
        have HPL := Lib.hid hPl
        have HPO := Lib.hid hPo
        have HPE := Lib.hid hPe
        have HXA := Lib.hid (show Ext w9 wa from hx)
        clear hPl hPo hPe hx
        by_cases hin : i < im
        · obtain ⟨kk, hkk⟩ : ∃ kk, (E.map En.id)[i]? = some kk := ⟨_, List.getElem?_eq_getElem (by have := HIL.out; rw [List.length_map]; omega)⟩
          obtain ⟨x, hx, hxi, -, hps⟩ := ids_at HOK.out.1.apart hkk
          have hsm := ids_small HOK.out.1 HOK.out.2 (List.mem_of_getElem? hkk)
          have hPn := Pins_any B1 c room E F kk.1 kk.2 wa (HC8.out.ext (HX9.out.trans' HXA.out)) hsm.1 (by omega)
          rw [show pinsC E (kk.1, kk.2) = x.p from hps] at hPn
          have HPN := Lib.hid hPn
          have HKK := Lib.hid hkk
          have HXE := Lib.hid (show x ∈ E ∧ x.id = kk from ⟨List.mem_of_getElem? hx, hxi⟩)
          have hra := (Row.of_own HIO.out).ext HXA.out
          have HRB := Lib.hid fun w' (h : Ext wa w') => (Row.of_own HIO.out).ext (HXA.out.trans' h)
          clear hkk hx hxi hps hsm hPn
          by_cases hp : 0 < x.p
          · go_wp2_with (first
              | ((with_reducible refine atSlot 61 ?_); refine wpList_of_wp rfl (owp_ix (o := ⟨some 61, _, _, _, _, _⟩) _ _ rfl Try.elId rfl hra i rfl rfl hin ?_); intro b3 o3 hc3; have hr3 := id_range HKK.out hc3; clear hc3 hra)
              | ((with_reducible refine atSlot 62 ?_); refine wpList_of_wp rfl (wp_load_mid (op := ⟨some 62, _, _, _, _, _⟩) 45 _ rfl b3 o3 rfl [.int .u64 kk.1, .int .i64 kk.2] _ hr3 Try.underlying45 rfl (by kernel_rfl) ?_); clear hr3)
              | (go_at_call 25; (with_reducible refine HPN.out.mono ?_); rintro en wb ⟨rfl, hxb⟩; have HXB := Lib.hid hxb; have hrb := HRB.out wb hxb; have hal := Lib.hid (Ext.alloc' wb (.cells #[.int .u64 kk.1, .int .i64 kk.2] 45)); have HPB := Lib.hid (own_ext HPO.out (hxb.trans' hal.out)); have hzb := Lib.hid (show w9.heap.size ≤ (wb.alloc (.cells #[.int .u64 kk.1, .int .i64 kk.2] 45)).heap.size from (HXA.out.trans' (hxb.trans' hal.out)).size); clear hxb)
              | ((with_reducible refine atSlot 68 ?_); refine wpList_of_wp rfl (owp_ix (o := ⟨some 68, _, _, _, _, _⟩) _ _ rfl Try.elId rfl hrb i rfl rfl hin ?_); intro b4 o4 hc4; have hr4 := id_range HKK.out hc4; clear hc4 hrb)
              | ((with_reducible refine atSlot 69 ?_); refine wpList_of_wp rfl (wp_load_mid (op := ⟨some 69, _, _, _, _, _⟩) 45 _ rfl b4 o4 rfl [.int .u64 kk.1, .int .i64 kk.2] _ hr4 Try.underlying45 rfl (by kernel_rfl) ?_); clear hr4)
              | ((with_reducible refine atSlot 71 ?_); refine wpList_of_wp rfl (owp_app (o := ⟨some 71, _, _, _, _, _⟩) _ _ rfl Try.elId rfl HPB.out rfl (Row.new wb #[.int .u64 kk.1, .int .i64 kk.2] 45 1 2 rfl (by decide)) (id_one [kk]) (by omega) (by unfold maxLen; omega) hzb.out ?_); intro ac cc wc hoc hgc)
              | fail)
            have hxc : Ext w9 wc := below_app (HXA.out.trans' (HXB.out.trans' hal.out)) HPB.out hgc hzb.out
            have HREL := Lib.hid (show wc.ownsRow w9.heap.size 45 2 (.slice ac (m + 1) cc) (m + 1) ((P ++ [kk]).flatMap idCells) ∧ (∀ q ∈ P ++ [kk], ∃ x ∈ E, x.id = q ∧ 0 < x.p) ∧ Ext w9 wc from ⟨by rw [List.flatMap_append]; exact hoc, fun q hq => by
              rcases List.mem_append.1 hq with hq | hq
              · exact HPE.out q hq
              · rw [List.mem_singleton.1 hq]; exact ⟨x, HXE.out.1, HXE.out.2, hp⟩, hxc⟩)
            clear hoc hgc hxc
            go_roundw
            case rel => exact ⟨i + 1, m + 1, cc, ac, P ++ [kk], by go_num, hin, rfl, by omega, by rw [List.length_append, HPL.out]; rfl, HREL.out⟩
            case measure => simp [intOf]; omega
          · have hp0 : x.p = 0 := by omega
            rw [hp0] at HPN
            clear hp hp0
            go_wp2_with (first
              | ((with_reducible refine atSlot 61 ?_); refine wpList_of_wp rfl (owp_ix (o := ⟨some 61, _, _, _, _, _⟩) _ _ rfl Try.elId rfl hra i rfl rfl hin ?_); intro b3 o3 hc3; have hr3 := id_range HKK.out hc3; clear hc3 hra)
              | ((with_reducible refine atSlot 62 ?_); refine wpList_of_wp rfl (wp_load_mid (op := ⟨some 62, _, _, _, _, _⟩) 45 _ rfl b3 o3 rfl [.int .u64 kk.1, .int .i64 kk.2] _ hr3 Try.underlying45 rfl (by kernel_rfl) ?_); clear hr3)
              | (go_at_call 25; (with_reducible refine HPN.out.mono ?_); rintro en wb ⟨rfl, hxb⟩; have HXB := Lib.hid hxb; clear hxb)
              | fail)
            go_roundw
            case rel => exact ⟨i + 1, m, pc, pa, P, by go_num, hin, rfl, by omega, HPL.out, own_ext HPO.out HXB.out, HPE.out, HXA.out.trans' HXB.out⟩
            case measure => simp [intOf]; omega
        · obtain rfl : i = im := by omega
          have HPa := Lib.hid (HP8.out.ext (HX9.out.trans' HXA.out))
          have hrd := range_of_heap2 HPa.out.2.1
          have HST := Lib.hid (step38_any g k c room a n cp E F wa HPa.out.1 (by omega))
          clear hi hin HI8 HC8 HIO
          go_upto_region 18 with (first
            | ((with_reducible refine atSlot 75 ?_); refine wpList_of_wp rfl (wp_load_mid (op := ⟨some 75, _, _, _, _, _⟩) 28 _ rfl b8 0 rfl [.int .i64 room, .slice a n cp] _ hrd Try.underlying28 rfl (by kernel_rfl) ?_); clear hrd)
            | (go_at_call 32; (with_reducible refine HST.out.mono ?_); rintro en wb ⟨a', n', cp', E', F', k', rfl, hDb, hkb, hkeep, hCb, hFb⟩; obtain ⟨hbb, hpb⟩ := HPa.out.step hDb hCb hFb; have HBB := Lib.hid hbb; have HPB := Lib.hid hpb; have HKP := Lib.hid hkeep; have HPO2 := Lib.hid (own_chgT (own_chgG HPO.out hCb HPa.out.1.typed (by decide) (by decide) (by decide)) (Chg.of_grown (grown_setRow wb b8 #[.int .i64 room, .slice a' n' cp']) (List.mem_singleton.2 rfl)) (one_type hbb (by decide))); clear hDb hCb hFb hbb hpb hkeep)
            | ((with_reducible refine atStore 8 ?_); refine wpList_of_wp rfl (wp_store_row (o := ⟨none, _, _, _, _, _⟩) _ _ _ rfl b8 #[.int .i64 room, .slice a' n' cp'] rfl rfl _ _ HBB.out (by kernel_rfl) rfl (by simp [Value.oneCell']) ?_))
            | fail)
          generalize wb.setRow b8 #[.int .i64 room, .slice a' n' cp'] = wc at HPB HPO2 ⊢
          obtain ⟨B1', hCc⟩ := HPB.out.cac
          have HCc := Lib.hid hCc
          have HIc := Lib.hid (IDs_any B1' c room E' F' wc hCc)
          have HOK' := Lib.hid hCc.ok
          have hcnt' := hCc.ok.1.count
          clear hCc HST HBB HPa HX9 HXA HPO
          go_wp2_with (first
            | (go_at_call 16; (with_reducible refine HIc.out.mono ?_); rintro en wd ⟨ja, jm, jc, rfl, hjm, hjo, hxd⟩; have HJM := Lib.hid hjm; have HJO := Lib.hid hjo; have HXD := Lib.hid hxd; clear hjm hjo hxd)
            | fail)
          have HJL := Lib.hid (show E'.length = jm by have h := HJM.out; rw [List.length_map] at h; exact h.symm)
          have hjm5 : jm ≤ 1048576 := by have h1 := HJL.out; have h2 := HOK'.out.2; omega
          go_loopw [14, 16] (B2Rel wd jm (E'.map En.id)) (fun _ i _ => jm - (intOf i).toNat)
          case atStart => exact ⟨0, rfl, Nat.zero_le _, rfl, Below.refl _ _⟩
          case round =>
            obtain ⟨t, rfl, ht, rfl, hx⟩ := hrel
            rename World => we
            have HXE := Lib.hid (show Ext wd we from hx)
            clear hx
            by_cases htn : t < jm
            · obtain ⟨kk, hkk⟩ : ∃ kk, (E'.map En.id)[t]? = some kk := ⟨_, List.getElem?_eq_getElem (by have := HJL.out; rw [List.length_map]; omega)⟩
              have hsm := ids_small HOK'.out.1 HOK'.out.2 (List.mem_of_getElem? hkk)
              have hst := sum_take hkk
              have hsb := sum_boundM (K := E'.map En.id) (fun q hq => by have := ids_small HOK'.out.1 HOK'.out.2 hq; omega) t
              have HKK := Lib.hid hkk
              have HST := Lib.hid hst
              have hre := (Row.of_own HJO.out).ext HXE.out
              obtain ⟨s, hs⟩ : ∃ s, s = sumK ((E'.map En.id).take t) := ⟨_, rfl⟩
              rw [← hs] at HST hsb ⊢
              have hwr : wrap64 (s + kk.2) = s + kk.2 := by unfold wrap64; omega
              clear hkk hst hs
              go_wp2_with (first
                | ((with_reducible refine atSlot 90 ?_); refine wpList_of_wp rfl (owp_ix (o := ⟨some 90, _, _, _, _, _⟩) _ _ rfl Try.elId rfl hre t rfl rfl htn ?_); intro b3 o3 hc3; have hd3 := id_size HKK.out hc3; clear hc3 hre)
                | fail)
              go_roundw
              case rel => exact ⟨t + 1, by go_num, htn, by rw [HST.out], HXE.out⟩
              case measure => simp [intOf]; omega
            · obtain rfl : t = jm := by omega
              have hsum := sum_ids HOK'.out.1
              have htk : (E'.map En.id).take t = E'.map En.id := List.take_of_length_le (by have := HJL.out; rw [List.length_map]; omega)
              rw [htk, hsum]
              have HBY := Lib.hid (Bytes38_any B1' c room E' F' we (HCc.out.ext (HXD.out.trans' HXE.out)))
              have hfit := HOK'.out.1.fits
              obtain ⟨sz, hsz⟩ : ∃ sz, sz = sizeF E' := ⟨_, rfl⟩
              rw [← hsz] at HBY hfit ⊢
              obtain ⟨q1, q2⟩ := eqI (x := (sz : Int)) (y := (sz : Int)) rfl
              have hd : decide (room < sz) = false := decide_eq_false (by omega)
              clear ht htn hsum htk hsz HJO
              go_wp2_with (first
                | (go_at_call 15; (with_reducible refine HBY.out.mono ?_); rintro en wf ⟨rfl, hxf⟩; have HXF := Lib.hid (HXD.out.trans' (HXE.out.trans' hxf)); clear hxf)
                | fail)
              go_loopw [17] (B3Rel wf m) (fun i _ => m - (intOf i).toNat)
              case atStart => exact ⟨0, rfl, Nat.zero_le _, Below.refl _ _⟩
              case round =>
                obtain ⟨q, rfl, hq, hx⟩ := hrel
                rename World => wg
                have HXG := Lib.hid (show Ext wf wg from hx)
                clear hx
                by_cases hqm : q < m
                · obtain ⟨kk, hkk⟩ : ∃ kk, P[q]? = some kk := ⟨_, List.getElem?_eq_getElem (by have := HPL.out; omega)⟩
                  obtain ⟨x, hx, hxi, hxp⟩ := HPE.out kk (List.mem_of_getElem? hkk)
                  obtain ⟨y, hy, hyi⟩ := HKP.out x hx hxp
                  have hsm := ids_small HOK'.out.1 HOK'.out.2 (k := kk) (List.mem_map.2 ⟨y, hy, by rw [hyi, hxi]⟩)
                  have hhas := Has_any B1' c room E' F' kk.1 kk.2 wg (HCc.out.ext (HXF.out.trans' HXG.out)) hsm.1 (by omega)
                  have hsome : (atF (kk.1, kk.2) E').isSome = true := by
                    cases hat : atF (kk.1, kk.2) E' with
                    | some v => rfl
                    | none => exact absurd (by rw [hyi, hxi]) (atF_none hat y hy)
                  rw [hsome] at hhas
                  have HHAS := Lib.hid hhas
                  have HKK := Lib.hid hkk
                  have hrg := (Row.of_own HPO2.out).ext (HXF.out.trans' HXG.out)
                  clear hkk hx hxi hxp hy hyi hsm hhas hsome
                  go_wp2_with (first
                    | ((with_reducible refine atSlot 112 ?_); refine wpList_of_wp rfl (owp_ix (o := ⟨some 112, _, _, _, _, _⟩) _ _ rfl Try.elId rfl hrg q rfl rfl hqm ?_); intro b3 o3 hc3; have hr3 := id_range HKK.out hc3; clear hc3 hrg)
                    | ((with_reducible refine atSlot 113 ?_); refine wpList_of_wp rfl (wp_load_mid (op := ⟨some 113, _, _, _, _, _⟩) 45 _ rfl b3 o3 rfl [.int .u64 kk.1, .int .i64 kk.2] _ hr3 Try.underlying45 rfl (by kernel_rfl) ?_); clear hr3)
                    | (go_at_call 22; (with_reducible refine HHAS.out.mono ?_); rintro en wh ⟨rfl, hxh⟩; have HXH := Lib.hid (HXG.out.trans' hxh); clear hxh)
                    | fail)
                  go_roundw
                  case rel => exact ⟨q + 1, by go_num, hqm, HXH.out⟩
                  case measure => simp [intOf]; omega
                · obtain rfl : q = m := by omega
                  clear hq hqm
                  go_wp2
                  go_roundw
                  case rel => exact ⟨j - 1, k', a', n', cp', E', F', by go_num, by omega, HPB.out.ext (HXF.out.trans' HXG.out)⟩
                  case measure => simp [intOf]; omega
    · obtain rfl : j = 0 := by omega
      have HX := Lib.hid HP8.out.2.2.1
      clear hj
      go_wp2
      go_ret
      exact ⟨rfl, HX.out⟩
end Go.Proofs.Ytpiodpljiklfkaa
