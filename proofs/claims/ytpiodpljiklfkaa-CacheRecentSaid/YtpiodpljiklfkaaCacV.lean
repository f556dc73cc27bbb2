/-
  The cache's Content.
-/
import Derived.Test.YtpiodpljiklfkaaMathU
import Derived.Test.YtpiodpljiklfkaaApp
import Derived.Test.YtpiodpljiklfkaaRefI
import Derived.Test.YtpiodpljiklfkaaCacO
namespace Go.Proofs.Ytpiodpljiklfkaa
open Go.RowKit Go.WideMaps
/-- What Content answers. -/
def ConO (w : World) (B c room : Nat) (F : List Nat) (r : List En × List UInt8 × Int) (en : Ending) (w' : World) : Prop :=
  ∃ (a : Option Addr) (n cp : Nat), en = .returned (.tuple #[.slice a n cp, .int .i64 r.2.2]) ∧ w'.ownsRow w.heap.size 5 1 (.slice a n cp) n (r.2.1.map u8) ∧ CacTo w B c room F r.1 w'
/-- The data of a cache lie in other blocks. -/
def DatOff (N : Nat → Nd) (L : List Nat) (a : Option Addr) : Prop := ∀ k ∈ L, ∀ b, blockOf (N k).a = some b → blockOf a ≠ some b
theorem Ca.grownA {w w' : World} {B c m e room B' n cp : Nat} {N : Nat → Nd} {L : List Nat} {a : Option Addr} {xs : List Value} (h : Ca w B c m e room N L) (ho : w.ownsRow B' 5 1 (.slice a n cp) n xs) (hg : w.grownBy w' (blockOf a)) (hd : DatOff N L a) : Ca w' B c m e room N L where
  box := grown_box hg ho h.box (by decide)
  nodes k hk := grown_box hg ho (h.nodes k hk) (by decide)
  ring := h.ring
  nodup := h.nodup
  map := map_apart h.map ho hg
  data k hk := by
    cases ha : blockOf a with
    | none => rw [ha] at hg; exact own_ext (h.data k hk) (Ext.of_grown hg)
    | some g => rw [ha] at hg; exact own_other (h.data k hk) hg (fun e => hd k hk g e ha)
  base := h.base
  ok := h.ok
  max := h.max
theorem DatOff.moved {w : World} {B c m e room : Nat} {N : Nat → Nd} {L : List Nat} {a a' : Option Addr} (h : Ca w B c m e room N L) (hd : DatOff N L a) (hm : Moved w a a') : DatOff N L a' := fun k hk b hb e => by
  rcases hm with h1 | h1
  · exact hd k hk b hb (h1 ▸ e)
  · have := h1 b e
    have := (own_block (h.data k hk) b hb).2
    omega
theorem DatOff.same {N N' : Nat → Nd} {L L' : List Nat} {a : Option Addr} (hd : DatOff N L a) (hS : SameD N N') (hL : ∀ k ∈ L', k ∈ L) : DatOff N' L' a := fun k hk b hb => hd k (hL k hk) b (by rw [← (hS k).2.2.1]; exact hb)
theorem DatOff.put {w : World} {B n cp : Nat} {N N' : Nat → Nd} {L L' : List Nat} {a : Option Addr} {xs : List Value} (hd : DatOff N L a) (ho : w.ownsRow B 5 1 (.slice a n cp) n xs) (hN : DatIn w N L N' L') : DatOff N' L' a := fun k hk b hb e => by
  rcases hN k hk with ⟨k0, hk0, h1⟩ | h1
  · rw [h1] at hb
    exact hd k0 hk0 b hb e
  · have := h1 b hb
    have := (own_block ho b e).2
    omega
/-- The copy takes the old one's place. -/
theorem Ca.moveBox {w : World} {B c c2 m2 e2 room : Nat} {N : Nat → Nd} {L : List Nat} {cs : Array Value} (h : Ca w B c2 m2 e2 room N L) (hc : w.heap[c]? = some (.cells cs 79 (0, 0))) (hn : c ∉ m2 :: e2 :: L) (hB : B ≤ c) :
    Ca (w.setRow c (cacheCells room (sizeF (ents N L)) m2 e2)) B c m2 e2 room N L where
  box := setRow_heap _ _ _ _ _ _ hc
  nodes k hk := (setRow_other w c k _ (fun e => hn (by rw [← e]; exact List.mem_cons_of_mem _ hk))).trans (h.nodes k hk)
  ring := h.ring
  nodup := h.nodup
  map := h.map.chg (F := [c]) (Chg.of_grown (grown_setRow w c _) (List.mem_singleton.2 rfl)) (fun hm => hn (by rw [List.mem_singleton.1 hm]; simp))
  data k hk := own_chgT (h.data k hk) (Chg.of_grown (F := [c]) (grown_setRow w c _) (List.mem_singleton.2 rfl)) (one_type hc (by decide))
  base k hk := by
    rcases List.mem_cons.1 hk with rfl | hk
    · exact hB
    · exact h.base k (List.mem_cons_of_mem _ hk)
  ok := h.ok
  max := h.max
def CoRelJ (w5 : World) (B c2 m2 e2 room n : Nat) (H : List Ch) (E0 : List En) (K : List (Nat × Int)) (out : Value) (wr : World) (j : Nat) : Prop :=
  ∃ (N2 : Nat → Nd) (L2 : List Nat) (oa : Option Addr) (on oc : Nat) (bl : List UInt8), j ≤ n ∧ out = .slice oa on oc ∧ Ca wr B c2 m2 e2 room N2 L2 ∧ conF room H E0 K [] = conF room H (ents N2 L2) (K.drop j) bl ∧
    wr.ownsRow w5.heap.size 5 1 (.slice oa on oc) on (bl.map u8) ∧ on ≤ 8192 * j ∧ DatOff N2 L2 oa ∧ (∀ k ∈ c2 :: m2 :: e2 :: L2, w5.heap.size ≤ k) ∧ Ext w5 wr
def CoRel (w5 : World) (B c2 m2 e2 room n : Nat) (H : List Ch) (E0 : List En) (K : List (Nat × Int)) (out i : Value) (wr : World) : Prop :=
  ∃ j : Nat, i = .int .i64 j ∧ CoRelJ w5 B c2 m2 e2 room n H E0 K out wr j
/-- Bytes that lie below the cache. -/
theorem StB.lowV {F : List Nat} {w : World} {B n cp : Nat} {a : Option Addr} {l : List UInt8} (h : Bytes w a n cp l) (ha : ∀ p, a = some p → p.block < B) (hF : ∀ k ∈ F, B ≤ k) (hB : B ≤ w.heap.size) : StB F w a n cp l := fun _ hc =>
  ⟨h.len, h.row.below1 (hc.below hF hB) fun p hp _ => ha p hp⟩
theorem row_low {w : World} {a : Option Addr} {n c s : Nat} {xs : List Value} (h : Row w a n c s xs) (hn : 0 < n) (hs : 0 < s) : ∀ p, a = some p → p.block < w.heap.size := fun p hp => by
  have hl : 0 < xs.length := by rw [h.len]; exact Nat.mul_pos hn hs
  have h1 := h.cell p hp 0 _ (List.getElem?_eq_getElem hl)
  have h2 := World.block_lt_of_cell? w _ h1
  have : (p.add 0).block = p.block := by unfold Addr.add; split <;> rfl
  omega

set_option maxRecDepth 100000 in
set_option maxHeartbeats 8000000 in
theorem Content38_any (B c room : Nat) (E : List En) (F : List Nat) (S : Int) (ka : Option Addr) (kn kc : Nat) (K : List (Nat × Int)) (a : Option Addr) (n cp : Nat) (H : List Ch) (w : World) (h : Cac w B c room E F)
    (hr : Row w ka kn kc 2 (K.flatMap idCells)) (hln : K.length = kn) (hn5 : kn ≤ 100) (hK : Ids1 K) (hl : Chs w a n cp H) (hn : n ≤ 1000000) :
    Calls Try.prog 30 #[.pointer (some ⟨c, 0, none⟩), .agg #[.int .i64 S, .slice ka kn kc], .slice a n cp] w (ConO w B c room F (conC room H E K S)) := by
  have hx1 := Ext.alloc' w (.cells #[.int .i64 S, .slice ka kn kc] 60)
  have hh1 := heap_alloc_new w (.cells #[.int .i64 S, .slice ka kn kc] 60)
  have HC := Lib.hid h
  have HR := Lib.hid hr
  have HL := Lib.hid hln
  have HK := Lib.hid hK
  have HH := Lib.hid hl
  clear h hr hln hK hl
  go_enter Try.func30, Try.ntmps30
  go_upto_region 1 with fail
  generalize w.alloc (.cells #[.int .i64 S, .slice ka kn kc] 60) = w1 at hx1 hh1 ⊢
  have r1 := range_of_heap2 hh1
  have HMI := Lib.hid (Missing_any S ka kn kc K none 0 0 [] w1 (HR.out.ext hx1) HL.out hn5 HK.out (Row.empty _ _) rfl (Nat.zero_le _) (fun k hk => by cases hk))
  by_cases hck : chkV K S = 0
  rotate_left
  · have HMJ := Lib.hid (HMI.out.mono (R' := fun en w' => en = .returned (.tuple #[.slice none 0 0, .int .i64 (chkV K S)]) ∧ Ext w1 w') fun en w' h => by
      rcases h with ⟨h1, ⟨-, h2⟩ | ⟨h2, -⟩⟩
      · exact ⟨h2, h1⟩
      · exact absurd h2 hck)
    have HV := Lib.hid (show conC room H E K S = (E, [], chkV K S) by unfold conC; rw [if_pos hck])
    obtain ⟨q1, q2⟩ := ne0 hck
    clear hck HMI
    go_wp2_with (first
      | ((with_reducible refine atSlot 20 ?_); refine wpList_of_wp rfl (wp_load_mid (op := ⟨some 20, _, _, _, _, _⟩) 60 _ rfl w.heap.size 0 rfl [.int .i64 S, .slice ka kn kc] _ r1 Try.underlying60 rfl (by kernel_rfl) ?_); clear r1)
      | (go_at_call 31; (with_reducible refine HMJ.out.mono ?_); rintro en w2 ⟨rfl, hx2⟩)
      | fail)
    go_ret2
    rw [HV.out]
    have hx12 := hx1.trans' hx2
    exact ⟨none, 0, 0, rfl, own_nil _ _ _ _, F, HC.out.ext hx12, Chg.of_ext hx12, fun k hk => .inl hk⟩
  have HMJ := Lib.hid (HMI.out.mono (R' := fun en w' => ∃ (da : Option Addr) (dn dc : Nat) (D : List (Nat × Int)), en = .returned (.tuple #[.slice da dn dc, .int .i64 0]) ∧ D.length = dn ∧ dn ≤ K.length ∧ (∀ k, k ∈ D ↔ k ∈ K ∧ k ∉ []) ∧ w'.ownsRow w1.heap.size 45 2 (.slice da dn dc) dn (D.flatMap idCells) ∧ Ext w1 w') fun en w' h => by
    rcases h with ⟨h1, ⟨h2, -⟩ | ⟨-, da, dn, dc, D, g1, g2, g3, g4, g5⟩⟩
    · exact absurd hck h2
    · exact ⟨da, dn, dc, D, g1, g2, g3, g4, g5, h1⟩)
  clear HMI
  go_upto_region 4 with (first
    | ((with_reducible refine atSlot 20 ?_); refine wpList_of_wp rfl (wp_load_mid (op := ⟨some 20, _, _, _, _, _⟩) 60 _ rfl w.heap.size 0 rfl [.int .i64 S, .slice ka kn kc] _ r1 Try.underlying60 rfl (by kernel_rfl) ?_); clear r1)
    | (go_at_call 31; (with_reducible refine HMJ.out.mono ?_); rintro en w2 ⟨da, dn, dc, D, rfl, hdl, hdn, hdm, hdo, hx2⟩; have HDL := Lib.hid hdl; have HDN := Lib.hid hdn; have HDM0 := Lib.hid hdm; clear hdl hdn hdm)
    | fail)
  have HX2 := Lib.hid (hx1.trans' hx2)
  have HH1 := Lib.hid (hx2.heap' hh1)
  have hdl := HDL.out
  have hdn := HDN.out
  have hdm := HDM0.out
  clear hx1 hx2 hh1 HMJ HDL HDN HDM0
  have hdn5 : dn ≤ 100 := by have := HL.out; omega
  have hss : S = sumK K := by
    unfold chkV at hck
    by_cases h1 : S = sumK K
    · exact h1
    · rw [if_neg h1] at hck; cases hck
  have hsl := sumK_le HK.out
  obtain ⟨Z, hZ⟩ : ∃ Z : Nat, S = (Z : Int) := Int.eq_ofNat_of_zero_le (by omega)
  have hZ2 : Z ≤ 819200 := by have := HL.out; omega
  have HCK := Lib.hid hck
  have HZ := Lib.hid hZ
  have HDM := Lib.hid (show ∀ k, k ∈ D ↔ k ∈ K from fun k => by rw [hdm k]; simp)
  have HDI := Lib.hid (show IdsK D from fun k hk => HK.out.keys k ((hdm k).1 hk).1)
  have HRT := Lib.hid (right38_any da dn dc D a n cp H w2 (Row.of_own hdo) hdl (by omega) HDI.out (HH.out.ext HX2.out) hn)
  have hkn := HL.out
  clear hck hss hsl hZ hdl hdn hdm hdo
  go_upto_region 5 with (first
    | (go_at_call 45; (with_reducible refine HRT.out.mono ?_); rintro en w3 ⟨b, rfl, hmf, hbz, hx3⟩)
    | fail)
  have HX3 := Lib.hid (HX2.out.trans' hx3)
  have HMF := Lib.hid hmf
  have HH3 := Lib.hid (hx3.heap' HH1.out)
  have HCP := Lib.hid (Copy38_any B c room E F w3 (HC.out.ext HX3.out))
  clear hmf hbz hx3 HRT HH1
  go_upto_region 6 with (first
    | (go_at_call 36; (with_reducible refine HCP.out.mono ?_); rintro en w4 ⟨c2, F2, rfl, hC2, hF2, hx4⟩)
    | fail)
  obtain ⟨m2, e2, N2, L2, hC2, hE2, rfl⟩ := hC2
  have hc0 := cell_of_row w4 w.heap.size 0 _ _ _ (hx4.heap' HH3.out)
  rw [HZ.out] at hc0
  have HC2 := Lib.hid hC2
  have HE2 := Lib.hid hE2
  have HF2 := Lib.hid hF2
  have HX4 := Lib.hid hx4
  have HH4 := Lib.hid (hx4.heap' HH3.out)
  clear hC2 hE2 hF2 hx4 HCP HH3
  go_upto_region 7 with (first
    | ((with_reducible refine atSlot 34 ?_); refine wpList_of_wp rfl (owp_mk (o := ⟨some 34, _, _, _, _, _⟩) rfl _ _ rfl Try.elB 0 Z rfl rfl rfl rfl (Nat.zero_le _) (by omega) (by unfold maxLen; omega) ?_); intro og w5 ho5 hx5)
    | fail)
  have hc5 := cell_of_row w5 w.heap.size 1 _ _ _ (hx5.heap' HH4.out)
  have ho5' : w5.ownsRow w4.heap.size 5 1 (.slice (some ⟨og, 0, none⟩) 0 Z) 0 (([] : List UInt8).map u8) := by rw [zeros_u8] at ho5; exact ho5
  have hdo0 : DatOff N2 L2 (some ⟨og, 0, none⟩) := fun k hk b hb e => by
    have h1 := (own_block (HC2.out.data k hk) b hb).2
    have h2 := (own_block ho5' b e).1
    omega
  have HOG := Lib.hid (own_base ho5' HX4.out.size)
  have HDO := Lib.hid hdo0
  have HX5 := Lib.hid (HX4.out.trans' hx5)
  have HC5 := Lib.hid (HC2.out.ext hx5)
  have HW := Lib.hid (HX3.out.trans' (HX4.out.trans' hx5))
  have HB3 := Lib.hid HMF.out.lt
  have hBw := HC.out.below
  clear hc0 ho5 ho5' hdo0 hx5 HH4 HC2
  go_wp2
  go_loopw [12, 38] (CoRel w3 B c2 m2 e2 room kn H E K) (fun _ i _ => kn - (intOf i).toNat)
  case atStart => exact ⟨0, rfl, N2, L2, some ⟨og, 0, none⟩, 0, Z, [], Nat.zero_le _, rfl, HC5.out, by rw [HE2.out]; rfl, HOG.out, Nat.zero_le _, HDO.out, HF2.out, HX5.out⟩
  case round =>
    obtain ⟨j, rfl, N6, L6, oa, on, oc, bl, hj, rfl, hC6, hE6, ho6, hon, hd6, hF6, hx6⟩ := hrel
    rename World => w6
    have HC6 := Lib.hid hC6
    have HE6 := Lib.hid hE6
    have HO6 := Lib.hid ho6
    have HD6 := Lib.hid hd6
    have HF6 := Lib.hid hF6
    have HX6 := Lib.hid hx6
    have HXW := Lib.hid (HX3.out.trans' hx6)
    clear hC6 hE6 ho6 hd6 hF6 hx6 hc5
    by_cases hjn : j < kn
    · obtain ⟨k, hk⟩ : ∃ k, K[j]? = some k := ⟨_, List.getElem?_eq_getElem (by omega)⟩
      have hk1 := HK.out k (List.mem_of_getElem? hk)
      have hkk := HK.out.keys k (List.mem_of_getElem? hk)
      obtain ⟨kk, hkk1, hkv⟩ := key_of hkk.1 hkk.2
      have HKE := Lib.hid hk
      have HKI := Lib.hid hkk1
      have HKV := Lib.hid hkv
      have hrow := HR.out.ext HXW.out
      have HP := Lib.hid (put_new w6 #[.int .u64 0, .int .i64 0] #[.int .u64 k.1, .int .i64 k.2] 45)
      have HN := Lib.hid (heap_alloc_new w6 (.cells #[.int .u64 0, .int .i64 0] 45))
      clear hk hkk hkk1 hkv
      go_upto_region 10 with (first
        | ((with_reducible refine atSlot 40 ?_); refine wpList_of_wp rfl (owp_ix (o := ⟨some 40, _, _, _, _, _⟩) _ _ rfl Try.elId rfl hrow j rfl rfl hjn ?_); intro b3 o3 hc3; have hid3 := id_range HKE.out hc3; clear hc3)
        | ((with_reducible refine atSlot 41 ?_); refine wpList_of_wp rfl (wp_load_mid (op := ⟨some 41, _, _, _, _, _⟩) 45 _ rfl b3 o3 rfl [.int .u64 k.1, .int .i64 k.2] _ hid3 Try.underlying45 rfl (by kernel_rfl) ?_); clear hid3)
        | ((with_reducible refine atStore 14 ?_); refine wpList_of_wp rfl (wp_store_row (o := ⟨none, _, _, _, _, _⟩) _ _ _ rfl w6.heap.size #[.int .u64 k.1, .int .i64 k.2] rfl rfl _ _ HN.out (by kernel_rfl) rfl (by simp [Value.oneCell']) ?_))
        | fail)
      obtain ⟨hx7, hh7⟩ := HP.out
      clear HP HN hrow
      generalize (w6.alloc (.cells #[.int .u64 0, .int .i64 0] 45)).setRow w6.heap.size #[.int .u64 k.1, .int .i64 k.2] = w7 at hx7 hh7 ⊢
      have E7 := Ext.drew' w7
      have HC7 := Lib.hid (HC6.out.ext hx7)
      have HX7 := Lib.hid (HX6.out.trans' hx7)
      have HO7 := Lib.hid (own_ext HO6.out hx7)
      have HBM := Lib.hid fun w' (h : Ext w7 w') => (HC7.out.ext h).box.map
      have HMM := Lib.hid fun w' (h : Ext w7 w') => (HC7.out.ext h).map
      have HID := Lib.hid fun w' (h : Ext w7 w') => range_of_heap2 (h.heap' hh7)
      have HH7 := Lib.hid hh7
      clear hx7 hh7
      cases hat : atF k (ents N6 L6) with
      | some i =>
        obtain ⟨A, x, D6, rfl, rfl, hbk, hid⟩ := blk_at hat
        have HV := Lib.hid (show mapOf N6 (A ++ x :: D6) kk = some (.pointer (some ⟨x, 0, none⟩)) by unfold mapOf; rw [HKI.out]; show (blkOf N6 (A ++ x :: D6) k).map _ = _; rw [hbk]; rfl)
        have hat2 := @ents_at N6 A D6 x
        have HCF := Lib.hid (show conF room H E K [] = conF room H (ents N6 (A ++ D6 ++ [x])) (K.drop (j + 1)) (bl ++ (N6 x).l) by rw [HE6.out, drop_at HKE.out, conF_hit hat hat2, ents_use]; rfl)
        have HXR := Lib.hid (HC6.out.ok.right _ (List.mem_of_getElem? hat2))
        have HIDE := Lib.hid hid
        clear hat hat2 hbk hid
        refine wp_region_e [] (.qs [0, 1, 2, 3, 4, 5, 6, 7, 8, 9, 10] .nil) (by kernel_rfl) (by kernel_rfl) ?_
        iterate 3 ((refine wpY_q rfl rfl _ (fun w' hx' => by go_simp; try rfl) ?_; go_simp))
        refine wpY_q rfl rfl (.map (some m2)) (fun w' hx' => by have hb' := HBM.out w' hx'; go_simp; try rfl) ?_
        go_simp
        refine wpY_ld rfl rfl (.tmp 14) rfl w6.heap.size 0 rfl [.int .u64 k.1, .int .i64 k.2] _ HID.out Try.underlying45 rfl (by kernel_rfl) ?_
        go_simp
        refine wpY_look rfl rfl Try.kvI (.tmp 46) (.tmp 47) rfl Try.underlying76 (z := .pointer none) (fun w' => zero_of (by kernel_rfl) w') rfl HMM.out kk HKV.out.symm ?_
        rw [HV.out]
        go_simp
        iterate 5 ((refine wpY_q rfl rfl _ (fun w' hx' => by go_simp; try rfl) ?_; go_simp))
        refine wpY_nil ?_
        clear HBM HMM HV
        generalize w7.drew = w8 at E7 ⊢
        have hC8 := HC7.out.ext E7
        have HX8 := Lib.hid (HX7.out.trans' E7)
        have HO8 := Lib.hid (own_ext HO7.out E7)
        have HT8 := Lib.hid hC8.typed
        have HUS := Lib.hid (use_any B c2 m2 e2 room x N6 A D6 w8 hC8)
        have hxl : (N6 x).n ≤ 8192 := by
          have h1 := own_len (hC8.data x (by simp))
          have h2 : ((N6 x).l.length : Int) = k.2 := by
            have h3 := HXR.out.1
            rw [HIDE.out] at h3
            exact (congrArg Prod.snd h3).symm
          omega
        clear hC8 E7 HC7 HID HH7
        go_wp2_with (first
          | (go_at_call 39; (with_reducible refine HUS.out.mono ?_); rintro en w9 ⟨rfl, N9, hS9, hC9, hc9⟩; refine Stop.of ?_)
          | fail)
        have hFu : ∀ q ∈ e2 :: (A ++ x :: D6), q ∈ c2 :: m2 :: e2 :: (A ++ x :: D6) := fun q hq => by rw [List.mem_cons, List.mem_cons]; exact .inr (.inr hq)
        have hx9 : Ext w3 w9 := ext_of_chg HX8.out hc9 (fun q hq => HF6.out q (hFu q hq))
        have ho9 := own_chg HO8.out (hc9.mono hFu) HT8.out (by decide) (by decide)
        obtain ⟨-, -, q1, q2, q3, q4, -⟩ := hS9 x
        have hd9 := (hC9.nodes x (by simp)).bytes
        rw [q1, q2, q3] at hd9
        have hb9 := hC9.data x (by simp)
        rw [q1, q2, q3, q4] at hb9
        have hdo9 : DatOff N9 (A ++ D6 ++ [x]) oa := HD6.out.same hS9 (fun q hq => by simp only [List.mem_append, List.mem_cons, List.not_mem_nil, or_false] at hq ⊢; rcases hq with (h | h) | h <;> simp [h])
        have HC9 := Lib.hid hC9
        have HE9 := Lib.hid (hS9.ents (A ++ D6 ++ [x]))
        have HX9 := Lib.hid hx9
        have HO9 := Lib.hid ho9
        have HB9 := Lib.hid (Bytes.of_own hb9)
        have HDO9 := Lib.hid hdo9
        have hone := u8_oneCell (N6 x).l
        have hzx := hx9.size
        clear hFu hx9 ho9 q1 q2 q3 q4 hb9 hdo9 hC9 hS9 hc9 HUS
        refine Stop.out ?_
        go_wp2_with (first
          | ((with_reducible refine atSlot 60 ?_); refine wpList_of_wp rfl (owp_app_at (o := ⟨some 60, _, _, _, _, _⟩) _ _ rfl Try.elB rfl HO9.out rfl HB9.out.row hone (by omega) (by unfold maxLen; omega) hzx ?_); intro a10 c10 w10 ho10 hg10 hm10; have HO10 := Lib.hid ho10; have HG10 := Lib.hid hg10; have HM10 := Lib.hid hm10; clear ho10 hg10 hm10)
          | fail)
        have hrel' : CoRelJ w3 B c2 m2 e2 room kn H E K (.slice a10 (on + (N6 x).n) c10) w10 (j + 1) := by
          refine ⟨N9, A ++ D6 ++ [x], a10, on + (N6 x).n, c10, bl ++ (N6 x).l, hjn, rfl, HC9.out.grownA HO9.out HG10.out HDO9.out, ?_, ?_, by omega, HDO9.out.moved HC9.out HM10.out, fun q hq => HF6.out q ?_, below_app HX9.out HO9.out HG10.out hzx⟩
          · rw [HE9.out]; exact HCF.out
          · rw [List.map_append]; exact HO10.out
          · simp only [List.mem_cons, List.mem_append, List.not_mem_nil, or_false] at hq ⊢
            rcases hq with h | h | h | (h | h) | h <;> simp [h]
        have HREL := Lib.hid hrel'
        clear hrel' hd9 hone hzx
        go_roundw
        case rel => exact ⟨j + 1, by go_num, HREL.out⟩
        case measure => simp [intOf]; omega
      | none =>
        have HV := Lib.hid (show mapOf N6 L6 kk = none by unfold mapOf; rw [HKI.out]; show (blkOf N6 L6 k).map _ = _; rw [blk_none hat]; rfl)
        have HAT := Lib.hid hat
        have hkD : kk.1 ∈ D := by rw [HKI.out]; exact (HDM.out k).2 (List.mem_of_getElem? HKE.out)
        have hfk : fetV D H kk = (fnd H k).map fun x => .slice x.a x.n x.c := by unfold fetV; rw [if_pos hkD, HKI.out]
        have hmf6 := HMF.out.ext HX7.out
        have HFK := Lib.hid hfk
        clear hat hkD hfk
        refine wp_region_e [] (.qs [0, 1, 2, 3, 4, 5, 6, 7, 8, 9, 10] .nil) (by kernel_rfl) (by kernel_rfl) ?_
        iterate 3 ((refine wpY_q rfl rfl _ (fun w' hx' => by go_simp; try rfl) ?_; go_simp))
        refine wpY_q rfl rfl (.map (some m2)) (fun w' hx' => by have hb' := HBM.out w' hx'; go_simp; try rfl) ?_
        go_simp
        refine wpY_ld rfl rfl (.tmp 14) rfl w6.heap.size 0 rfl [.int .u64 k.1, .int .i64 k.2] _ HID.out Try.underlying45 rfl (by kernel_rfl) ?_
        go_simp
        refine wpY_look rfl rfl Try.kvI (.tmp 46) (.tmp 47) rfl Try.underlying76 (z := .pointer none) (fun w' => zero_of (by kernel_rfl) w') rfl HMM.out kk HKV.out.symm ?_
        rw [HV.out]
        go_simp
        iterate 5 ((refine wpY_q rfl rfl _ (fun w' hx' => by go_simp; try rfl) ?_; go_simp))
        refine wpY_nil ?_
        clear HBM HMM HV
        have hid8 := HID.out _ E7
        have hmf8 := hmf6.ext E7
        generalize w7.drew = w8 at E7 hid8 hmf8 ⊢
        have HC8 := Lib.hid (HC7.out.ext E7)
        have HX8 := Lib.hid (HX7.out.trans' E7)
        have HO8 := Lib.hid (own_ext HO7.out E7)
        clear E7 HC7 HH7 hmf6
        cases hfn : fnd H k with
        | none =>
          have hfv : fetV D H kk = none := by rw [HFK.out, hfn]; rfl
          have HFV := Lib.hid hfv
          have HR := Lib.hid (show conC room H E K S = (E, [], 383) by unfold conC; rw [if_neg (by rw [HCK.out]; simp), HE6.out, drop_at HKE.out, conF_miss HAT.out hfn])
          clear hfn hfv
          go_wp2_with (first
            | ((with_reducible refine atSlot 63 ?_); refine wpList_of_wp rfl (wp_load_mid (op := ⟨some 63, _, _, _, _, _⟩) 45 _ rfl w6.heap.size 0 rfl [.int .u64 k.1, .int .i64 k.2] _ hid8 Try.underlying45 rfl (by kernel_rfl) ?_))
            | ((with_reducible refine atSlot 64 ?_); refine wpList_of_wp rfl (owp_look (z := .slice none 0 0) (o := ⟨some 64, _, _, _, _, _⟩) Try.kvI _ _ rfl Try.underlying92 (zero_of (by kernel_rfl) _) rfl hmf8 kk HKV.out.symm ?_); simp only [if_true]; rw [HFV.out])
            | fail)
          go_ret2
          rw [HR.out]
          have hxw := HX3.out.trans' HX8.out
          exact ⟨none, 0, 0, rfl, own_nil _ _ _ _, F, HC.out.ext hxw, Chg.of_ext hxw, fun k hk => .inl hk⟩
        | some y =>
          have hfv : fetV D H kk = some (.slice y.a y.n y.c) := by rw [HFK.out, hfn]; rfl
          have HFV := Lib.hid hfv
          obtain ⟨hym, hyi, hye⟩ := fnd_some hfn
          obtain ⟨hyb, hyn, -⟩ := HH.out.data y hym
          have hyl := hyb.len
          have hyz : ((y.l.length : Nat) : Int) = k.2 := congrArg Prod.snd hye
          have hy1 : 0 < y.n := by omega
          have hy2 : y.n ≤ 8192 := by omega
          have hxw := HX3.out.trans' HX8.out
          have hz38 := HX8.out.size
          have hst : StB (c2 :: m2 :: e2 :: L6) w8 y.a y.n y.c y.l := StB.lowV (hyb.ext hxw) (B := w3.heap.size) (fun p hp => Nat.lt_of_lt_of_le (row_low hyb.row hy1 (by decide) p hp) HX3.out.size) HF6.out hz38
          have HPU := Lib.hid (put38_all B c2 m2 e2 room N6 L6 k.1 k.2 y.a y.n y.c y.l w8 HC8.out hst hye hy1 (by omega) (by have := hxw.size; omega))
          have HCF := Lib.hid (show conF room H E K [] = conF room H (putF room (ents N6 L6) k y.l).1 (K.drop (j + 1)) (bl ++ y.l) by rw [HE6.out, drop_at HKE.out, conF_put HAT.out hfn])
          have HYB := Lib.hid hyb
          have hone := u8_oneCell y.l
          clear hfn hfv hym hyi hye hyb hyl hyz hst hxw hz38
          go_wp2_with (first
            | ((with_reducible refine atSlot 63 ?_); refine wpList_of_wp rfl (wp_load_mid (op := ⟨some 63, _, _, _, _, _⟩) 45 _ rfl w6.heap.size 0 rfl [.int .u64 k.1, .int .i64 k.2] _ hid8 Try.underlying45 rfl (by kernel_rfl) ?_))
            | ((with_reducible refine atSlot 64 ?_); refine wpList_of_wp rfl (owp_look (z := .slice none 0 0) (o := ⟨some 64, _, _, _, _, _⟩) Try.kvI _ _ rfl Try.underlying92 (zero_of (by kernel_rfl) _) rfl hmf8 kk HKV.out.symm ?_); simp only [if_true]; rw [HFV.out])
            | ((with_reducible refine atSlot 70 ?_); refine wpList_of_wp rfl (wp_load_mid (op := ⟨some 70, _, _, _, _, _⟩) 45 _ rfl w6.heap.size 0 rfl [.int .u64 k.1, .int .i64 k.2] _ hid8 Try.underlying45 rfl (by kernel_rfl) ?_); clear hid8)
            | (go_at_call 41; (with_reducible refine HPU.out.mono ?_); rintro en w9 ⟨pa, pn, pc, rfl, -, -, N9, L9, hC9, hE9, hc9, hf9, hdi9⟩; refine Stop.of ?_)
            | fail)
          have hx9 : Ext w3 w9 := ext_of_chg HX8.out hc9 HF6.out
          have ho9 := own_chg HO8.out hc9 HC8.out.typed (by decide) (by decide)
          have HO9 := Lib.hid ho9
          have HDO9 := Lib.hid (HD6.out.put HO8.out hdi9)
          have HX9 := Lib.hid hx9
          have HC9 := Lib.hid hC9
          have HE9 := Lib.hid hE9
          have HF9 := Lib.hid (show ∀ q ∈ c2 :: m2 :: e2 :: L9, w3.heap.size ≤ q from fun q hq => by
            rcases hf9 q hq with h | h
            · exact HF6.out q h
            · exact Nat.le_trans HX8.out.size h)
          have HR9 := Lib.hid (HYB.out.ext (HX3.out.trans' hx9)).row
          have hzx := hx9.size
          clear hx9 ho9 hC9 hE9 hc9 hf9 hdi9 HPU hmf8
          refine Stop.out ?_
          go_wp2_with (first
            | ((with_reducible refine atSlot 75 ?_); refine wpList_of_wp rfl (owp_app_at (o := ⟨some 75, _, _, _, _, _⟩) _ _ rfl Try.elB rfl HO9.out rfl HR9.out hone (by omega) (by unfold maxLen; omega) hzx ?_); intro a10 c10 w10 ho10 hg10 hm10; have HO10 := Lib.hid ho10; have HG10 := Lib.hid hg10; have HM10 := Lib.hid hm10; clear ho10 hg10 hm10)
            | fail)
          have hrel' : CoRelJ w3 B c2 m2 e2 room kn H E K (.slice a10 (on + y.n) c10) w10 (j + 1) := by
            refine ⟨N9, L9, a10, on + y.n, c10, bl ++ y.l, hjn, rfl, HC9.out.grownA HO9.out HG10.out HDO9.out, ?_, ?_, by omega, HDO9.out.moved HC9.out HM10.out, HF9.out, below_app HX9.out HO9.out HG10.out hzx⟩
            · rw [← HE9.out]; exact HCF.out
            · rw [List.map_append]; exact HO10.out
          have HREL := Lib.hid hrel'
          clear hrel' hone hzx
          go_roundw
          case rel => exact ⟨j + 1, by go_num, HREL.out⟩
          case measure => simp [intOf]; omega
    · obtain rfl : j = kn := by omega
      have HR := Lib.hid (show conC room H E K S = (ents N6 L6, bl, 0) by
        unfold conC
        rw [if_neg (by rw [HCK.out]; simp), HE6.out, List.drop_eq_nil_of_le (by omega)]
        rfl)
      obtain ⟨m0, e0, N0, L0, hC0, hE0, hF0⟩ := HC.out
      have hcb := (hC0.ext HXW.out).box
      have hclt : c < w.heap.size := (Array.getElem?_eq_some_iff.1 hC0.box).1
      have hBc : B ≤ c := hC0.base c (by simp)
      have hcF : c ∈ F := by rw [hF0]; simp
      have hcn : c ∉ m2 :: e2 :: L6 := fun hm => by
        have h1 := HF6.out c (List.mem_cons_of_mem _ hm)
        have h2 := HX3.out.size
        omega
      have hr2 := range_heap (cs := [.int .i64 room, .int .i64 (sizeF (ents N6 L6) : Nat), .map (some m2), .pointer (some ⟨e2, 0, none⟩)]) HC6.out.box
      have HMB := Lib.hid (HC6.out.moveBox hcb hcn hBc)
      have HCB := Lib.hid hcb
      have HCF := Lib.hid hcF
      have HO := Lib.hid (own_other HO6.out (grown_setRow w6 c (cacheCells room (sizeF (ents N6 L6) : Nat) m2 e2)) (fun e => own_apart HO6.out hcb (by decide) e.symm))
      clear hC0 hE0 hF0 hcb hBc hcF hcn hj hjn
      go_wp2_with (first
        | ((with_reducible refine atSlot 80 ?_); refine wpList_of_wp rfl (wp_load_mid (op := ⟨some 80, _, _, _, _, _⟩) 79 _ rfl c2 0 rfl [.int .i64 room, .int .i64 (sizeF (ents N6 L6) : Nat), .map (some m2), .pointer (some ⟨e2, 0, none⟩)] _ hr2 Try.underlying79 rfl (by kernel_rfl) ?_); clear hr2)
        | ((with_reducible refine atStore 81 ?_); refine wpList_of_wp rfl (wp_store_row (o := ⟨none, _, _, _, _, _⟩) _ _ _ rfl c #[.int .i64 room, .int .i64 (sizeF (ents N6 L6) : Nat), .map (some m2), .pointer (some ⟨e2, 0, none⟩)] rfl rfl _ _ HCB.out (by kernel_rfl) rfl (by simp [Value.oneCell']) ?_))
        | fail)
      go_ret2
      rw [HR.out]
      refine ⟨oa, on, oc, rfl, own_base HO.out HX3.out.size, _, ⟨m2, e2, N6, L6, HMB.out, rfl, rfl⟩, (Chg.of_ext HXW.out).trans' (Chg.of_grown (grown_setRow w6 c _) HCF.out), fun q hq => ?_⟩
      rcases List.mem_cons.1 hq with rfl | hq
      · exact .inl HCF.out
      · have h1 := HF6.out q (List.mem_cons_of_mem _ hq)
        have h2 := HX3.out.size
        exact .inr (by omega)
end Go.Proofs.Ytpiodpljiklfkaa
