/-
  The law PackTrue.
-/
import Derived.Test.YtncdcpaelecikaaPackT
import Derived.Test.YtncdcpaelecikaaMathR
namespace Go.Proofs.Ytncdcpaelecikaa
open Go.RowKit

/-! ### Plain laws -/
theorem dec_err_nil {l : List UInt8} {S : List Ck} {er : Int} (h : decRes l = (S, er)) (h0 : er ≠ 0) : S = [] := by
  unfold decRes at h
  repeat (split at h; · simp only [Prod.mk.injEq] at h; exact h.1.symm)
  simp only [Prod.mk.injEq] at h
  exact absurd h.2.symm h0
theorem dec_right {l : List UInt8} {S : List Ck} {er : Int} (h : decRes l = (S, er)) : (∀ k ∈ S, rightB k.s k.z k.l = true) ∧ S.Pairwise fun x y => lessB x y = true := by
  by_cases h0 : er = 0
  · subst h0
    obtain ⟨-, -, h1, h2⟩ := dec_is h
    exact ⟨fun k hk => (h1 k hk).1, h2⟩
  · rw [dec_err_nil h h0]
    exact ⟨(fun k hk => by cases hk), List.Pairwise.nil⟩
theorem salv_right {l : List UInt8} {S : List Ck} {G : Nat} (h : pkSalv l = (S, G)) : (∀ k ∈ S, rightB k.s k.z k.l = true) ∧ S.Pairwise fun x y => lessB x y = true :=
  ⟨fun k hk => ((pkSalv_right h).1 k hk).1, (pkSalv_right h).2⟩
theorem asc_of_d {L S : List Ck} (h : L.map Ck.d = S) (hS : (∀ k ∈ S, rightB k.s k.z k.l = true) ∧ S.Pairwise fun x y => lessB x y = true) : Asc L := by
  subst h
  refine ⟨fun k hk => hS.1 k.d (List.mem_map_of_mem hk), ?_⟩
  have := hS.2
  rw [List.pairwise_map] at this
  exact this
theorem frames_d (L : List Ck) : frames (L.map Ck.d) = frames L := by unfold frames; rw [List.flatMap_map]; rfl
theorem errAt_d : ∀ (L : List Ck) (p : Option Ck), errAt (p.map Ck.d) (L.map Ck.d) = errAt p L
  | [], _ => rfl
  | k :: L, p => by
    rw [List.map_cons, errAt, errAt, behind_d, ← errAt_d L (some k)]
    rfl
theorem encRes_d (L : List Ck) : encRes (L.map Ck.d) = encRes L := by
  have h1 := errAt_d L none
  have h2 : packB (L.map Ck.d) = packB L := by unfold packB bodyB; rw [frames_d, List.length_map]
  unfold encRes
  rw [h2]
  rw [Option.map_none] at h1
  rw [h1]
theorem enc_of_dec {l : List UInt8} {S L : List Ck} (h : decRes l = (S, 0)) (hL : L.map Ck.d = S) : encRes L = (l, 0) ∧ (frames L).length ≤ 1048576 := by
  obtain ⟨h1, h2, h3, h4⟩ := dec_is h
  have hA : Asc S := ⟨fun k hk => (h3 k hk).1, h4⟩
  have h0 := asc_err S none hA (fun x hx => by cases hx)
  have hf : frames L = frames S := by rw [← hL, frames_d]
  constructor
  · rw [← encRes_d, hL]
    unfold encRes
    rw [h0, if_neg (by decide), ← h1, if_neg (by omega)]
  · rw [hf]
    have h5 := congrArg List.length h1
    rw [pack_split] at h5
    simp only [List.length_append] at h5
    omega

/-! ### The law's right and ascends -/
set_option maxRecDepth 100000 in
set_option maxHeartbeats 4000000 in
theorem lawRight_any (a : Option Addr) (n c : Nat) (L : List Ck) (w : World) (hL : Chunks w a n c L) (hn : n ≤ 1000000000000) (hR : ∀ k ∈ L, rightB k.s k.z k.l = true) :
    Calls Try.prog 24 #[.slice a n c] w (NewNone (.bool true) w) := by
  have HL := Lib.hid hL.1
  have HR := Lib.hid hR
  clear hR
  go_enter Try.func24, Try.ntmps24
  go_wp2
  go_loopw [3] (SameRel w n) (fun i _ => n - (intOf i).toNat)
  case atStart => exact ⟨0, rfl, by omega, Below.refl _ _⟩
  case round =>
    obtain ⟨j, rfl, hj, hx⟩ := hrel
    rename World => w1
    by_cases hjn : j < n
    · obtain ⟨k, hk⟩ : ∃ k, L[j]? = some k := ⟨_, List.getElem?_eq_getElem (by have := HL.out; omega)⟩
      have hkR := HR.out k (List.mem_of_getElem? hk)
      simp only [rightB, Bool.and_eq_true, decide_eq_true_eq] at hkR
      have hb1 := (hL.2.2 k (List.mem_of_getElem? hk)).1.ext hx
      have hbl := hb1.len
      have hr1 := hL.2.1.ext hx
      have HK := Lib.hid hk
      have hk1 : 1 ≤ k.n := by omega
      have hk2 : k.n ≤ 8192 := by omega
      have hk3 : decide ((k.n : Int) < 1) = false := by simp; omega
      have hk4 : decide ((8192 : Int) < k.n) = false := by simp; omega
      obtain ⟨q1, q2⟩ := eqI (x := (k.s : Int)) (y := ((fp k.l : Nat) : Int)) (by omega)
      obtain ⟨q3, q4⟩ := eqI (x := k.z) (y := (k.n : Int)) (by omega)
      clear hk hkR hbl
      go_wp2
      refine wp_region_e [] (.qs [0, 1, 2, 3, 4, 5, 6, 7, 8, 9] (.l 10 (.qs [11, 12, 13, 14, 15, 16, 17, 18, 19, 20, 21, 22, 23, 24, 25, 26, 27, 28, 29] .nil))) (by kernel_rfl) (by kernel_rfl) ?_
      iterate 2 ((refine wpY_q rfl rfl _ (fun w' hx' => by go_simp; try rfl) ?_; go_simp))
      refine wpY_ix rfl rfl (.tmp 10) (.tmp 11) rfl Try.elC rfl (fun w' h => hr1.ext h) j rfl rfl hjn ?_
      intro b3 o3 hc3
      have hi3 := range_id HK.out hc3
      clear hc3
      ((refine wpY_q rfl rfl _ (fun w' hx' => by go_simp; try rfl) ?_; go_simp))
      refine wpY_ld rfl rfl (.tmp 13) rfl b3 o3 rfl [.int .u64 k.s, .int .i64 k.z] _ hi3 Try.underlying44 rfl (by kernel_rfl) ?_
      iterate 2 ((refine wpY_q rfl rfl _ (fun w' hx' => by go_simp; try rfl) ?_; go_simp))
      refine wpY_ix rfl rfl (.tmp 15) (.tmp 16) rfl Try.elC rfl (fun w' h => hr1.ext h) j rfl rfl hjn ?_
      intro b4 o4 hc4
      have hd4 : ∀ w', Below w1.heap.size w1 w' → w'.cell? ⟨b4, o4 + 2, none⟩ = some (.slice k.a k.n k.c) := fun w' h => (hc4 2 (by omega) w' h).trans (cells_get HK.out 2 (by omega))
      clear hc4
      iterate 2 ((refine wpY_q rfl rfl _ (fun w' hx' => by go_simp; try rfl) ?_; go_simp))
      refine wpY_l rfl rfl ?_
      go_simp
      refine (Of_any k.a k.n k.c k.l _ (hb1.ext (Ext.drew' _)) (by omega)).mono ?_
      rintro e w2 ⟨rfl, hx2⟩
      have E2 := (Ext.drew' w1).trans' hx2
      refine ⟨E2, ?_⟩
      go_simp
      iterate 4 ((refine wpY_q rfl rfl _ (fun w' hx' => by go_simp; try rfl) ?_; go_simp))
      refine wpY_ix rfl rfl (.tmp 23) (.tmp 24) rfl Try.elC rfl (fun w' h => hr1.ext h) j rfl rfl hjn ?_
      intro b5 o5 hc5
      have hd5 : ∀ w', Below w1.heap.size w1 w' → w'.cell? ⟨b5, o5 + 2, none⟩ = some (.slice k.a k.n k.c) := fun w' h => (hc5 2 (by omega) w' h).trans (cells_get HK.out 2 (by omega))
      clear hc5
      iterate 8 ((refine wpY_q rfl rfl _ (fun w' hx' => by go_simp; try rfl) ?_; go_simp))
      refine wpY_ix rfl rfl (.tmp 32) (.tmp 33) rfl Try.elC rfl (fun w' h => hr1.ext h) j rfl rfl hjn ?_
      intro b6 o6 hc6
      have hd6 : ∀ w', Below w1.heap.size w1 w' → w'.cell? ⟨b6, o6 + 2, none⟩ = some (.slice k.a k.n k.c) := fun w' h => (hc6 2 (by omega) w' h).trans (cells_get HK.out 2 (by omega))
      clear hc6
      iterate 5 ((refine wpY_q rfl rfl _ (fun w' hx' => by go_simp; try rfl) ?_; go_simp))
      refine wpY_nil ?_
      clear hd4 hd5 hd6 hi3
      go_wp2
      go_roundw
      case rel => exact ⟨j + 1, by go_num, by omega, hx.trans' E2⟩
      case measure => simp [intOf]; omega
    · have hd : decide (j < n) = false := by simpa using hjn
      go_wp2
      go_ret
      exact ⟨rfl, hx⟩

def AscRel (w : World) (n : Nat) (i : Value) (wr : World) : Prop := ∃ j : Nat, i = .int .i64 j ∧ 1 ≤ j ∧ (j ≤ n ∨ j = 1) ∧ Ext w wr
set_option maxRecDepth 100000 in
set_option maxHeartbeats 4000000 in
theorem ascends_any (a : Option Addr) (n c : Nat) (L : List Ck) (w : World) (hL : Chunks w a n c L) (hn : n ≤ 1000000000000) (hU : L.Pairwise fun x y => lessB x y = true) :
    Calls Try.prog 25 #[.slice a n c] w (NewNone (.bool true) w) := by
  have HL := Lib.hid hL.1
  have HU := Lib.hid hU
  clear hU
  go_enter Try.func25, Try.ntmps25
  go_wp2
  go_loopw [3] (AscRel w n) (fun i _ => n - (intOf i).toNat)
  case atStart => exact ⟨1, rfl, by omega, .inr rfl, Below.refl _ _⟩
  case round =>
    obtain ⟨j, rfl, hj1, hj, hx⟩ := hrel
    rename World => w1
    by_cases hjn : j < n
    · obtain ⟨k, hk⟩ : ∃ k, L[j]? = some k := ⟨_, List.getElem?_eq_getElem (by have := HL.out; omega)⟩
      obtain ⟨y, hy⟩ : ∃ y, L[j - 1]? = some y := ⟨_, List.getElem?_eq_getElem (by have := HL.out; omega)⟩
      have hyk : decide (y.s < k.s ∨ y.s = k.s ∧ y.z < k.z) = true := by
        obtain ⟨h1, rfl⟩ := List.getElem?_eq_some_iff.1 hk
        obtain ⟨h2, rfl⟩ := List.getElem?_eq_some_iff.1 hy
        exact List.pairwise_iff_getElem.1 HU.out (j - 1) j h2 h1 (by omega)
      have HYK := Lib.hid hyk
      have hr1 := hL.2.1.ext hx
      have HK := Lib.hid hk
      have HY := Lib.hid hy
      clear hk hy hyk
      go_wp2
      refine wp_region_e [] (.qs [0, 1, 2, 3, 4, 5, 6, 7, 8, 9, 10] (.l 11 (.qs [12] .nil))) (by kernel_rfl) (by kernel_rfl) ?_
      have hwr : IntKind.i64.wrap ((j : Int) - 1) = (j : Int) - 1 := by rw [IntKind.wrap_i64]; omega
      iterate 3 ((refine wpY_q rfl rfl _ (fun w' hx' => by go_simp; try rfl) ?_; go_simp))
      refine wpY_ix rfl rfl (.tmp 10) (.tmp 12) rfl Try.elC rfl (fun w' h => hr1.ext h) (j - 1) rfl (by omega) (by omega) ?_
      intro b3 o3 hc3
      have hi3 := range_id HY.out hc3
      clear hc3
      ((refine wpY_q rfl rfl _ (fun w' hx' => by go_simp; try rfl) ?_; go_simp))
      refine wpY_ld rfl rfl (.tmp 14) rfl b3 o3 rfl [.int .u64 y.s, .int .i64 y.z] _ hi3 Try.underlying44 rfl (by kernel_rfl) ?_
      iterate 2 ((refine wpY_q rfl rfl _ (fun w' hx' => by go_simp; try rfl) ?_; go_simp))
      refine wpY_ix rfl rfl (.tmp 16) (.tmp 17) rfl Try.elC rfl (fun w' h => hr1.ext h) j rfl rfl hjn ?_
      intro b4 o4 hc4
      have hi4 := range_id HK.out hc4
      clear hc4
      ((refine wpY_q rfl rfl _ (fun w' hx' => by go_simp; try rfl) ?_; go_simp))
      refine wpY_ld rfl rfl (.tmp 19) rfl b4 o4 rfl [.int .u64 k.s, .int .i64 k.z] _ hi4 Try.underlying44 rfl (by kernel_rfl) ?_
      refine wpY_l rfl rfl ?_
      go_simp
      refine (Less_any y.s k.s y.z k.z _).mono ?_
      rw [HYK.out]
      rintro e w2 ⟨rfl, hx2⟩
      have E2 := (Ext.drew' w1).trans' hx2
      refine ⟨E2, ?_⟩
      go_simp
      ((refine wpY_q rfl rfl _ (fun w' hx' => by go_simp; try rfl) ?_; go_simp))
      refine wpY_nil ?_
      clear hi3 hi4
      go_wp2
      go_roundw
      case rel => exact ⟨j + 1, by go_num, by omega, .inl (by omega), hx.trans' E2⟩
      case measure => simp [intOf]; omega
    · have hd : decide (j < n) = false := by simpa using hjn
      go_wp2
      go_ret
      exact ⟨rfl, hx⟩

set_option maxRecDepth 100000 in
set_option maxHeartbeats 4000000 in
theorem PackTrue_walk (a : Option Addr) (n c : Nat) (l : List UInt8) (a1 : Option Addr) (n1 c1 : Nat) (L1 : List Int) (w : World) (hb : Bytes w a n c l) (hn : n ≤ 10000000)
    (hl : Row w a1 n1 c1 1 (L1.map (Value.int .i64))) (hli : ∀ x ∈ L1, -9223372036854775808 ≤ x ∧ x ≤ 9223372036854775807) (ha1 : ∀ p, a1 = some p → 0 < n1 → p.block < w.heap.size) :
    Calls Try.prog 8 #[.slice a n c, .slice a1 n1 c1] w (LawPost w) := by
  obtain ⟨w1, hw1⟩ : ∃ w1, w1 = w.alloc (.cells #[.slice a1 n1 c1, .int .i64 0] 26) := ⟨_, rfl⟩
  have ht : Tape w1 w.heap.size 0 := by rw [hw1]; exact ⟨a1, n1, c1, L1, heap_alloc_new w _, hl.ext (Ext.alloc' _ _), ha1, hli⟩
  have hx1 : Ext w w1 := by rw [hw1]; exact Ext.alloc' _ _
  have hcv := Lib.run_convert_bytes_const (w.alloc (.cells #[.slice a1 n1 c1, .int .i64 0] 26)) 28 5 #[.int .u8 83, .int .u8 89, .int .u8 80, .int .u8 75] 4 4 Try.underlying28 Try.underlying5
  have hsz : (w.alloc (.cells #[.slice a1 n1 c1, .int .i64 0] 26)).heap.size = w.heap.size + 1 := by simp
  rw [hsz] at hcv
  have hrowM : Row ((w.alloc (.cells #[.slice a1 n1 c1, .int .i64 0] 26)).alloc (.cells #[.int .u8 83, .int .u8 89, .int .u8 80, .int .u8 75] 5 (4, 5))) (some ⟨w.heap.size + 1, 0, none⟩) 4 4 1 (magicB.map u8) := by
    have h := heap_alloc_new (w.alloc (.cells #[.slice a1 n1 c1, .int .i64 0] 26)) (.cells #[.int .u8 83, .int .u8 89, .int .u8 80, .int .u8 75] 5 (4, 5))
    rw [hsz] at h
    exact row_of_heap4 h
  have hBM : w.heap.size + 1 ≤ ((w.alloc (.cells #[.slice a1 n1 c1, .int .i64 0] 26)).alloc (.cells #[.int .u8 83, .int .u8 89, .int .u8 80, .int .u8 75] 5 (4, 5))).heap.size := by simp
  have hEM : Below (w.heap.size + 1) (w.alloc (.cells #[.slice a1 n1 c1, .int .i64 0] 26)) ((w.alloc (.cells #[.slice a1 n1 c1, .int .i64 0] 26)).alloc (.cells #[.int .u8 83, .int .u8 89, .int .u8 80, .int .u8 75] 5 (4, 5))) := by rw [← hsz]; exact Ext.alloc' _ _
  clear hsz
  have HT := Lib.hid ht
  have HW := Lib.hid hw1
  clear ht hw1
  go_enter Try.func8, Try.ntmps8
  go_wp2_with (first
    | (at_builtin; go_loud (refine wpList_appR rfl _ _ rfl Try.elB (B := w.heap.size + 1) rfl (Nat.le_refl _) hrowM rfl ((hb.ext (Ext.alloc' _ _)).ext (Ext.alloc' _ _)).row (u8_oneCell _) (by omega) (by unfold maxLen; omega) hBM ?_); intro a3 c3 w3 hr3 hne3 hb3; refine Stop.of ?_))
  have E3' : Below (w.heap.size + 1) w1 w3 := by rw [HW.out]; exact hEM.trans hb3
  have E3 : Ext w1 w3 := by
    have e : w1.heap.size = w.heap.size + 1 := by rw [HW.out]; simp
    unfold Ext; rw [e]; exact E3'
  have hb3' : Bytes w3 a3 (4 + n) c3 (magicB ++ l) := Bytes.mk' (by rw [List.map_append]; exact hr3)
  have ht3 := HT.out.ext E3
  have hx3 := hx1.trans' E3
  have HX3 := Lib.hid hx3
  clear hcv hrowM hBM hEM hr3 hb3 E3' E3 hx1
  refine Stop.out ?_
  go_wp2_with (go_at_call 15; (with_reducible refine (lawBytes_any w.heap.size 0 _ ht3 (by omega)).mono ?_); rintro e w4 ⟨a4, n4, c4, k4, l4, rfl, hb4, hfr4, hn4, ht4, -, hg4⟩; refine Stop.of ?_)
  have hx4 : Ext w w4 := HX3.out.rd hg4 (Nat.le_refl _)
  have hbA := hb.ext hx4
  have hbB := hb3'.apart hg4 (fun p hp => by have := hne3 p hp; omega)
  have hLL := lists3 (x := ⟨a, n, c, l⟩) (y := ⟨a3, 4 + n, c3, magicB ++ l⟩) (z := ⟨a4, n4, c4, l4⟩) hbA hbB hb4
  obtain ⟨LL, hLLe⟩ : ∃ LL : List Bs, LL = [⟨a, n, c, l⟩, ⟨a3, 4 + n, c3, magicB ++ l⟩, ⟨a4, n4, c4, l4⟩] := ⟨_, rfl⟩
  rw [← hLLe] at hLL
  have hsizes : ∀ b ∈ LL, b.n ≤ 100000000 := by
    intro b hb
    rw [hLLe] at hb
    simp only [List.mem_cons, List.not_mem_nil, or_false] at hb
    rcases hb with rfl | rfl | rfl
    · show n ≤ _; omega
    · show 4 + n ≤ _; omega
    · show n4 ≤ _; omega
  have hx5 : Ext w (w4.alloc (.cells #[.slice a n c, .slice a3 (4 + n) c3, .slice a4 n4 c4] 28)) := hx4.trans' (Ext.alloc' _ _)
  have HS := Lib.hid hsizes
  have HLL := Lib.hid hLL
  have HX5 := Lib.hid hx5
  clear hLL hLLe hsizes hbA hbB hb4 hb3' ht3 hx4 hx5 hne3 hfr4 ht4 hg4
  refine Stop.out ?_
  go_wp2
  go_loopw [7] (LRel (w4.alloc (.cells #[.slice a n c, .slice a3 (4 + n) c3, .slice a4 n4 c4] 28)) 3) (fun i _ => 3 - (intOf i).toNat)
  case atStart => exact ⟨0, rfl, by omega, Below.refl _ _⟩
  case round =>
    obtain ⟨j, rfl, hj, hx⟩ := hrel
    rename World => w5
    have hL5 := HLL.out.ext hx
    by_cases hjn : j < 3
    · obtain ⟨y, hy⟩ : ∃ y, LL[j]? = some y := ⟨_, List.getElem?_eq_getElem (by have := HLL.out.1; omega)⟩
      have hyn := HS.out y (List.mem_of_getElem? hy)
      have hyb := hL5.2.2 y (List.mem_of_getElem? hy)
      have hyr := hL5.2.1
      have HY := Lib.hid (show (LL.map Bs.v)[j * 1 + 0]? = some y.v by rw [Nat.mul_one, Nat.add_zero, List.getElem?_map, hy]; rfl)
      obtain ⟨S, er, hS⟩ : ∃ S er, decRes y.l = (S, er) := ⟨_, _, rfl⟩
      obtain ⟨S2, good, hS2⟩ : ∃ S good, pkSalv y.l = (S, good) := ⟨_, _, rfl⟩
      have HSS := Lib.hid hS
      have HSS2 := Lib.hid hS2
      have hyl : y.l.length ≤ 100000000 := by have := hyb.len; omega
      clear hy hL5 hS hS2
      have t1 : True := trivial
      have t2 : True := trivial
      go_wp2_with (first
        | ((with_reducible refine atSlot 34 ?_); refine wpList_of_wp rfl (owp_ix (o := ⟨some 34, _, _, _, _, _⟩) _ _ rfl Try.elBB rfl hyr j rfl rfl hjn ?_); intro b6 o6 hc6; have hd6 : w5.cell? ⟨b6, o6, none⟩ = some (.slice y.a y.n y.c) := (hc6 0 (by omega)).trans HY.out; clear hc6)
        | (go_at_call 22; (with_reducible refine (Decode_any y.a y.n y.c y.l _ hyb (by omega)).mono ?_); rintro e w6 hp6; obtain ⟨cn, cc, ca, La, rfl, hO6, hd6', hx6, hcn6⟩ := hp6.is HSS.out; have hyr6 := hyr.ext hx6; have hyb6 := hyb.ext hx6; have HD6 := Lib.hid hd6'; clear hd6')
        | ((with_reducible refine atSlot 42 ?_); refine wpList_of_wp rfl (owp_ix (o := ⟨some 42, _, _, _, _, _⟩) _ _ rfl Try.elBB rfl hyr6 j rfl rfl hjn ?_); intro b7 o7 hc7; have hd7 : w6.cell? ⟨b7, o7, none⟩ = some (.slice y.a y.n y.c) := (hc7 0 (by omega)).trans HY.out; clear hc7)
        | (go_at_call 16; (with_reducible refine (Salvage_any y.a y.n y.c y.l _ hyb6 hyn).mono ?_); rintro e w7 hp7; obtain ⟨cn7, cc7, ca7, Lb, rfl, hO7, hd7', hx7, hcn7⟩ := hp7.is HSS2.out; have hCa := (hO6.ext hx7).chunks; have hCb := hO7.chunks; have HAa := Lib.hid (asc_of_d HD6.out (dec_right HSS.out)).1; have HAb := Lib.hid (asc_of_d hd7' (salv_right HSS2.out)).1; have HUa := Lib.hid (asc_of_d HD6.out (dec_right HSS.out)).2; have HUb := Lib.hid (asc_of_d hd7' (salv_right HSS2.out)).2; clear hd7')
        | (go_at_call 24; have _t := t1; (with_reducible refine (lawRight_any _ _ _ La _ hCa (by omega) HAa.out).mono ?_); rintro e w8 ⟨rfl, hx8⟩; clear t1)
        | (go_at_call 24; (with_reducible refine (lawRight_any _ _ _ Lb _ (hCb.ext hx8) (by omega) HAb.out).mono ?_); rintro e w9 ⟨rfl, hx9⟩)
        | (go_at_call 25; have _t := t2; (with_reducible refine (ascends_any _ _ _ La _ ((hCa.ext hx8).ext hx9) (by omega) HUa.out).mono ?_); rintro e w10 ⟨rfl, hx10⟩; clear t2)
        | (go_at_call 25; (with_reducible refine (ascends_any _ _ _ Lb _ (((hCb.ext hx8).ext hx9).ext hx10) (by omega) HUb.out).mono ?_); rintro e w11 ⟨rfl, hx11⟩; refine Stop.of ?_))
      have hxa := ((((hx.trans' hx6).trans' hx7).trans' hx8).trans' hx9).trans' hx10
      have hxb := hxa.trans' hx11
      have hC11 := (((hCa.ext hx8).ext hx9).ext hx10).ext hx11
      have hyb11 := (((((hyb6.ext hx7).ext hx8).ext hx9).ext hx10).ext hx11)
      have hyr11 := (((((hyr6.ext hx7).ext hx8).ext hx9).ext hx10).ext hx11)
      clear hx hx6 hx7 hx8 hx9 hx10 hx11 hCa hCb hO6 hO7 hyb hyr hyb6 hyr6 hxa hp6 hp7
      by_cases h0 : er = 0
      rotate_left
      · obtain ⟨q0, q1⟩ := ne0 h0
        clear h0
        refine Stop.out ?_
        go_wp2
        go_roundw
        case rel => exact ⟨j + 1, by go_num, by omega, hxb⟩
        case measure => simp [intOf]; omega
      subst h0
      obtain ⟨hE1, hE2⟩ := enc_of_dec HSS.out HD6.out
      have HE1 := Lib.hid hE1
      have hEn := Lib.hid (Encode_any ca cn cc La _ hC11 (by omega) (by omega))
      clear hE1
      refine Stop.out ?_
      go_wp2_with (go_at_call 12; (with_reducible refine hEn.out.mono ?_); rintro e w12 hp12; obtain ⟨a12, n12, c12, rfl, ho12, hx12⟩ := hp12.is HE1.out)
      have hb12 := Bytes.of_own ho12
      have hyb12 := hyb11.ext hx12
      have hyr12 := hyr11.ext hx12
      refine wp_region_e [] (.qs [0, 1, 2, 3, 4, 5, 6, 7, 8, 9, 10, 11] .nil) (by kernel_rfl) (by kernel_rfl) ?_
      iterate 4 ((refine wpY_q rfl rfl _ (fun w' hx' => by go_simp; try rfl) ?_; go_simp))
      refine wpY_conv rfl rfl (.tmp 75) rfl rfl (fun w' h => hb12.ext h) Try.underlying28 Try.underlying5 Try.underlying9 ?_
      iterate 2 ((refine wpY_q rfl rfl _ (fun w' hx' => by go_simp; try rfl) ?_; go_simp))
      refine wpY_ix rfl rfl (.tmp 77) (.tmp 78) rfl Try.elBB rfl (fun w' h => hyr12.ext h) j rfl rfl hjn ?_
      intro b5 o5 hc5
      have hd5 : ∀ w', Below w12.heap.size w12 w' → w'.cell? ⟨b5, o5, none⟩ = some (.slice y.a y.n y.c) := fun w' h => (hc5 0 (by omega) w' h).trans HY.out
      clear hc5
      ((refine wpY_q rfl rfl _ (fun w' hx' => by go_simp; try rfl) ?_; go_simp))
      refine wpY_conv rfl rfl (.tmp 80) rfl rfl (fun w' h => hyb12.ext h) Try.underlying28 Try.underlying5 Try.underlying9 ?_
      iterate 2 ((refine wpY_q rfl rfl _ (fun w' hx' => by go_simp; try rfl) ?_; go_simp))
      refine wpY_nil ?_
      clear hd5
      go_wp2
      go_roundw
      case rel => exact ⟨j + 1, by go_num, by omega, (hxb.trans' hx12).trans' (Ext.drew' _)⟩
      case measure => simp [intOf]; omega
    · obtain rfl : j = 3 := by omega
      go_wp2_with (go_at_call 14; (with_reducible refine (known_any _).mono ?_); rintro e w9 ⟨rfl, hx9⟩)
      go_ret
      exact ⟨rfl, (HX5.out.trans' hx).trans' hx9⟩
end Go.Proofs.Ytncdcpaelecikaa
