/-
  The law DeltaForms.
-/
import Derived.Test.YtcljlglmnagodaaBts
import Derived.Test.YtcljlglmnagodaaDelDd
import Derived.Test.YtcljlglmnagodaaDelS
namespace Go.Proofs.Ytcljlglmnagodaa
open Go.RowKit

theorem decDRes_few (base : Int) (l : List UInt8) : (decDRes base l).1.length ≤ 4096 := by
  unfold decDRes decD
  cases h1 : numF 4096 l with
  | none => simp
  | some p =>
    obtain ⟨M, j⟩ := p
    obtain ⟨-, h2, -, -⟩ := numF_some h1
    simp only
    cases h3 : opsF M (l.drop j) with
    | none => simp
    | some q =>
      obtain ⟨os, i⟩ := q
      have h4 := opsF_le _ _ _ _ h3
      simp only
      by_cases h5 : (ckRes base os).2 = 0 ∧ j + i = l.length
      · rw [if_pos h5]; show os.length ≤ _; omega
      · rw [if_neg h5]; simp
theorem enc_cost {base : Int} {os : List Dp} {l : List UInt8} (h : encDRes base os = (l, 0)) : costD os = l.length ∧ l.length ≤ 2000000 := by
  unfold encDRes at h
  by_cases he : (ckRes base os).2 = 0
  · rw [if_pos he] at h
    cases h
    have h1 : ckRes base os = ((ckRes base os).1, 0) := by rw [← he]
    obtain ⟨h2, -⟩ := ckRes_ok h1
    refine ⟨?_, encD_size h1⟩
    unfold costD
    rw [if_pos]
    rw [List.all_eq_true]
    intro o ho
    exact fineB_iff.2 (h2 o ho).fine
  · rw [if_neg he] at h
    simp only [Prod.mk.injEq] at h
    exact absurd h.2 he
theorem enc_no {base : Int} {os : List Dp} {l : List UInt8} {er : Int} (h : encDRes base os = (l, er)) (he : er ≠ 0) : l = [] := by
  unfold encDRes at h
  by_cases h0 : (ckRes base os).2 = 0
  · rw [if_pos h0] at h
    cases h; exact absurd rfl he
  · rw [if_neg h0] at h
    cases h; rfl
theorem Ext.gs {w w' : World} (h : Ext w w') (g : Nat) : w.grownBy w' (some g) := ⟨h.os, h.tape, h.output, h.size, fun k hk _ => h.block k hk⟩
/-- What DeltaForms holds: the tape, the encoding, one byte more, the list. -/
structure FmW (w0 : World) (g k : Nat) (a5 : Option Addr) (n5 c5 : Nat) (lE : List UInt8) (a9 : Option Addr) (c9 : Nat) (lX : List UInt8) (ls : Nat) (LV : List Value) (w : World) : Prop where
  ext : Ext w0 w
  tp : Tape w g k
  c : w.ownsRow (g + 1) 5 1 (.slice a5 n5 c5) n5 (lE.map u8)
  x : w.ownsRow (g + 1) 5 1 (.slice a9 (n5 + 1) c9) (n5 + 1) (lX.map u8)
  l : w.ownsRow (g + 1) 26 1 (.slice (some ⟨ls, 0, none⟩) 3 3) 3 LV
section
variable {w0 w w' : World} {g k n5 c5 c9 ls : Nat} {a5 a9 : Option Addr} {lE lX : List UInt8} {LV : List Value}
theorem FmW.al (h : FmW w0 g k a5 n5 c5 lE a9 c9 lX ls LV w) (hx : Ext w w') : FmW w0 g k a5 n5 c5 lE a9 c9 lX ls LV w' :=
  ⟨h.ext.trans' hx, h.tp.ext hx, own_ext h.c hx, own_ext h.x hx, own_ext h.l hx⟩
theorem FmW.nx (h : FmW w0 g k a5 n5 c5 lE a9 c9 lX ls LV w) {k2 : Nat} (hg : w.grownBy w' (some g)) (ht : Tape w' g k2) (hgw : w0.heap.size ≤ g) : FmW w0 g k2 a5 n5 c5 lE a9 c9 lX ls LV w' :=
  ⟨h.ext.rd hg hgw, ht, own_kept h.c hg (Nat.lt_succ_self _), own_kept h.x hg (Nat.lt_succ_self _), own_kept h.l hg (Nat.lt_succ_self _)⟩
theorem FmW.put (h : FmW w0 g k a5 n5 c5 lE a9 c9 lX ls LV w) {A : Nat} (hg : w.grownBy w' (some A)) (hgw : w0.heap.size ≤ g) (hA : g < A) (h5 : ∀ b, blockOf a5 = some b → b < A) (h9 : ∀ b, blockOf a9 = some b → b < A) (hl : ls < A) : FmW w0 g k a5 n5 c5 lE a9 c9 lX ls LV w' :=
  ⟨h.ext.rd hg (by omega), h.tp.grown hg (fun b hb => by cases hb; exact hA), own_other h.c hg (fun e => Nat.lt_irrefl _ (h5 _ e)), own_other h.x hg (fun e => Nat.lt_irrefl _ (h9 _ e)), own_other h.l hg (fun e => absurd (show ls = A by simpa [blockOf] using e) (by omega))⟩
theorem FmW.lt5 (h : FmW w0 g k a5 n5 c5 lE a9 c9 lX ls LV w) : ∀ b, blockOf a5 = some b → b < w.heap.size := fun b hb => (own_block h.c b hb).2
theorem FmW.lt9 (h : FmW w0 g k a5 n5 c5 lE a9 c9 lX ls LV w) : ∀ b, blockOf a9 = some b → b < w.heap.size := fun b hb => (own_block h.x b hb).2
theorem FmW.ltl (h : FmW w0 g k a5 n5 c5 lE a9 c9 lX ls LV w) : ls < w.heap.size := (own_block h.l ls rfl).2
end
/-- The list that DeltaForms goes through. -/
def FmList (w0 : World) (s14 : Value) (w' : World) : Prop := ∃ (la : Option Addr) (ln lc : Nat) (LL : List Bt), s14 = .slice la ln lc ∧ ln ≤ 5 ∧ Bts w' la ln lc LL ∧ Ext w0 w'
def FmRel (w0 : World) (ln : Nat) (i : Value) (wr : World) : Prop := ∃ j : Nat, i = .int .i64 j ∧ j ≤ ln ∧ Ext w0 wr

set_option maxRecDepth 100000 in
set_option maxHeartbeats 8000000 in
theorem DeltaForms_walk (base : Int) (ra : Option Addr) (rn rc : Nat) (rl : List UInt8) (a1 : Option Addr) (n1 c1 : Nat) (L1 : List Int) (w : World) (_h0 : -9223372036854775808 ≤ base) (_h1 : base ≤ 9223372036854775807) (hR : Bytes w ra rn rc rl) (hrn : rn ≤ 140737488351232)
    (hl : Row w a1 n1 c1 1 (L1.map (Value.int .i64))) (hli : ∀ x ∈ L1, -9223372036854775808 ≤ x ∧ x ≤ 9223372036854775807) (ha1 : ∀ p, a1 = some p → 0 < n1 → p.block < w.heap.size) :
    Calls Try.prog 12 #[.int .i64 base, .slice ra rn rc, .slice a1 n1 c1] w (LawPost w) := by
  have ht : Tape (w.alloc (.cells #[.slice a1 n1 c1, .int .i64 0] 25)) w.heap.size 0 :=
    ⟨a1, n1, c1, L1, heap_alloc_new w _, hl.ext (Ext.alloc' _ _), ha1, hli⟩
  have hx1 : Ext w (w.alloc (.cells #[.slice a1 n1 c1, .int .i64 0] 25)) := Ext.alloc' _ _
  have HT := Lib.hid ht
  have HR := Lib.hid hR
  clear ht hR hl
  go_enter Try.func12, Try.ntmps12
  go_wp2_with (first
    | (go_at_call 25; (with_reducible refine (Next_any w.heap.size 0 20 _ HT.out (by omega) (by omega)).mono ?_); rintro e w2 ⟨N0, rfl, hN0, ht2, hg2⟩; have hx2 := hx1.rd hg2 (Nat.le_refl _); have hN0' : N0 ≤ 19 := (by unfold Below1 at hN0; omega))
    | (go_at_call 31; (with_reducible refine (faulty_any w.heap.size (0 + 1) N0 _ ht2 (by omega) (by omega)).mono ?_); rintro e w3 ⟨a3, m3, c3, k3, L3, rfl, hO3, hm3, hf3, ht3, hk3, hg3⟩; refine Stop.of ?_)
    | fail)
  have hx3 := hx2.rd hg3 (Nat.le_refl _)
  have hP3 := hO3.ops
  obtain ⟨lE, eE, hen⟩ : ∃ lE eE, encDRes N0 (L3.map Od.d) = (lE, eE) := ⟨_, _, rfl⟩
  have hlE : lE.length ≤ 2000000 := by
    by_cases h : eE = 0
    · subst h; exact (enc_cost hen).2
    · rw [enc_no hen h]; simp
  have HEN := Lib.hid hen
  clear hO3 hN0 hg2 hg3 ht2 hx2 hen
  refine Stop.out ?_
  go_upto_region 6 with (first
    | (go_at_call 45; (with_reducible refine (Encode_any N0 a3 m3 c3 L3 _ hP3 (by omega) HEN.out).mono ?_); rintro e w4 ⟨a4, n4, c4, rfl, ho4, hx4⟩; have hP4 := hP3.ext hx4)
    | (go_at_call 46; (with_reducible refine (refEncode_any N0 a3 m3 c3 L3 _ hP4 (by omega) HEN.out).mono ?_); rintro e w5 ⟨a5, n5, c5, rfl, ho5, hx5⟩)
    | fail)
  have hb4 := (Bytes.of_own ho4).ext hx5
  have hb5 := Bytes.of_own ho5
  have ht5 := (ht3.ext hx4).ext hx5
  have hxw5 := (hx3.trans' hx4).trans' hx5
  have hP5 := hP4.ext hx5
  have hl5 := own_len ho5
  have hn5 : n5 ≤ 2000000 := by omega
  have HL5 := Lib.hid hl5
  have hgl : w.heap.size < w4.heap.size := (ht3.ext hx4).lt
  have HO5 := Lib.hid ho5
  clear ho4 ho5 hP3 hP4 hx4 hx5 hx3 ht3 hl5
  go_cut [66] from 22 (fun s66 w' => s66 = .bool false ∧ Ext w5 w')
  case first =>
    obtain ⟨q1, q2⟩ := eqI (x := eE) (y := eE) rfl
    by_cases he : eE = 0
    rotate_left
    · obtain ⟨q3, q4⟩ := neI he
      clear he
      go_wp2_with (first
        | (go_at_call 28; (with_reducible refine (known_any _).mono ?_); rintro e w6 ⟨rfl, hx6⟩; have hb46 := hb4.ext hx6; have hb56 := hb5.ext hx6)
        | ((with_reducible refine atSlot 51 ?_); refine wpList_of_wp rfl (owp_conv (o := ⟨some 51, _, _, _, _, _⟩) _ rfl rfl hb46 Try.underlying26 Try.underlying5 Try.underlying9 ?_))
        | ((with_reducible refine atSlot 53 ?_); refine wpList_of_wp rfl (owp_conv (o := ⟨some 53, _, _, _, _, _⟩) _ rfl rfl hb56 Try.underlying26 Try.underlying5 Try.underlying9 ?_))
        | fail)
      go_meet
      exact ⟨rfl, hx6⟩
    · subst he
      have hco : ∀ w', Ext w5 w' → Calls Try.prog 40 #[.slice a3 m3 c3] w' (NewNone (.int .i64 n5) w') := fun w' h => by
        have h1 := Cost_any a3 m3 c3 L3 w' (hP5.ext h) (by omega)
        rw [(enc_cost HEN.out).1, HL5.out] at h1
        have h2 : RowKit.wrap64 (n5 : Int) = n5 := IntWalk.wrap64_in _ ⟨by omega, by omega⟩
        rwa [h2] at h1
      have HCO := Lib.hid hco
      clear hco
      go_wp2_with (first
        | (go_at_call 28; (with_reducible refine (known_any _).mono ?_); rintro e w6 ⟨rfl, hx6⟩; have hb46 := hb4.ext hx6; have hb56 := hb5.ext hx6)
        | ((with_reducible refine atSlot 51 ?_); refine wpList_of_wp rfl (owp_conv (o := ⟨some 51, _, _, _, _, _⟩) _ rfl rfl hb46 Try.underlying26 Try.underlying5 Try.underlying9 ?_))
        | ((with_reducible refine atSlot 53 ?_); refine wpList_of_wp rfl (owp_conv (o := ⟨some 53, _, _, _, _, _⟩) _ rfl rfl hb56 Try.underlying26 Try.underlying5 Try.underlying9 ?_))
        | (go_at_call 40; (with_reducible refine (HCO.out _ hx6).mono ?_); rintro e w7 ⟨rfl, hx7⟩)
        | fail)
      go_meet
      exact ⟨rfl, Ext.trans' hx6 hx7⟩
  case rest =>
    obtain ⟨rfl, hx56⟩ := hcut
    rename World => w6
    have hb6 := hb5.ext hx56
    have ht6 := ht5.ext hx56
    have hxw6 := hxw5.trans' hx56
    have HO6 := Lib.hid (own_ext HO5.out hx56)
    have hgl6 : w.heap.size < w6.heap.size := ht6.lt
    clear hb5 hb4 ht5 hxw5 hP5 hx56 HO5
    go_upto_if 79 with (first
      | ((with_reducible refine atSlot 70 ?_); refine wpList_of_wp rfl (owp_clone (o := ⟨some 70, _, _, _, _, _⟩) _ _ rfl Try.elB rfl rfl hb6.row (u8_oneCell _) (by omega) ?_); intro a7 c7 w7 ho7 hx7; have ht7 := ht6.ext hx7)
      | (go_at_call 25; (with_reducible refine (Next_any w.heap.size k3 3 _ ht7 (by omega) (by omega)).mono ?_); rintro e w8 ⟨u8v, rfl, hu8, ht8, hg8⟩; have hu8' : u8v ≤ 2 := (by unfold Below1 at hu8; omega); have ho8 := own_kept ho7 hg8 hgl6; have hxw8 := (hxw6.trans' hx7).rd hg8 (Nat.le_refl _); have hz8 : w6.heap.size ≤ w8.heap.size := (by have := hx7.size; have := hg8.size; omega))
      | ((with_reducible refine atSlot 75 ?_); have hrow := Row.one w8 (.int .u8 u8v) 5; refine wpList_of_wp rfl (owp_app (o := ⟨some 75, _, _, _, _, _⟩) _ _ rfl Try.elB rfl (own_ext ho8 (Ext.alloc' w8 _)) rfl hrow (by intro u hu; simp at hu; subst hu; rfl) (by omega) (by unfold maxLen; omega) (Nat.le_trans hz8 (Ext.alloc' w8 _).size) ?_); intro a9 c9 w9 ho9 hg9)
      | fail)
    have hu8v : Value.int .u8 (u8v : Int) = u8 (UInt8.ofNat u8v) := (u8_ofNat u8v (by omega)).symm
    have hE8 := Ext.alloc' w8 (.cells #[.int .u8 u8v] 5)
    have hg69 : w6.grownBy w9 (some w.heap.size) := chg_trans (chg_trans (chg_trans (hx7.gs _) hg8 (fun b hb => .inr (by cases hb; rfl))) (hE8.gs w.heap.size) (fun b hb => .inr (by cases hb; rfl))) hg9 (fun b hb => .inl (own_block ho8 b hb).1)
    have F9 : FmW w w.heap.size (k3 + 1) a5 n5 c5 lE a9 c9 (lE ++ [UInt8.ofNat u8v]) w9.heap.size ([⟨ra, rn, rc, rl⟩, ⟨a5, n5, c5, lE⟩, ⟨a9, n5 + 1, c9, lE ++ [UInt8.ofNat u8v]⟩].map Bt.v) (w9.alloc (.cells #[.slice ra rn rc, .slice a5 n5 c5, .slice a9 (n5 + 1) c9] 26)) := by
      have hE9 := Ext.alloc' w9 (.cells #[.slice ra rn rc, .slice a5 n5 c5, .slice a9 (n5 + 1) c9] 26)
      refine ⟨(hxw6.rd hg69 (Nat.le_refl _)).trans' hE9, ((ht8.ext hE8).grown hg9 (fun b hb => by have := (own_block ho8 b hb).1; omega)).ext hE9, own_ext (own_base (own_kept HO6.out hg69 hgl) hgl) hE9, own_ext (own_base (B := w6.heap.size) ?_ hgl6) hE9, own_lit w9 #[.slice ra rn rc, .slice a5 n5 c5, .slice a9 (n5 + 1) c9] (w.heap.size + 1) 26 3 1 (Nat.le_trans hgl6 hg69.size) (by decide) rfl⟩
      rw [List.map_append, List.map_cons, List.map_nil, ← hu8v]
      exact ho9
    generalize w9.alloc (.cells #[.slice ra rn rc, .slice a5 n5 c5, .slice a9 (n5 + 1) c9] 26) = w10 at F9 ⊢
    have hls := F9.ltl
    generalize w9.heap.size = ls at F9 hls ⊢
    have hIn : ∀ w', FmW w w.heap.size (k3 + 1) a5 n5 c5 lE a9 c9 (lE ++ [UInt8.ofNat u8v]) ls ([⟨ra, rn, rc, rl⟩, ⟨a5, n5, c5, lE⟩, ⟨a9, n5 + 1, c9, lE ++ [UInt8.ofNat u8v]⟩].map Bt.v) w' → ∀ k ∈ ([⟨ra, rn, rc, rl⟩, ⟨a5, n5, c5, lE⟩, ⟨a9, n5 + 1, c9, lE ++ [UInt8.ofNat u8v]⟩] : List Bt), k.In w' := fun w' h k hk => by
      simp only [List.mem_cons, List.not_mem_nil, or_false] at hk
      rcases hk with rfl | rfl | rfl
      · exact ⟨HR.out.ext h.ext, by show rn ≤ _; omega⟩
      · exact ⟨Bytes.of_own h.c, by show n5 ≤ _; omega⟩
      · exact ⟨Bytes.of_own h.x, by show n5 + 1 ≤ _; omega⟩
    have HIN := Lib.hid hIn
    have HF := Lib.hid F9
    clear hE8 hg69 F9 hIn ho9 hg9 ho8 hg8 ho7 hx7 ht7 ht8 hxw8 hxw6 hb6 ht6 hz8 hu8v hu8
    go_cut [14] from 22 (fun s14 w' => FmList w s14 w')
    case first =>
      by_cases hpos : 0 < n5
      rotate_left
      · have hd : decide ((0 : Int) < n5) = false := decide_eq_false (by omega)
        go_wp2
        go_meet
        exact ⟨_, 3, 3, _, rfl, by decide, ⟨rfl, Row.of_own HF.out.l, HIN.out _ HF.out⟩, HF.out.ext⟩
      have hd : decide ((0 : Int) < n5) = true := decide_eq_true (by omega)
      have hb10 := Bytes.of_own HF.out.c
      go_upto_region 11 with (first
        | ((with_reducible refine atSlot 81 ?_); refine wpList_of_wp rfl (owp_clone (o := ⟨some 81, _, _, _, _, _⟩) _ _ rfl Try.elB rfl rfl hb10.row (u8_oneCell _) (by omega) ?_); intro a11 c11 w11 ho11 hx11)
        | fail)
      have F11 := HF.out.al hx11
      obtain ⟨A, cur, rfl, hA, hcur, -, -⟩ := own_some ho11 hpos
      have hlt5 : ∀ b, blockOf a5 = some b → b < A := fun b hb => Nat.lt_of_lt_of_le (HF.out.lt5 b hb) hA
      have hlt9 : ∀ b, blockOf a9 = some b → b < A := fun b hb => Nat.lt_of_lt_of_le (HF.out.lt9 b hb) hA
      have hgA : w.heap.size < A := Nat.lt_of_lt_of_le HF.out.tp.lt hA
      have hlsA : ls < A := Nat.lt_of_lt_of_le hls hA
      have hB10 : w.heap.size + 1 ≤ w10.heap.size := HF.out.tp.lt
      have hoA : ∀ w', w11.grownBy w' (some w.heap.size) → w'.ownsRow w10.heap.size 5 1 (.slice (some ⟨A, 0, none⟩) n5 c11) n5 (lE.map Proofs.Ytcljlglmnagodaa.u8) := fun w' h => own_kept ho11 h hB10
      clear hb10 hcur hd
      refine wp_region_z (fun w' => w11.grownBy w' (some w.heap.size)) (grown_drewO w11 _) [12] (.qs [0, 1, 2, 3, 7] (.l 4 (.qs [5, 6] (.l 8 (.qs [9, 10, 11] (.l 12 .nil)))))) (by kernel_rfl) (by kernel_rfl) ?_
      iterate 5 ((refine wpZ_q rfl rfl _ (fun w' hx' => by go_simp; try rfl) ?_; go_simp))
      refine wpZ_l rfl rfl ?_
      go_simp
      have ht12 := F11.tp.drew
      refine (Next_any w.heap.size (k3 + 1) n5 _ ht12 (by omega) (by omega)).mono ?_
      rintro e w12 ⟨u, rfl, hu, ht13, hg13⟩
      have hu' : u < n5 := by unfold Below1 at hu; omega
      have hg12 : w11.grownBy w12 (some w.heap.size) := grown_trans' (grown_drewO w11 _) hg13
      refine ⟨hg12, ?_⟩
      obtain ⟨x, hx⟩ : ∃ x, lE[u]? = some x := ⟨_, List.getElem?_eq_getElem (by have := HL5.out; omega)⟩
      have hcx : ∀ w', w11.grownBy w' (some w.heap.size) → w'.cell? ⟨A, u, none⟩ = some (.int .u8 (x.toNat : Int)) := fun w' h => by
        have h1 := (Bytes.of_own (hoA w' h)).cellAt u (by have := HL5.out; omega)
        rw [Nat.zero_add] at h1
        rw [h1]
        obtain ⟨hl', he⟩ := List.getElem?_eq_some_iff.1 hx
        rw [he]
      clear hu
      go_simp
      refine wpZ_ixp rfl rfl (.tmp 82) (.tmp 86) rfl Try.elB rfl u rfl rfl hu' ?_
      ((refine wpZ_q rfl rfl _ (fun w' hx' => by go_simp; try rfl) ?_; go_simp))
      refine wpZ_l rfl rfl ?_
      go_simp
      refine (Next_any w.heap.size (k3 + 1 + 1) 8 _ ht13 (by omega) (by omega)).mono ?_
      rintro e w14 ⟨u2, rfl, hu2, ht14, hg14⟩
      have hu2' : u2 ≤ 7 := by unfold Below1 at hu2; omega
      have hg114 := grown_trans' hg12 hg14
      refine ⟨hg114, ?_⟩
      go_simp
      ((refine wpZ_q rfl rfl _ (fun w' hx' => by go_simp; try rfl) ?_; go_simp))
      ((refine wpZ_q rfl rfl _ (fun w' hx' => by go_simp; try rfl) ?_; go_simp))
      refine wpZ_ixp rfl rfl (.tmp 82) (.tmp 86) rfl Try.elB rfl u rfl rfl hu' ?_
      go_simp
      have hc14 := hcx w14 hg114
      have hf14 : w14.frozen? ⟨A, u, none⟩ = false := by simpa using (own_there (hoA w14 hg114) (i := u) (m := 1) (by omega) 0 (by decide)).2
      refine wpZ_l rfl rfl ?_
      go_simp
      refine wpZ_nil ?_
      go_simp
      clear hc14 hf14
      obtain ⟨y, hy⟩ := u8_bits .xor (x.toNat : Int) (IntKind.u8.wrap ((2 : Int) ^ u2))
      rw [hy]
      have hg15 := grown_setCell' w14 A u (u8 y)
      have F15 := (F11.nx hg114 ht14 (Nat.le_refl _)).put hg15 (Nat.le_refl _) hgA hlt5 hlt9 hlsA
      have ho15 := own_setCell (j := u) (v := u8 y) (hoA w14 hg114) (by omega)
      rw [← List.map_set] at ho15
      have HO15 := Lib.hid ho15
      have HF15 := Lib.hid F15
      have HB := Lib.hid hB10
      clear hg15 F15 ho15 hy hcx hoA hg114 hg12 hg14 hg13 ht12 ht13 ht14 F11 hx11 ho11 hlt5 hlt9 hgA hlsA hA hu2
      generalize w14.setCell ⟨A, u, none⟩ (u8 y) = w15 at HO15 HF15 ⊢
      have hb15 := Bytes.of_own HF15.out.c
      go_wp2_with (first
        | (go_at_call 25; (with_reducible refine (Next_any w.heap.size _ n5 _ HF15.out.tp (by omega) (by omega)).mono ?_); rintro e w16 ⟨u3, rfl, hu3, ht16, hg16⟩; have hu3' : u3 < n5 := (by unfold Below1 at hu3; omega); have F16 := HF15.out.nx hg16 ht16 (Nat.le_refl _); have ho16 := own_kept HO15.out hg16 HB.out; have hb16 := Bytes.of_own F16.c; clear hb15 hu3)
        | ((with_reducible refine atSlot 101 ?_); refine wpList_of_wp rfl (owp_sl_hi (o := ⟨some 101, _, _, _, _, _⟩) _ _ rfl Try.elB rfl hb16.row u3 rfl rfl (by omega) ?_); intro a17 hr17; have hb17 := Bytes.take hr17)
        | ((with_reducible refine atSlot 102 ?_); refine wpList_of_wp rfl (owp_clone (o := ⟨some 102, _, _, _, _, _⟩) _ _ rfl Try.elB rfl rfl hb17.row (u8_oneCell _) (by omega) ?_); intro a18 c18 w18 ho18 hx18; have F18 := F16.al hx18; have hz18 := F18.tp.lt)
        | ((with_reducible refine atSlot 104 ?_); have hrow := Row.new w18 #[.slice (some ⟨A, 0, none⟩) n5 c11, .slice a18 u3 c18] 26 2 1 rfl (by decide); refine wpList_of_wp rfl (owp_app (o := ⟨some 104, _, _, _, _, _⟩) _ _ rfl Try.elBs rfl (own_ext F18.l (Ext.alloc' w18 _)) rfl hrow (fun q hq => bt_oneCell [⟨some ⟨A, 0, none⟩, n5, c11, []⟩, ⟨a18, u3, c18, []⟩] q (by simpa [Bt.v] using hq)) (by omega) (by unfold maxLen; omega) (Nat.le_trans hz18 (Ext.alloc' w18 _).size) ?_); intro a19 c19 w19 ho19 hg19)
        | fail)
      go_meet
      have hE18 := Ext.alloc' w18 (.cells #[.slice (some ⟨A, 0, none⟩) n5 c11, .slice a18 u3 c18] 26)
      have FE := F18.al hE18
      have keep : ∀ {m c : Nat} {a : Option Addr} {B : Nat} {xs : List Value}, (w18.alloc (.cells #[.slice (some ⟨A, 0, none⟩) n5 c11, .slice a18 u3 c18] 26)).ownsRow B 5 1 (.slice a m c) m xs → w19.ownsRow B 5 1 (.slice a m c) m xs := fun h => own_app_other h FE.l (by decide) hg19
      have hx19 : Ext w w19 := FE.ext.grown hg19 FE.ext.size (fun k hk => by have := (own_block FE.l k hk).1; omega)
      refine ⟨a19, 5, c19, [⟨ra, rn, rc, rl⟩, ⟨a5, n5, c5, lE⟩, ⟨a9, n5 + 1, c9, lE ++ [UInt8.ofNat u8v]⟩, ⟨some ⟨A, 0, none⟩, n5, c11, lE.set u y⟩, ⟨a18, u3, c18, lE.take u3⟩], rfl, by decide, ⟨rfl, ?_, fun k hk => ?_⟩, hx19⟩
      · have h := Row.of_own ho19
        simpa [Bt.v] using h
      · simp only [List.mem_cons, List.not_mem_nil, or_false] at hk
        rcases hk with rfl | rfl | rfl | rfl | rfl
        · exact ⟨HR.out.ext hx19, by show rn ≤ _; omega⟩
        · exact ⟨Bytes.of_own (keep FE.c), by show n5 ≤ _; omega⟩
        · exact ⟨Bytes.of_own (keep FE.x), by show n5 + 1 ≤ _; omega⟩
        · exact ⟨Bytes.of_own (keep (own_ext (own_ext ho16 hx18) hE18)), by show n5 ≤ _; omega⟩
        · exact ⟨Bytes.of_own (keep (own_ext ho18 hE18)), by show u3 ≤ _; omega⟩
    case rest =>
      obtain ⟨la, ln, lc, LL, rfl, hln, hLL, hxw⟩ := hcut
      rename World => w20
      clear hls
      go_wp2
      go_loopw [16] (FmRel w20 ln) (fun i _ => ln - (intOf i).toNat)
      case atStart => exact ⟨0, rfl, Nat.zero_le _, Below.refl _ _⟩
      case round =>
        obtain ⟨j, rfl, hj, hx⟩ := hrel
        rename World => w21
        by_cases hjn : j < ln
        rotate_left
        · obtain rfl : j = ln := by omega
          go_wp2
          go_ret
          exact ⟨rfl, hxw.trans' hx⟩
        obtain ⟨k, hk, hkI⟩ := hLL.get hjn
        have hB := hLL.ext hx
        have hkb : ∀ w', Ext w20 w' → Bytes w' k.a k.n k.c k.l := fun w' h => (hkI.ext h).1
        have hkn : k.n ≤ 140737488355328 := hkI.2
        have hrw : ∀ w', Ext w20 w' → Row w' la ln lc 1 (LL.map Bt.v) := fun w' h => (hLL.ext h).2.1
        have HK := Lib.hid hk
        have HKB := Lib.hid hkb
        have HLL := Lib.hid hrw
        obtain ⟨AT, hAT⟩ : ∃ AT : Int, (((j : Int) == 0) = true ∧ AT = base) ∨ (((j : Int) == 0) = false ∧ AT = N0) := by
          by_cases h : j = 0
          · exact ⟨_, .inl ⟨(eqI (x := (j : Int)) (y := 0) (by omega)).1, rfl⟩⟩
          · exact ⟨_, .inr ⟨(neI (x := (j : Int)) (y := 0) (by omega)).1, rfl⟩⟩
        obtain ⟨D, er, hdec⟩ : ∃ D er, decDRes AT k.l = (D, er) := ⟨_, _, rfl⟩
        have hfew := decDRes_few AT k.l
        rw [hdec] at hfew
        obtain ⟨p1, p2⟩ := eqI (x := er) (y := er) rfl
        have HDC := Lib.hid hdec
        have HFW := Lib.hid hfew
        clear hk hkb hkI hB hdec hfew hLL hrw
        rcases hAT with ⟨q1, rfl⟩ | ⟨q1, rfl⟩
        all_goals
          go_wp2_with (first
            | ((with_reducible refine atSlot 119 ?_); refine wpList_of_wp rfl (owp_ix (o := ⟨some 119, _, _, _, _, _⟩) _ _ rfl Try.elBs rfl (HLL.out _ hx) j rfl rfl hjn ?_); intro b2 o2 hc2; have hd2 := bt_cell HK.out hc2; clear hc2)
            | (go_at_call 47; (with_reducible refine (Decode_any _ k.a k.n k.c k.l _ (HKB.out _ hx) hkn HDC.out).mono ?_); rintro e w22 ⟨a22, n22, c22, L22, rfl, hO22, hD22, -, hx22⟩; have hy22 := hx.trans' hx22; clear hd2)
            | ((with_reducible refine atSlot 128 ?_); refine wpList_of_wp rfl (owp_ix (o := ⟨some 128, _, _, _, _, _⟩) _ _ rfl Try.elBs rfl (HLL.out _ hy22) j rfl rfl hjn ?_); intro b3 o3 hc3; have hd3 := bt_cell HK.out hc3; clear hc3)
            | (go_at_call 48; (with_reducible refine (refDecode_any _ k.a k.n k.c k.l _ (HKB.out _ hy22) hkn HDC.out).mono ?_); rintro e w23 ⟨a23, n23, c23, L23, rfl, hO23, hD23, -, hx23⟩; have hS := Same_any a22 n22 c22 a23 n23 c23 L22 L23 w23 (hO22.ops.ext hx23) hO23.ops (by rw [hD22, hD23]) (by rw [← hO22.len, ← List.length_map (f := Od.d), hD22]; have := HFW.out; omega); have HS := Lib.hid hS; clear hS hD22 hD23 hO22 hO23 hd3)
            | (go_at_call 29; (with_reducible refine HS.out.mono ?_); rintro e w24 ⟨rfl, hx24⟩)
            | fail)
          go_roundw
          case rel => exact ⟨j + 1, by go_num, by omega, (hy22.trans' hx23).trans' hx24⟩
          case measure => simp [intOf]; omega
end Go.Proofs.Ytcljlglmnagodaa
