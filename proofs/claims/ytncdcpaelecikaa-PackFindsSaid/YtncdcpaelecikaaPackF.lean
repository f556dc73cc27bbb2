/-
  The reference's Encode.
-/
import Derived.Test.YtncdcpaelecikaaPackE
import Derived.Test.YtncdcpaelecikaaOwnF
namespace Go.Proofs.Ytncdcpaelecikaa
open Go.RowKit

def frames (L : List Ck) : List UInt8 := L.flatMap fun k => frameB k.s k.z.toNat k.l
def lessB (x y : Ck) : Bool := decide (x.s < y.s ∨ x.s = y.s ∧ x.z < y.z)
def behindB : Option Ck → Ck → Bool
  | none, _ => true
  | some x, k => lessB x k
/-- The first error of a list of chunks, or 0. -/
def errAt : Option Ck → List Ck → Int
  | _, [] => 0
  | p, k :: L => if rightB k.s k.z k.l = false then 290 else if behindB p k = false then 291 else errAt (some k) L
def prevOf (L : List Ck) (i : Nat) : Option Ck := if i = 0 then none else L[i - 1]?

theorem errAt_drop {L : List Ck} {i : Nat} {k : Ck} (h : L[i]? = some k) (p : Option Ck) :
    errAt p (L.drop i) = if rightB k.s k.z k.l = false then 290 else if behindB p k = false then 291 else errAt (some k) (L.drop (i + 1)) := by
  obtain ⟨hl, rfl⟩ := List.getElem?_eq_some_iff.1 h
  rw [List.drop_eq_getElem_cons hl]; rfl
theorem prevOf_succ (L : List Ck) (i : Nat) : prevOf L (i + 1) = L[i]? := by simp [prevOf]
theorem frames_take {L : List Ck} {i : Nat} {k : Ck} (h : L[i]? = some k) : frames (L.take (i + 1)) = frames (L.take i) ++ frameB k.s k.z.toNat k.l := by
  unfold frames
  rw [List.take_add_one, h]
  simp
theorem frames_len_take (L : List Ck) (i : Nat) : (frames (L.take i)).length ≤ (frames L).length := by
  have h : frames L = frames (L.take i) ++ frames (L.drop i) := by
    unfold frames; rw [← List.flatMap_append, List.take_append_drop]
  rw [h, List.length_append]; omega

theorem range_get {w : World} {b o i : Nat} {L : List Ck} {k : Ck} (hk : L[i]? = some k) (hc : ∀ j, j < 3 → w.cell? ⟨b, o + j, none⟩ = (L.flatMap Ck.cells)[i * 3 + j]?) :
    w.rangeAt b o k.cells := fun j v hj => by
  have hlt : j < 3 := (List.getElem?_eq_some_iff.1 hj).1
  exact (hc j hlt).trans ((cells_get hk j hlt).trans hj)

theorem Frame_at (s : Nat) (Z : Int) (a : Option Addr) (n c : Nat) (l : List UInt8) (w : World) (hb : Bytes w a n c l) (hr : rightB s Z l = true) (hs : (s : Int) ≤ 18446744073709551615) :
    Calls Try.prog 21 #[.agg #[.int .u64 s, .int .i64 Z, .slice a n c]] w (fun e w' => NewBytes w (frameB s Z.toNat l) e w') := by
  simp only [rightB, Bool.and_eq_true, decide_eq_true_eq] at hr
  have hl := hb.len
  obtain ⟨z, rfl⟩ : ∃ z : Nat, Z = z := ⟨Z.toNat, by omega⟩
  exact Frame_any s z a n c l w hb (by omega) hs (by omega)
theorem frameB_len (s z : Nat) (l : List UInt8) (hs : (s : Int) ≤ 18446744073709551615) (hz : z ≤ 8192) : 1 ≤ (frameB s z l).length ∧ (frameB s z l).length ≤ 21 + l.length := by
  have he1 := enc_le10 (v := s) (by omega)
  have he2 := enc_le10 (v := z) (by omega)
  simp [frameB]
  omega
/-- A load of a struct. -/
theorem wpX_ld {P : Program} {ops : Array Oper} {Q : Act → World → Prop} {k : Nat} {l : List (Nat × Bool)} {a : Act} {w : World} {o : Oper} (ho : ops[k]? = some o) (hw : Region.wanted o (yielded ops a.tmps) = true) (xO : Operand) {ty : TypeId}
    (hop : o.op = .load ty xO) (b o' : Nat) (hx : a.eval xO = .pointer (some ⟨b, o', none⟩)) (cs : List Value) (d : TypeDesc) (hc : ∀ w', Ext w w' → w'.rangeAt b o' cs)
    (hu : P.underlying ty = some d) (hd : d.isRow = true) (hi : (P.info? ty).map (·.size) = some cs.length)
    (h : wpX P ops Q l (a.put o.dst (.agg cs.toArray)) w) : wpX P ops Q ((k, false) :: l) a w :=
  wpX_q ho hw (.agg cs.toArray) (fun w' hx' => by
    unfold execOp
    simp only [hop, hx, Instr.loadAt, Instr.sureAddr, Sem.run_bind, Sem.run_pure, Result.andThen_ok, run_loadVar_mid w' b o' ty cs d (hc w' hx') hu hd hi]) h
theorem range_id {w : World} {b o i : Nat} {L : List Ck} {k : Ck} (hk : L[i]? = some k) (hc : ∀ j, j < 3 → ∀ w', Ext w w' → w'.cell? ⟨b, o + j, none⟩ = (L.flatMap Ck.cells)[i * 3 + j]?) :
    ∀ w', Ext w w' → w'.rangeAt b o [.int .u64 k.s, .int .i64 k.z] := fun w' hx j v hj => by
  have hlt : j < 2 := (List.getElem?_eq_some_iff.1 hj).1
  refine (hc j (by omega) w' hx).trans ((cells_get hk j (by omega)).trans ?_)
  rcases j with _ | _ | j
  · exact hj
  · exact hj
  · omega

def magicB : List UInt8 := [83, 89, 80, 75]
def bodyB (L : List Ck) : List UInt8 := magicB ++ frames L ++ [0] ++ enc L.length
def packB (L : List Ck) : List UInt8 := bodyB L ++ enc (fp (bodyB L))
theorem body_row {L : List Ck} {j : Nat} (h : L.length = j) : ((magicB ++ frames L).map u8 ++ [Value.int .u8 0]) ++ (enc j).map u8 = (bodyB L).map u8 := by
  rw [bodyB, h]; simp [u8]
/-- What Encode answers: bytes, error. -/
def encRes (L : List Ck) : List UInt8 × Int := if errAt none L ≠ 0 then ([], errAt none L) else if 1048576 < (packB L).length then ([], 292) else (packB L, 0)
def EncPost (w : World) (L : List Ck) (e : Ending) (w' : World) : Prop :=
  ∃ (a : Option Addr) (n c : Nat), e = .returned (.tuple #[.slice a n c, .int .i64 (encRes L).2]) ∧ w'.ownsRow w.heap.size 5 1 (.slice a n c) n ((encRes L).1.map u8) ∧ Ext w w'

theorem enc_err {L : List Ck} {e : Int} (h : errAt none L = e) (h0 : e ≠ 0) : encRes L = ([], e) := by
  unfold encRes; rw [h, if_pos h0]
theorem EncPost.err {w w' : World} {L : List Ck} {e : Int} (h : errAt none L = e) (h0 : e ≠ 0) (hx : Ext w w') : EncPost w L (.returned (.tuple #[.slice none 0 0, .int .i64 e])) w' :=
  ⟨none, 0, 0, by rw [enc_err h h0], by rw [enc_err h h0]; exact own_nil _ _ _ _, hx⟩
theorem EncPost.big {w w' : World} {L : List Ck} {x : Nat} (h : errAt none L = 0) (hl : (packB L).length = x) (hx : 1048576 < x) (hw : Ext w w') : EncPost w L (.returned (.tuple #[.slice none 0 0, .int .i64 292])) w' := by
  have e : encRes L = ([], 292) := by unfold encRes; rw [h, if_neg (by decide), if_pos (by omega)]
  exact ⟨none, 0, 0, by rw [e], by rw [e]; exact own_nil _ _ _ _, hw⟩
theorem EncPost.ok {w w' : World} {L : List Ck} {x c : Nat} {a : Option Addr} (h : errAt none L = 0) (hl : (packB L).length = x) (hx : x ≤ 1048576) (ho : w'.ownsRow w.heap.size 5 1 (.slice a x c) x ((packB L).map u8)) (hw : Ext w w') :
    EncPost w L (.returned (.tuple #[.slice a x c, .int .i64 0])) w' := by
  have e : encRes L = (packB L, 0) := by unfold encRes; rw [h, if_neg (by decide), if_neg (by omega)]
  exact ⟨a, x, c, by rw [e], by rw [e]; exact ho, hw⟩
def REncRel (w : World) (L : List Ck) (out i : Value) (wr : World) : Prop :=
  ∃ (j n c : Nat) (a : Option Addr), i = .int .i64 j ∧ out = .slice a n c ∧ j ≤ L.length ∧ OwnF wr w.heap.size 5 1 a n c ((magicB ++ frames (L.take j)).map u8) ∧
    errAt none L = errAt (prevOf L j) (L.drop j) ∧ Ext w wr

theorem Try.elC : Elem Try.prog 22 46 3 40 (.agg #[.int .u64 0, .int .i64 0, .slice none 0 0]) := ⟨Try.underlying22, by kernel_rfl, rfl, by decide⟩

set_option maxRecDepth 100000 in
set_option maxHeartbeats 4000000 in
theorem refEncode_any (a : Option Addr) (n c : Nat) (L : List Ck) (w : World) (hL : Chunks w a n c L) (hn : n ≤ 1000000000000) (hT : (frames L).length ≤ 100000000000000) :
    Calls Try.prog 13 #[.slice a n c] w (EncPost w L) := by
  have HL := Lib.hid hL.1
  have hcv := Lib.run_convert_bytes_const w 28 5 #[.int .u8 83, .int .u8 89, .int .u8 80, .int .u8 75] 4 4 Try.underlying28 Try.underlying5
  go_enter Try.func13, Try.ntmps13
  go_wp2
  clear hcv
  go_loopw [4, 5] (REncRel w L) (fun _ i _ => n - (intOf i).toNat)
  case atStart => exact ⟨0, 4, 4, _, rfl, rfl, by omega, .inr ⟨rfl, by simpa [magicB, frames, u8] using Row.newF w #[.int .u8 83, .int .u8 89, .int .u8 80, .int .u8 75] 5 4 1 (4, 5) rfl (by decide)⟩, rfl, Ext.alloc' _ _⟩
  case round =>
    obtain ⟨j, m, d, q, rfl, rfl, hj, ho, he, hx⟩ := hrel
    rename World => w1
    have hj' : j ≤ n := by have := HL.out; omega
    have HE := Lib.hid he
    clear he
    by_cases hjn : j < n
    · obtain ⟨k, hk⟩ : ∃ k, L[j]? = some k := ⟨_, List.getElem?_eq_getElem (by have := HL.out; omega)⟩
      have HK := Lib.hid hk
      have hc1 := hL.ext hx
      obtain ⟨hkb, hkn, hks⟩ := hc1.2.2 k (List.mem_of_getElem? hk)
      have hr1 := hc1.2.1
      clear hk hc1
      by_cases hright : rightB k.s k.z k.l = true
      · have HR := Lib.hid hright
        clear hright
        have hlm := ho.row.len
        simp only [List.length_map, List.length_append, Nat.mul_one] at hlm
        have hfl := frames_len_take L j
        have hmag : magicB.length = 4 := rfl
        have hkz : k.z.toNat ≤ 8192 ∧ k.l.length ≤ 8192 := by
          have h := HR.out
          simp only [rightB, Bool.and_eq_true, decide_eq_true_eq] at h
          omega
        have hfb := frameB_len k.s k.z.toNat k.l hks hkz.1
        by_cases hj0 : j = 0
        · subst hj0
          go_wp2_with (first
            | (refine wpList_ix rfl (.tmp 14) (.tmp 15) rfl Try.elC rfl hr1 0 rfl rfl hjn ?_; intro b o hc; have hrg := range_get HK.out hc)
            | (refine wpList_load_mid rfl 46 (.tmp 16) rfl b o rfl k.cells _ hrg Try.underlying46 rfl (by kernel_rfl) ?_; simp only [Ck.cells])
            | (go_at_call 35; (with_reducible refine (refRight_any k.s k.z k.a k.n k.c k.l _ hkb hkn).mono ?_); rw [HR.out]; rintro e w2 ⟨rfl, hx2⟩))
          refine wp_region_x [(0, false), (1, false), (2, false), (3, false), (4, false), (5, false), (6, false), (7, false), (8, false), (9, false), (10, false), (11, false), (12, false), (13, false), (14, true), (15, false), (16, false)] (by kernel_rfl) (by kernel_rfl) ?_
          iterate 14 (first | ((refine wpX_q rfl rfl _ (fun w' hx' => by go_simp; try rfl) ?_; go_simp)) | ((refine wpX_skip rfl rfl ?_; go_simp)))
          refine wpX_lskip rfl rfl ?_
          go_simp
          iterate 2 (first | ((refine wpX_q rfl rfl _ (fun w' hx' => by go_simp; try rfl) ?_; go_simp)) | ((refine wpX_skip rfl rfl ?_; go_simp)))
          refine wpX_nil ?_
          have hr4 := (hr1.ext hx2).ext (Ext.drew' _)
          go_wp2_with (first
            | (refine wpList_ix rfl (.tmp 38) (.tmp 39) rfl Try.elC rfl hr4 0 rfl rfl hjn ?_; intro b5 o5 hc5; have hrg5 := range_get HK.out hc5)
            | (refine wpList_load_mid rfl 46 (.tmp 40) rfl b5 o5 rfl k.cells _ hrg5 Try.underlying46 rfl (by kernel_rfl) ?_; simp only [Ck.cells])
            | (go_at_call 21; (with_reducible refine (Frame_at k.s k.z k.a k.n k.c k.l _ ((hkb.ext hx2).ext (Ext.drew' _)) HR.out hks).mono ?_); rintro e w3 ⟨a3, n3, c3, rfl, ho3, hx3⟩; have hl3 := own_len ho3; have ho' := ((ho.ext hx2).ext (Ext.drew' _)).ext hx3; have hx13 : Ext w w3 := ((hx.trans' hx2).trans' (Ext.drew' _)).trans' hx3)
            | (at_builtin; refine wpList_appF (o := ⟨some 43, _, _, _, _, _⟩) rfl _ _ rfl Try.elB rfl ho' rfl (Row.of_own ho3) (u8_oneCell _) (by omega) (by omega) (by unfold maxLen; omega) hx13.size ?_; intro a4 c4 w4 ho4 hb4))
          go_roundw
          case rel => exact ⟨0 + 1, _, c4, a4, by go_num, rfl, by have := HL.out; omega, .inl (by rw [frames_take HK.out, ← List.append_assoc, List.map_append]; exact ho4), by rw [HE.out, errAt_drop HK.out, prevOf_succ, HK.out, HR.out]; rfl, hx13.trans hb4⟩
          case measure => simp [intOf]; omega
        · obtain ⟨k0, hk0⟩ : ∃ k0, L[j - 1]? = some k0 := ⟨_, List.getElem?_eq_getElem (by have := HL.out; omega)⟩
          have HK0 := Lib.hid hk0
          clear hk0
          have hj1 : 0 < j := by omega
          have hprev : prevOf L j = some k0 := by unfold prevOf; rw [if_neg hj0]; exact HK0.out
          have HP := Lib.hid hprev
          clear hprev
          go_wp2_with (first
            | (refine wpList_ix rfl (.tmp 14) (.tmp 15) rfl Try.elC rfl hr1 j rfl rfl hjn ?_; intro b o hc; have hrg := range_get HK.out hc)
            | (refine wpList_load_mid rfl 46 (.tmp 16) rfl b o rfl k.cells _ hrg Try.underlying46 rfl (by kernel_rfl) ?_; simp only [Ck.cells])
            | (go_at_call 35; (with_reducible refine (refRight_any k.s k.z k.a k.n k.c k.l _ hkb hkn).mono ?_); rw [HR.out]; rintro e w2 ⟨rfl, hx2⟩))
          refine wp_region_x [(0, false), (1, false), (2, false), (3, false), (4, false), (5, false), (6, false), (7, false), (8, false), (9, false), (10, false), (11, false), (12, false), (13, false), (14, true), (15, false), (16, false)] (by kernel_rfl) (by kernel_rfl) ?_
          have hr4 := (hr1.ext hx2).ext (Ext.drew' _)
          iterate 6 ((refine wpX_q rfl rfl _ (fun w' hx' => by go_simp; try rfl) ?_; go_simp))
          refine wpX_ix rfl rfl (.tmp 23) (.tmp 25) rfl Try.elC rfl hr4 (j - 1) rfl (by rw [IntKind.wrap_i64]; omega) (by omega) ?_
          intro b6 o6 hc6
          have hi6 := range_id HK0.out hc6
          ((refine wpX_q rfl rfl _ (fun w' hx' => by go_simp; try rfl) ?_; go_simp))
          refine wpX_ld rfl rfl (.tmp 27) rfl b6 o6 rfl [.int .u64 k0.s, .int .i64 k0.z] _ hi6 Try.underlying44 rfl (by kernel_rfl) ?_
          ((refine wpX_q rfl rfl _ (fun w' hx' => by go_simp; try rfl) ?_; go_simp))
          ((refine wpX_q rfl rfl _ (fun w' hx' => by go_simp; try rfl) ?_; go_simp))
          refine wpX_ix rfl rfl (.tmp 29) (.tmp 30) rfl Try.elC rfl hr4 j rfl rfl hjn ?_
          intro b7 o7 hc7
          have hi7 := range_id HK.out hc7
          ((refine wpX_q rfl rfl _ (fun w' hx' => by go_simp; try rfl) ?_; go_simp))
          refine wpX_ld rfl rfl (.tmp 32) rfl b7 o7 rfl [.int .u64 k.s, .int .i64 k.z] _ hi7 Try.underlying44 rfl (by kernel_rfl) ?_
          refine wpX_l rfl rfl ?_
          go_simp
          refine (Less_any k0.s k.s k0.z k.z _).mono ?_
          have eless : decide (k0.s < k.s ∨ k0.s = k.s ∧ k0.z < k.z) = lessB k0 k := rfl
          rw [eless]
          clear eless
          by_cases hless : lessB k0 k = true
          · rw [hless]
            have HS := Lib.hid hless
            clear hless
            rintro e w5 ⟨rfl, hx5⟩
            refine ⟨hx5, ?_⟩
            go_simp
            iterate 2 ((refine wpX_q rfl rfl _ (fun w' hx' => by go_simp; try rfl) ?_; go_simp))
            refine wpX_nil ?_
            have hr8 := hr4.ext hx5
            go_wp2_with (first
              | (refine wpList_ix rfl (.tmp 38) (.tmp 39) rfl Try.elC rfl hr8 j rfl rfl hjn ?_; intro b9 o9 hc9; have hrg9 := range_get HK.out hc9)
              | (refine wpList_load_mid rfl 46 (.tmp 40) rfl b9 o9 rfl k.cells _ hrg9 Try.underlying46 rfl (by kernel_rfl) ?_; simp only [Ck.cells])
              | (go_at_call 21; (with_reducible refine (Frame_at k.s k.z k.a k.n k.c k.l _ (((hkb.ext hx2).ext (Ext.drew' _)).ext hx5) HR.out hks).mono ?_); rintro e w3 ⟨a3, n3, c3, rfl, ho3, hx3⟩; have hl3 := own_len ho3; have ho' := (((ho.ext hx2).ext (Ext.drew' _)).ext hx5).ext hx3; have hx13 : Ext w w3 := (((hx.trans' hx2).trans' (Ext.drew' _)).trans' hx5).trans' hx3)
              | (at_builtin; refine wpList_appF (o := ⟨some 43, _, _, _, _, _⟩) rfl _ _ rfl Try.elB rfl ho' rfl (Row.of_own ho3) (u8_oneCell _) (by omega) (by omega) (by unfold maxLen; omega) hx13.size ?_; intro a4 c4 w4 ho4 hb4))
            go_roundw
            case rel => exact ⟨j + 1, _, c4, a4, by go_num, rfl, by have := HL.out; omega, .inl (by rw [frames_take HK.out, ← List.append_assoc, List.map_append]; exact ho4), by rw [HE.out, errAt_drop HK.out, prevOf_succ, HK.out, HR.out, HP.out]; simp only [behindB, HS.out]; rfl, hx13.trans hb4⟩
            case measure => simp [intOf]; omega
          · have hless' := Bool.eq_false_iff.2 hless
            rw [hless']
            have HS := Lib.hid hless'
            clear hless hless'
            rintro e w5 ⟨rfl, hx5⟩
            refine ⟨hx5, ?_⟩
            go_simp
            iterate 2 ((refine wpX_q rfl rfl _ (fun w' hx' => by go_simp; try rfl) ?_; go_simp))
            refine wpX_nil ?_
            have e291 : errAt none L = 291 := by rw [HE.out, errAt_drop HK.out, HR.out, HP.out]; simp only [behindB, HS.out]; rfl
            go_wp2
            go_ret2
            exact EncPost.err e291 (by decide) (((hx.trans' hx2).trans' (Ext.drew' _)).trans' hx5)
      · have hright' := Bool.eq_false_iff.2 hright
        have HR := Lib.hid hright'
        clear hright hright'
        go_wp2_with (first
          | (refine wpList_ix rfl (.tmp 14) (.tmp 15) rfl Try.elC rfl hr1 j rfl rfl hjn ?_; intro b o hc; have hrg := range_get HK.out hc)
          | (refine wpList_load_mid rfl 46 (.tmp 16) rfl b o rfl k.cells _ hrg Try.underlying46 rfl (by kernel_rfl) ?_; simp only [Ck.cells])
          | (go_at_call 35; (with_reducible refine (refRight_any k.s k.z k.a k.n k.c k.l _ hkb hkn).mono ?_); rw [HR.out]; rintro e w2 ⟨rfl, hx2⟩))
        have e290 : errAt none L = 290 := by rw [HE.out, errAt_drop HK.out, HR.out]; rfl
        go_ret2
        exact EncPost.err e290 (by decide) (hx.trans' hx2)
    · obtain rfl : j = n := by omega
      have e0 : errAt none L = 0 := by rw [HE.out, List.drop_of_length_le (by have := HL.out; omega)]; rfl
      have htake : L.take j = L := List.take_of_length_le (by have := HL.out; omega)
      rw [htake] at ho
      have hlm := ho.row.len
      simp only [List.length_map, List.length_append, Nat.mul_one] at hlm
      have hmag : magicB.length = 4 := rfl
      have E0 := Lib.hid e0
      have eb := body_row HL.out
      have hp1 := enc_pos j
      have hp2 := enc_pos (fp (bodyB L))
      have hq1 := enc_le10 (v := j) (by omega)
      have hq2 := enc_le10 (v := fp (bodyB L)) (by have := fp_lt (bodyB L); omega)
      clear e0 htake
      have t1 : True := trivial
      go_wp2_with (first
          | (at_builtin; refine wpList_appF (o := ⟨some 46, _, _, _, _, _⟩) rfl _ _ rfl Try.elB rfl (ho.ext (Ext.alloc' _ _)) rfl (Row.one _ _ _) (by intro u hu; simp at hu; subst hu; rfl) (by omega) (by omega) (by unfold maxLen; omega) (by have := hx.size; simp; omega) ?_; intro a2 c2 w2 ho2 hb2; have hxa : Ext w w2 := (hx.trans' (Ext.alloc' _ _)).trans hb2)
          | (go_at_call 37; have _t := t1; (with_reducible refine (refUint_any j _ (by omega)).mono ?_); rintro e w3 ⟨a3, n3, c3, rfl, ho3, hx3⟩; clear t1; have hl3 := own_len ho3; have hxb := hxa.trans' hx3)
          | (at_builtin; refine wpList_appF (o := ⟨some 51, _, _, _, _, _⟩) rfl _ _ rfl Try.elB rfl (.inl (own_ext ho2 hx3)) rfl (Row.of_own ho3) (u8_oneCell _) (by omega) (by omega) (by unfold maxLen; omega) hxb.size ?_; intro a4 c4 w4 ho4 hb4; have hxc : Ext w w4 := hxb.trans hb4; rw [eb] at ho4; have hy4 := Bytes.of_own ho4)
          | (go_at_call 38; (with_reducible refine (refSum_any a4 _ c4 (bodyB L) _ hy4 (by omega)).mono ?_); rintro e w6 ⟨rfl, hx6⟩; have hxd := hxc.trans' hx6; have hfp := fp_lt (bodyB L))
          | (go_at_call 37; (with_reducible refine (refUint_any (fp (bodyB L)) _ (by omega)).mono ?_); rintro e w7 ⟨a7, n7, c7, rfl, ho7, hx7⟩; have hl7 := own_len ho7; have hxe := hxd.trans' hx7)
          | (at_builtin; refine wpList_appF (o := ⟨some 56, _, _, _, _, _⟩) rfl _ _ rfl Try.elB rfl (.inl (own_ext (own_ext ho4 hx6) hx7)) rfl (Row.of_own ho7) (u8_oneCell _) (by omega) (by omega) (by unfold maxLen; omega) hxe.size ?_; intro a8 c8 w8 ho8 hb8; have hxf : Ext w w8 := hxe.trans hb8; rw [← List.map_append] at ho8; have hl8 := own_len ho8))
      · go_ret2
        exact EncPost.big E0.out hl8 (by omega) hxf
      · go_ret2
        exact EncPost.ok E0.out hl8 (by omega) ho8 hxf
end Go.Proofs.Ytncdcpaelecikaa
