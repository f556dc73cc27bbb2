/-
  Make.
-/
import Derived.Test.YtkhjeeaojlaagaaDelI
import Derived.Test.YtkhjeeaojlaagaaMath1
namespace Go.Proofs.Ytkhjeeaojlaagaa
open Go.RowKit Go.WideMaps

def MkRel1 (w : World) (b : List UInt8) (i : Value) (wr : World) : Prop :=
  ∃ (j : Nat) (f : K4 → Option Value), i = .int .i64 j ∧ j ≤ b.length ∧ Places wr (w.heap.size + 1) w.heap.size b j f ∧ Ext w wr
def MkRel2 (w1 : World) (b t : List UInt8) (k : Nat) (i : Value) (wr : World) : Prop :=
  ∃ (at_ n c m : Nat) (a : Option Addr) (L : List Od), k = t.length - at_ ∧ i = .int .i64 at_ ∧ at_ ≤ t.length ∧ Bld wr w1.heap.size a n c L m ∧ Way b.length at_ (L.map Od.d) ∧ makeD b t = makeF b (t.drop at_).length (t.drop at_) (L.map Od.d) ∧ Ext w1 wr
def BestRel (w4 : World) (b T : List UInt8) (C : List Nat) (k : Nat) (i : Value) (wr : World) : Prop :=
  ∃ (q r1 r2 : Nat), k = C.length - q ∧ i = .int .i64 q ∧ q ≤ C.length ∧ wr.heap[w4.heap.size]? = some (.cells #[.int .i64 r1, .int .i64 r2] 73 (0, 0)) ∧ bestF b T (C.drop q) (r1, r2) = bestF b T C (0, 0) ∧ r1 ≤ b.length ∧ r2 ≤ T.length ∧ Ext w4 wr
theorem Bld.new (w : World) : Bld (w.alloc (.cells #[.slice none 0 0] 71)) w.heap.size none 0 0 [] (w.heap.size + 1) where
  box := heap_alloc_new w _
  len := rfl
  own := own_nil _ _ _ _
  gm := Nat.lt_succ_self _
  mh := by simp
  dat y hy := by cases hy
  low y hy := by cases hy
  last y hy := by cases hy
theorem take_four {b : List UInt8} {j : Nat} (h : j + 4 ≤ b.length) : ∃ x0 x1 x2 x3, (b.drop j).take 4 = [x0, x1, x2, x3] := by
  have hl : ((b.drop j).take 4).length = 4 := by rw [List.length_take, List.length_drop]; omega
  match (b.drop j).take 4, hl with
  | [x0, x1, x2, x3], _ => exact ⟨x0, x1, x2, x3, rfl⟩

theorem posL_length (b : List UInt8) (j : Nat) (k : List UInt8) : (posL b j k).length ≤ j := by
  unfold posL
  have := List.length_filter_le (fun i => decide ((b.drop i).take 4 = k)) (List.range j)
  rwa [List.length_range] at this
theorem MapF.otherO {κ : Type} {kv : κ → Value} {f : κ → Option Value} {w w' : World} {b : Nat} {o : Option Nat} (h : MapF kv w b f) (hg : w.grownBy w' o) (ho : ∀ g, o = some g → b ≠ g) : MapF kv w' b f := by
  cases o with
  | none => exact h.ext (Ext.of_grown hg)
  | some g => exact h.other hg (ho g rfl)
theorem Stamp.otherO {κ : Type} {kv : κ → Value} {a : κ} {st : Nat} {w w' : World} {b : Nat} {o : Option Nat} (h : Stamp kv w b a st) (hg : w.grownBy w' o) (ho : ∀ g, o = some g → b ≠ g) : Stamp kv w' b a st := by
  cases o with
  | none => exact h.ext (Ext.of_grown hg)
  | some g => exact h.other hg (ho g rfl)
/-- The operation at hand is a store into an entry. -/
theorem atEst {P : Program} {ops : Array Oper} {Q : Exit → Act → World → Prop} {rest : List Oper} {a : Act} {w : World} {t : TypeId} {x y v : Operand} {ty : TypeId} {pos : String} {af : Array Edge} {gd : Option (Nat × Bool)}
    (h : wpList P ops Q (⟨none, .entryStore t x y v, ty, pos, af, gd⟩ :: rest) a w) : wpList P ops Q (⟨none, .entryStore t x y v, ty, pos, af, gd⟩ :: rest) a w := h

set_option maxRecDepth 100000 in
set_option maxHeartbeats 4000000 in
theorem Make_any (a1 : Option Addr) (n1 c1 : Nat) (b : List UInt8) (a2 : Option Addr) (n2 c2 : Nat) (t : List UInt8) (w : World) (h1 : Bytes w a1 n1 c1 b) (h2 : Bytes w a2 n2 c2 t) (hn1 : n1 ≤ 140737488355328) (hn2 : n2 ≤ 140737488355328)
    {D : List Dp} {er : Int} (hr : makeRes b t = (D, er)) :
    Calls Try.prog 24 #[.slice a1 n1 c1, .slice a2 n2 c2] w (OpsRes w D er) := by
  have hl1 := h1.len
  have hl2 := h2.len
  unfold makeRes at hr
  rw [hl1, hl2] at hr
  by_cases hb1 : 2048 < n1
  · rw [if_pos (.inl hb1)] at hr
    cases hr
    have hd : decide ((2048 : Int) < n1) = true := decide_eq_true (by omega)
    go_enter Try.func24, Try.ntmps24
    go_wp2
    go_ret2
    exact ⟨none, 0, 0, [], rfl, Ops.nil _, rfl, Below.refl _ _⟩
  have hd1 : decide ((2048 : Int) < n1) = false := decide_eq_false (by omega)
  by_cases hb2 : 2048 < n2
  · rw [if_pos (.inr hb2)] at hr
    cases hr
    have hd : decide ((2048 : Int) < n2) = true := decide_eq_true (by omega)
    go_enter Try.func24, Try.ntmps24
    go_wp2
    go_ret2
    exact ⟨none, 0, 0, [], rfl, Ops.nil _, rfl, Below.refl _ _⟩
  have hd2 : decide ((2048 : Int) < n2) = false := decide_eq_false (by omega)
  rw [if_neg (by omega)] at hr
  simp only [Prod.mk.injEq] at hr
  obtain ⟨hD, rfl⟩ := hr
  have HD := Lib.hid hD
  have HL1 := Lib.hid hl1
  have HL2 := Lib.hid hl2
  have hm1 : n1 ≤ 2048 := by omega
  have hm2 : n2 ≤ 2048 := by omega
  clear hD hl1 hl2 hb1 hb2
  have hmm := @run_makeMap Try.prog
  go_enter Try.func24, Try.ntmps24
  go_wp2
  clear hd1 hd2 hmm
  go_loopw [7] (MkRel1 w b) (fun i _ => n1 - (intOf i).toNat)
  case atStart => exact ⟨0, _, rfl, Nat.zero_le _, Places.nil _ _ _, Ext.alloc' _ _⟩
  case round =>
    obtain ⟨j, f, rfl, hj, hP, hx⟩ := hrel
    rename World => w1
    have hjn : j ≤ n1 := by have := HL1.out; omega
    clear hj
    by_cases hlt : j + 4 ≤ n1
    · obtain ⟨x0, x1, x2, x3, hkey⟩ := take_four (b := b) (j := j) (by have := HL1.out; omega)
      have HK := Lib.hid hkey
      have hb1 := h1.ext hx
      have hd : decide ((j : Int) + 4 ≤ n1) = true := decide_eq_true (by omega)
      clear hkey
      obtain ⟨k, hk⟩ : ∃ k : K4, k = ⟨[x0, x1, x2, x3], rfl⟩ := ⟨_, rfl⟩
      obtain ⟨a0, n0, c0, hv, ho, hz0⟩ := hP.row k
      have hn0 : n0 ≤ 2048 := by have := ho.1; rw [posV_length] at this; have := posL_length b j k.1; omega
      have hkv : Proofs.Ytkhjeeaojlaagaa.kv4 k = .agg #[.int .u8 (x0.toNat : Int), .int .u8 (x1.toNat : Int), .int .u8 (x2.toNat : Int), .int .u8 (x3.toNat : Int)] := by rw [hk]; rfl
      have HKK := Lib.hid hk
      have HKV := Lib.hid hkv
      have HV := Lib.hid hv
      have HZ := Lib.hid hz0
      have hsz := hx.size
      have hmb := hP.map.lt
      clear hk hkv hv hz0
      go_wp2_with (first
        | ((with_reducible refine atSlot 34 ?_); refine wpList_of_wp rfl (owp_sl_lo (o := ⟨some 34, _, _, _, _, _⟩) _ _ rfl Try.elB rfl hb1.row j rfl rfl (by omega) ?_); intro a4 hr4; obtain ⟨bb, bo, rfl, hrg⟩ := (Bytes.drop hr4).four (by omega); rw [HK.out] at hrg; clear hr4)
        | ((with_reducible refine atSlot 35 ?_); refine wpList_of_wp rfl (owp_arr (o := ⟨some 35, _, _, _, _, _⟩) _ rfl Try.underlying69 rfl (by omega) ?_))
        | ((with_reducible refine atSlot 36 ?_); refine wpList_of_wp rfl (wp_load_mid (op := ⟨some 36, _, _, _, _, _⟩) 69 _ rfl bb bo rfl _ _ hrg Try.underlying69 rfl (by kernel_rfl) ?_); simp only [List.map_cons, List.map_nil]; simp only [Proofs.Ytkhjeeaojlaagaa.u8])
        | ((with_reducible refine atSlot 42 ?_); have E := (Ext.alloc' w1 (.cells #[.int .u8 (x0.toNat : Int), .int .u8 (x1.toNat : Int), .int .u8 (x2.toNat : Int), .int .u8 (x3.toNat : Int)] 69)).trans' (Ext.alloc' _ (.cells #[.int .i64 (j : Int)] 3)); have hrow := Row.one (w1.alloc (.cells #[.int .u8 (x0.toNat : Int), .int .u8 (x1.toNat : Int), .int .u8 (x2.toNat : Int), .int .u8 (x3.toNat : Int)] 69)) (.int .i64 (j : Int)) 3; (try simp only [World.size_alloc] at hrow); generalize ((w1.alloc _).alloc _) = w2 at E hrow ⊢; refine wpList_of_wp rfl (owp_entry (z := .slice none 0 0) (o := ⟨some 42, _, _, _, _, _⟩) Try.kv4 _ _ rfl Try.underlying68 (zero_of (by kernel_rfl) _) rfl (hP.ext E).map k HKV.out.symm ?_); intro w3 st hm3 hst hg3; rw [HV.out])
        | ((with_reducible refine atSlot 43 ?_); have ho3 := own_kept (own_ext ho E) hg3 (Nat.lt_succ_self _); have hrow3 := hrow.apart hg3 (fun p hp => by cases hp; show w1.heap.size + 1 ≠ w.heap.size; omega); refine wpList_of_wp rfl (owp_app (o := ⟨some 43, _, _, _, _, _⟩) _ _ rfl Try.elI rfl ho3 rfl hrow3 (fun u hu => by rw [List.mem_singleton] at hu; subst hu; rfl) (by omega) (by unfold maxLen; omega) (by have := E.size; have := hg3.size; omega) ?_); intro a5 c5 w5 ho5 hg5)
        | ((with_reducible refine atEst ?_); have hob := fun g (hg : blockOf a0 = some g) => (own_block ho3 g hg).1; have hm5 := hm3.otherO hg5 (fun g hg => by have := hob g hg; omega); have hst5 := hst.otherO hg5 (fun g hg => by have := hob g hg; omega); refine wpList_of_wp rfl (owp_estore (o := ⟨none, _, _, _, _, _⟩) Try.kv4 _ _ _ rfl rfl hm5 k hst5 rfl rfl ?_); intro w6 hm6 hg6)
        | fail)
      go_roundw
      case rel =>
        have hP2 := (hP.ext E).step (Nat.lt_succ_self _) (by rw [HK.out, HKK.out]) HV.out hg3 hg5 ho5 (Nat.succ_pos _) hg6 hm6
        have e2 := (hx.trans' E).grown hg3 (Nat.le_trans hsz E.size) (fun k hk => by cases hk; exact Nat.le_refl _)
        have e3 := e2.grown hg5 (Nat.le_trans hsz (Nat.le_trans E.size hg3.size)) (fun g hg => by have := hob g hg; omega)
        have e4 := e3.grown hg6 (Nat.le_trans hsz (Nat.le_trans E.size (Nat.le_trans hg3.size hg5.size))) (fun k hk => by cases hk; exact Nat.le_refl _)
        exact ⟨j + 1, _, by go_num, by have := HL1.out; omega, hP2, e4⟩
      case measure => simp [intOf]; omega
    · have hd : decide ((j : Int) + 4 ≤ n1) = false := decide_eq_false (by omega)
      have hpos : ∀ k : K4, posL b j k.1 = posL b b.length k.1 := fun k => by
        have h4 := posL_more (b := b) k.2 (b.length - j) j (by have := HL1.out; omega)
        rw [← h4]; congr 1; have := HL1.out; omega
      have HPOS := Lib.hid hpos
      clear hpos
      go_wp2
      clear hd
      go_loopg [10] n2 (fun k i wr => MkRel2 w1 b t k i wr)
      case atStart => exact ⟨0, 0, 0, _, none, [], by have := HL2.out; omega, rfl, Nat.zero_le _, Bld.new w1, Way.nil _, rfl, Ext.alloc' w1 _⟩
      case round =>
        obtain ⟨at_, n, c, m, a, L, hgk, rfl, hat, hB, hW, hmk, hx3⟩ := hrel
        rename World => w3
        have hatn : at_ ≤ n2 := by have := HL2.out; omega
        have hWB := hW.bounds hB.ops
        have HW := Lib.hid hW
        have HM := Lib.hid hmk
        have HGK := Lib.hid hgk
        have hn : n ≤ at_ := by have := hWB.few; have := hB.len; omega
        clear hW hmk hat hgk
        have hb1 := h1.ext (hx.trans' hx3)
        have hb2 := h2.ext (hx.trans' hx3)
        have hP3 := hP.ext hx3
        by_cases hlt : at_ < n2
        rotate_left
        · obtain rfl : at_ = n2 := by omega
          have hd : L.map Od.d = D := by
            rw [← HD.out, HM.out, List.drop_eq_nil_of_le (by have := HL2.out; omega)]; rfl
          have HDD := Lib.hid hd
          have hbc := fun j => cell_of_row w3 w1.heap.size j _ _ _ hB.box
          clear hd
          go_wp2
          go_ret2
          exact ⟨a, n, c, L, rfl, hB.ops, HDD.out, hx.trans' hx3⟩
        obtain ⟨k0, f0, hmt⟩ : ∃ k0 f0, matchD b (t.drop at_) = (k0, f0) := ⟨_, _, rfl⟩
        have hbd := matchD_bound b (t.drop at_)
        rw [hmt, List.length_drop, HL2.out, HL1.out] at hbd
        have HMT := Lib.hid hmt
        obtain ⟨hk0, hk1⟩ := hbd
        have hk0' : k0 ≤ n2 - at_ := hk0
        have hf0 : 0 < k0 → f0 + k0 ≤ n1 := fun h => (hk1 h).1
        clear hmt hk0 hk1
        by_cases hlong : 4 ≤ n2 - at_
        rotate_left
        · have hd : decide (4 ≤ n2 - at_) = false := decide_eq_false hlong
          have hk4 : ¬ 4 ≤ k0 := by omega
          clear hf0
          obtain ⟨x, hxx⟩ : ∃ x, t[at_]? = some x := ⟨_, List.getElem?_eq_getElem (by have := HL2.out; omega)⟩
          have hdr : t.drop at_ = x :: t.drop (at_ + 1) := by
            obtain ⟨h, e⟩ := List.getElem?_eq_some_iff.1 hxx
            rw [← e]; exact List.drop_eq_getElem_cons h
          have HDR := Lib.hid hdr
          have hok : (⟨0, 0, [x]⟩ : Dp).ok b.length := .inr (by simp [Dp.literal])
          have hsz1 : (⟨0, 0, [x]⟩ : Dp).size = 1 := by unfold Dp.size; rw [if_neg (by simp [Dp.copies])]; rfl
          have HOK := Lib.hid hok
          have HSZ := Lib.hid hsz1
          clear hok hsz1 hdr hxx
          go_wp2_with (first
            | ((with_reducible refine atSlot 51 ?_); refine wpList_of_wp rfl (owp_sl_lo (o := ⟨some 51, _, _, _, _, _⟩) _ _ rfl Try.elB rfl hb2.row at_ rfl rfl (by omega) ?_); intro a4 hr4; have hb3 := Bytes.drop hr4; clear hr4)
            | ((with_reducible refine atSlot 83 ?_); have E4 : Ext w3 (w3.alloc (.cells #[.int .i64 0, .int .i64 0] 73)) := Ext.alloc' w3 _; refine wpList_of_wp rfl (owp_sl_hi (o := ⟨some 83, _, _, _, _, _⟩) _ _ rfl Try.elB rfl (hb3.ext E4).row 1 rfl rfl (by omega) ?_); intro a5 hr5; have hb5 := Bytes.take hr5; rw [HDR.out] at hb5; have hadd := addLit_any w1.heap.size a n c L m a5 1 (c2 - at_) [x] _ (hB.ext E4) (by omega) hWB.fine (fun y hy => by have := hWB.short y hy; omega) hb5 (by omega) (by omega))
            | (go_at_call 44; (with_reducible refine hadd.mono ?_); rintro e w5 ⟨rfl, hbel, hkeep, a6, n6, c6, L6, m6, hB6, hD6⟩; clear hadd)
            | fail)
          have HD6 := Lib.hid hD6
          clear hD6
          go_roundg (n2 - (at_ + 1))
          case rel =>
            refine ⟨at_ + 1, n6, c6, m6, a6, L6, by have := HL2.out; omega, by go_num, by have := HL2.out; omega, hB6, ?_, ?_, (hx3.trans' E4).trans hbel⟩
            · have := HW.out.add HOK.out
              rw [HSZ.out] at this
              rw [HD6.out]; exact this
            · rw [HM.out, HDR.out, make_lit _ (by rw [← HDR.out, HMT.out]; exact hk4), HD6.out]
          case measure => have := HGK.out; have := HL2.out; omega
        · have hd : decide (4 ≤ n2 - at_) = true := decide_eq_true hlong
          obtain ⟨x0, x1, x2, x3, hkey⟩ := take_four (b := t) (j := at_) (by have := HL2.out; omega)
          obtain ⟨k, hk⟩ : ∃ k : K4, k = ⟨[x0, x1, x2, x3], rfl⟩ := ⟨_, rfl⟩
          obtain ⟨ap, np, cp, hv, hop, -⟩ := hP3.row k
          have hkv : Proofs.Ytkhjeeaojlaagaa.kv4 k = .agg #[.int .u8 (x0.toNat : Int), .int .u8 (x1.toNat : Int), .int .u8 (x2.toNat : Int), .int .u8 (x3.toNat : Int)] := by rw [hk]; rfl
          have hcp : posL b b.length k.1 = candF b (t.drop at_) b.length 0 := (cand_pos (by rw [hkey, hk]) k.2).symm
          rw [HPOS.out k, hcp] at hop
          have hbest := best_is b (t.drop at_)
          rw [HMT.out] at hbest
          obtain ⟨C, hC⟩ : ∃ C, C = candF b (t.drop at_) b.length 0 := ⟨_, rfl⟩
          rw [← hC] at hop hbest
          have hCm : ∀ i ∈ C, i < n1 := fun i hi => by
            rw [hC, cand_mem] at hi
            have := HL1.out; omega
          have hCl : C.length = np := by have := hop.1; rw [posV_length] at this; omega
          have hnp : np ≤ 2048 := by have h5 := posL_length b b.length k.1; rw [hcp, ← hC] at h5; have := HL1.out; omega
          have HKEY := Lib.hid hkey
          have HKV := Lib.hid hkv
          have HV := Lib.hid hv
          have HBEST := Lib.hid hbest
          have HCL := Lib.hid hCl
          have HCM := Lib.hid hCm
          clear hk hkey hkv hv hcp hC hbest hCl hCm
          go_wp2_with (first
            | ((with_reducible refine atSlot 51 ?_); refine wpList_of_wp rfl (owp_sl_lo (o := ⟨some 51, _, _, _, _, _⟩) _ _ rfl Try.elB rfl hb2.row at_ rfl rfl (by omega) ?_); intro a4 hr4; have hb3 := Bytes.drop hr4; clear hr4)
            | ((with_reducible refine atSlot 58 ?_); obtain ⟨bb, bo, rfl, hrg⟩ := (hb3.ext (Ext.alloc' w3 (.cells #[.int .i64 0, .int .i64 0] 73))).four (by omega); rw [HKEY.out] at hrg; refine wpList_of_wp rfl (owp_arr (o := ⟨some 58, _, _, _, _, _⟩) _ rfl Try.underlying69 rfl (by omega) ?_))
            | ((with_reducible refine atSlot 59 ?_); refine wpList_of_wp rfl (wp_load_mid (op := ⟨some 59, _, _, _, _, _⟩) 69 _ rfl bb bo rfl _ _ hrg Try.underlying69 rfl (by kernel_rfl) ?_); simp only [List.map_cons, List.map_nil]; simp only [Proofs.Ytkhjeeaojlaagaa.u8])
            | ((with_reducible refine atSlot 60 ?_); refine wpList_of_wp rfl (owp_look (z := .slice none 0 0) (o := ⟨some 60, _, _, _, _, _⟩) Try.kv4 _ _ rfl Try.underlying68 (zero_of (by kernel_rfl) _) rfl (hP3.map.ext (Ext.alloc' w3 _)) k HKV.out.symm ?_); simp only [Bool.false_eq_true, if_false]; rw [HV.out])
            | fail)
          have hbox0 := heap_alloc_new w3 (.cells #[.int .i64 0, .int .i64 0] 73)
          have E40 := Ext.alloc' w3 (.cells #[.int .i64 0, .int .i64 0] 73)
          clear hrg hd
          go_loopg [62] C.length (fun k i wr => BestRel w3 b (t.drop at_) C k i wr)
          case atStart => exact ⟨0, 0, 0, rfl, rfl, Nat.zero_le _, hbox0, rfl, Nat.zero_le _, Nat.zero_le _, E40⟩
          case round =>
            obtain ⟨q, r1, r2, hgk2, rfl, hq, hbox, hbf, hr1, hr2, E4⟩ := hrel
            rename World => w4
            have hqn : q ≤ np := by have := HCL.out; omega
            have hr1' : r1 ≤ 2048 := by have := HL1.out; omega
            have hr2' : r2 ≤ 2048 := by rw [List.length_drop] at hr2; have := HL2.out; omega
            have HBF := Lib.hid hbf
            have HGK2 := Lib.hid hgk2
            have HR1 := Lib.hid hr1
            have HR2 := Lib.hid hr2
            have hbk := fun j => cell_of_row w4 w3.heap.size j _ _ _ hbox
            have HBOX := Lib.hid hbox
            clear hbf hgk2 hq hbox hbox0 hr1 hr2
            by_cases hqlt : q < np
            · obtain ⟨i, hi⟩ : ∃ i, C[q]? = some i := ⟨_, List.getElem?_eq_getElem (by have := HCL.out; omega)⟩
              have hin : i < n1 := HCM.out i (List.mem_of_getElem? hi)
              have hCd : C.drop q = i :: C.drop (q + 1) := by
                obtain ⟨h, e⟩ := List.getElem?_eq_some_iff.1 hi
                rw [← e]; exact List.drop_eq_getElem_cons h
              obtain ⟨kk, hkk⟩ : ∃ kk, kk = cmn (b.drop i) (t.drop at_) := ⟨_, rfl⟩
              have hkb : kk ≤ 2048 := by have := (cmn_le (b.drop i) (t.drop at_)).2; rw [List.length_drop] at this; have := HL2.out; omega
              have hrowp := Row.of_own (own_ext hop E4)
              have HI := Lib.hid hi
              have HCD := Lib.hid hCd
              have HKK := Lib.hid hkk
              clear hi hCd hkk
              by_cases hbt : r2 < kk
              · have hd : decide (r2 < kk) = true := decide_eq_true hbt
                go_wp2_with (first
                  | ((with_reducible refine atSlot 64 ?_); refine wpList_of_wp rfl (owp_ix (o := ⟨some 64, _, _, _, _, _⟩) _ _ rfl Try.elI rfl hrowp q rfl rfl hqlt ?_); intro b5 o5 hc5; have hc5' : w4.cell? ⟨b5, o5, none⟩ = some (.int .i64 (i : Int)) := (by have h := hc5 0 (by decide); rw [Nat.add_zero, Nat.mul_one, Nat.add_zero] at h; rw [h, posV, List.getElem?_map, HI.out]; rfl); clear hc5)
                  | ((with_reducible refine atSlot 68 ?_); refine wpList_of_wp rfl (owp_sl_lo (o := ⟨some 68, _, _, _, _, _⟩) _ _ rfl Try.elB rfl (hb1.ext E4).row i rfl rfl (by omega) ?_); intro a6 hr6; have hb6 := Bytes.drop hr6; clear hr6 hc5'; have hcm := common_any a6 (n1 - i) (c1 - i) (b.drop i) (some ⟨bb, bo, none⟩) (n2 - at_) (c2 - at_) (t.drop at_) w4 hb6 (hb3.ext E4) (by omega) (by omega); rw [← HKK.out] at hcm)
                  | (go_at_call 43; (with_reducible refine hcm.mono ?_); rintro e w5 ⟨rfl, hx5⟩; clear hcm hbk; have hbox5 := hx5.heap' HBOX.out; have hbk := fun j => cell_of_row w5 w3.heap.size j _ _ _ hbox5)
                  | ((with_reducible refine atStore 12 ?_); refine wpList_of_wp rfl (wp_store_row (o := ⟨none, _, _, _, _, _⟩) _ _ _ rfl _ _ rfl rfl _ _ hbox5 (by kernel_rfl) rfl (by simp [Value.oneCell']) ?_))
                  | fail)
                go_roundg (C.length - (q + 1))
                case rel =>
                  refine ⟨q + 1, i, kk, rfl, by go_num, by have := HCL.out; omega, setRow_heap _ _ _ _ _ _ hbox5, ?_, by have := HL1.out; omega, by rw [HKK.out]; exact (cmn_le _ _).2, (E4.trans' hx5).setRow (Nat.le_refl _)⟩
                  rw [← HBF.out, HCD.out]
                  show _ = bestF b (t.drop at_) (C.drop (q + 1)) (if r2 < cmn (b.drop i) (t.drop at_) then (i, cmn (b.drop i) (t.drop at_)) else (r1, r2))
                  rw [← HKK.out, if_pos hbt]
                case measure => have := HGK2.out; have := HCL.out; omega
              · have hd : decide (r2 < kk) = false := decide_eq_false hbt
                go_wp2_with (first
                  | ((with_reducible refine atSlot 64 ?_); refine wpList_of_wp rfl (owp_ix (o := ⟨some 64, _, _, _, _, _⟩) _ _ rfl Try.elI rfl hrowp q rfl rfl hqlt ?_); intro b5 o5 hc5; have hc5' : w4.cell? ⟨b5, o5, none⟩ = some (.int .i64 (i : Int)) := (by have h := hc5 0 (by decide); rw [Nat.add_zero, Nat.mul_one, Nat.add_zero] at h; rw [h, posV, List.getElem?_map, HI.out]; rfl); clear hc5)
                  | ((with_reducible refine atSlot 68 ?_); refine wpList_of_wp rfl (owp_sl_lo (o := ⟨some 68, _, _, _, _, _⟩) _ _ rfl Try.elB rfl (hb1.ext E4).row i rfl rfl (by omega) ?_); intro a6 hr6; have hb6 := Bytes.drop hr6; clear hr6 hc5'; have hcm := common_any a6 (n1 - i) (c1 - i) (b.drop i) (some ⟨bb, bo, none⟩) (n2 - at_) (c2 - at_) (t.drop at_) w4 hb6 (hb3.ext E4) (by omega) (by omega); rw [← HKK.out] at hcm)
                  | (go_at_call 43; (with_reducible refine hcm.mono ?_); rintro e w5 ⟨rfl, hx5⟩; clear hcm hbk; have hbox5 := hx5.heap' HBOX.out; have hbk := fun j => cell_of_row w5 w3.heap.size j _ _ _ hbox5)
                  | fail)
                go_roundg (C.length - (q + 1))
                case rel =>
                  refine ⟨q + 1, r1, r2, rfl, by go_num, by have := HCL.out; omega, hbox5, ?_, HR1.out, HR2.out, E4.trans' hx5⟩
                  rw [← HBF.out, HCD.out]
                  show _ = bestF b (t.drop at_) (C.drop (q + 1)) (if r2 < cmn (b.drop i) (t.drop at_) then (i, cmn (b.drop i) (t.drop at_)) else (r1, r2))
                  rw [← HKK.out, if_neg hbt]
                case measure => have := HGK2.out; have := HCL.out; omega
            · obtain rfl : q = np := by omega
              have hr : (r1, r2) = if 4 ≤ k0 then (f0, k0) else (0, 0) := by
                have hdc : C.drop q = [] := List.drop_of_length_le (by have := HCL.out; omega)
                rw [← HBEST.out, ← HBF.out, hdc]; rfl
              by_cases hk4 : 4 ≤ k0
              · rw [if_pos hk4] at hr
                simp only [Prod.mk.injEq] at hr
                obtain ⟨rfl, rfl⟩ := hr
                have hfk := hf0 (by omega)
                clear hf0
                obtain ⟨q1, q2⟩ := neI (x := (r2 : Int)) (y := 0) (by omega)
                have hok : (⟨r1, r2, []⟩ : Dp).ok b.length := .inl ⟨by simp [Dp.copies]; omega, by show (0 : Int) ≤ r1; omega, by show (r1 : Int) + r2 ≤ b.length; have := HL1.out; omega⟩
                have hsz1 : (⟨r1, r2, []⟩ : Dp).size = r2 := by unfold Dp.size; rw [if_pos (by simp [Dp.copies]; omega)]; rfl
                have HOK := Lib.hid hok
                have HSZ := Lib.hid hsz1
                have hadd := addCopy_any w1.heap.size a n c L m (r1 : Int) (r2 : Int) w4 (hB.ext E4) (by omega) hWB.fine (fun y hy => by have := hWB.sum y hy; have := HL1.out; omega) (by omega) (by omega) (by omega)
                clear hok hsz1
                have hrg := range_of_heap2 HBOX.out
                go_wp2_with (first
                  | ((with_reducible refine atSlot 89 ?_); refine wpList_of_wp rfl (wp_load_mid (op := ⟨some 89, _, _, _, _, _⟩) 73 _ rfl w3.heap.size 0 rfl _ _ hrg Try.underlying73 rfl (by kernel_rfl) ?_); clear hrg)
                  | (go_at_call 44; (with_reducible refine hadd.mono ?_); rintro e w5 ⟨rfl, hbel, hkeep, a6, n6, c6, L6, m6, hB6, hD6⟩; clear hadd hbk; have hbk := fun j => cell_of_row w5 w3.heap.size j _ _ _ (hkeep _ _ _ _ (by unfold tyB; decide) HBOX.out); have HD6 := Lib.hid hD6; clear hD6)
                  | fail)
                go_roundg (n2 - (at_ + r2))
                case rel =>
                  refine ⟨at_ + r2, n6, c6, m6, a6, L6, by have := HL2.out; omega, by go_num, by have := HL2.out; omega, hB6, ?_, ?_, (hx3.trans' E4).trans hbel⟩
                  · have := HW.out.add HOK.out
                    rw [HSZ.out] at this
                    rw [HD6.out]; exact this
                  · rw [HM.out, make_copy _ HMT.out hk4, List.drop_drop, HD6.out]
                case measure => have := HGK.out; have := HL2.out; omega
              · rw [if_neg hk4] at hr
                simp only [Prod.mk.injEq] at hr
                obtain ⟨rfl, rfl⟩ := hr
                clear hf0
                obtain ⟨x, hxx⟩ : ∃ x, t[at_]? = some x := ⟨_, List.getElem?_eq_getElem (by have := HL2.out; omega)⟩
                have hdr : t.drop at_ = x :: t.drop (at_ + 1) := by
                  obtain ⟨h, e⟩ := List.getElem?_eq_some_iff.1 hxx
                  rw [← e]; exact List.drop_eq_getElem_cons h
                have HDR := Lib.hid hdr
                have hok : (⟨0, 0, [x]⟩ : Dp).ok b.length := .inr (by simp [Dp.literal])
                have hsz1 : (⟨0, 0, [x]⟩ : Dp).size = 1 := by unfold Dp.size; rw [if_neg (by simp [Dp.copies])]; rfl
                have HOK := Lib.hid hok
                have HSZ := Lib.hid hsz1
                clear hok hsz1 hdr hxx
                go_wp2_with (first
                  | ((with_reducible refine atSlot 83 ?_); refine wpList_of_wp rfl (owp_sl_hi (o := ⟨some 83, _, _, _, _, _⟩) _ _ rfl Try.elB rfl (hb3.ext E4).row 1 rfl rfl (by omega) ?_); intro a5 hr5; have hb5 := Bytes.take hr5; rw [HDR.out] at hb5; have hadd := addLit_any w1.heap.size a n c L m a5 1 (c2 - at_) [x] _ (hB.ext E4) (by omega) hWB.fine (fun y hy => by have := hWB.short y hy; omega) hb5 (by omega) (by omega))
                  | (go_at_call 44; (with_reducible refine hadd.mono ?_); rintro e w5 ⟨rfl, hbel, hkeep, a6, n6, c6, L6, m6, hB6, hD6⟩; clear hadd)
                  | fail)
                have HD6 := Lib.hid hD6
                clear hD6
                go_roundg (n2 - (at_ + 1))
                case rel =>
                  refine ⟨at_ + 1, n6, c6, m6, a6, L6, by have := HL2.out; omega, by go_num, by have := HL2.out; omega, hB6, ?_, ?_, (hx3.trans' E4).trans hbel⟩
                  · have := HW.out.add HOK.out
                    rw [HSZ.out] at this
                    rw [HD6.out]; exact this
                  · rw [HM.out, HDR.out, make_lit _ (by rw [← HDR.out, HMT.out]; exact hk4), HD6.out]
                case measure => have := HGK.out; have := HL2.out; omega
end Go.Proofs.Ytkhjeeaojlaagaa
