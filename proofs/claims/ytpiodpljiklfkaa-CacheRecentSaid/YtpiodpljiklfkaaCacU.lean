/-
  The cache's right: of each ID the first right bytes.
-/
import Derived.Test.YtpiodpljiklfkaaCacT
namespace Go.Proofs.Ytpiodpljiklfkaa
open Go.RowKit Go.WideMaps
/-- A chunk in memory. -/
structure Ch where
  s : Nat
  z : Int
  a : Option Addr
  n : Nat
  c : Nat
  l : List UInt8
def Ch.cells (k : Ch) : List Value := [.int .u64 k.s, .int .i64 k.z, .slice k.a k.n k.c]
def Ch.id (k : Ch) : Nat × Int := (k.s, k.z)
theorem ch_get {L : List Ch} {i : Nat} {k : Ch} (h : L[i]? = some k) : ∀ j, j < 3 → (L.flatMap Ch.cells)[i * 3 + j]? = k.cells[j]? := by
  induction L generalizing i with
  | nil => cases h
  | cons x L ih =>
    intro j hj
    rw [List.flatMap_cons]
    cases i with
    | zero =>
      cases h
      rw [Nat.zero_mul, Nat.zero_add, List.getElem?_append_left (by simp [Ch.cells]; omega)]
    | succ i =>
      rw [List.getElem?_append_right (by simp [Ch.cells]; omega), ← ih (i := i) (by simpa using h) j hj]
      congr 1
      simp [Ch.cells]
      omega
theorem ch_range {w : World} {b o i : Nat} {L : List Ch} {k : Ch} (hk : L[i]? = some k) (hc : ∀ j, j < 3 → w.cell? ⟨b, o + j, none⟩ = (L.flatMap Ch.cells)[i * 3 + j]?) :
    w.rangeAt b o k.cells := fun j v hj => by
  have hlt : j < 3 := (List.getElem?_eq_some_iff.1 hj).1
  exact (hc j hlt).trans ((ch_get hk j hlt).trans hj)
theorem ch_id {w : World} {b o i : Nat} {L : List Ch} {k : Ch} (hk : L[i]? = some k) (hc : ∀ j, j < 3 → w.cell? ⟨b, o + j, none⟩ = (L.flatMap Ch.cells)[i * 3 + j]?) :
    w.rangeAt b o [.int .u64 k.s, .int .i64 k.z] := fun j v hj => by
  refine ch_range hk hc j v ?_
  rcases j with _ | _ | j
  · exact hj
  · exact hj
  · simp at hj
theorem Try.elCh : Elem Try.prog 61 90 3 40 (.agg #[.int .u64 0, .int .i64 0, .slice none 0 0]) := ⟨Try.underlying61, by kernel_rfl, rfl, by decide⟩
theorem ch_oneCell (L : List Ch) : ∀ u ∈ L.flatMap Ch.cells, u.oneCell' = true := by
  intro u hu
  obtain ⟨k, -, hk⟩ := List.mem_flatMap.1 hu
  simp only [Ch.cells, List.mem_cons, List.not_mem_nil, or_false] at hk
  rcases hk with rfl | rfl | rfl <;> rfl
/-- A list of chunks reads. -/
structure Chs (w : World) (a : Option Addr) (n c : Nat) (L : List Ch) : Prop where
  len : L.length = n
  row : Row w a n c 3 (L.flatMap Ch.cells)
  data : ∀ k ∈ L, Bytes w k.a k.n k.c k.l ∧ k.n ≤ 1048576 ∧ k.s ≤ 18446744073709551615 ∧ -9223372036854775808 ≤ k.z ∧ k.z ≤ 9223372036854775807
theorem Chs.ext {w w' : World} {a : Option Addr} {n c : Nat} {L : List Ch} (h : Chs w a n c L) (hx : Ext w w') : Chs w' a n c L :=
  ⟨h.len, h.row.ext hx, fun k hk => ⟨(h.data k hk).1.ext hx, (h.data k hk).2⟩⟩
/-- The first chunk with an ID whose bytes have it. -/
def fnd (L : List Ch) (k : Nat × Int) : Option Ch := L.find? fun x => decide (x.id = k ∧ idOf x.l = k)
theorem fnd_none {k : Nat × Int} {L : List Ch} : fnd L k = none ↔ ∀ x ∈ L, ¬ (x.id = k ∧ idOf x.l = k) := by
  unfold fnd
  rw [List.find?_eq_none]
  simp
theorem fnd_some {k : Nat × Int} {L : List Ch} {x : Ch} (h : fnd L k = some x) : x ∈ L ∧ x.id = k ∧ idOf x.l = k := by
  unfold fnd at h
  have h1 := List.find?_some h
  exact ⟨List.mem_of_find?_eq_some h, of_decide_eq_true h1⟩
theorem fnd_next {k : Nat × Int} {L : List Ch} {j : Nat} {x : Ch} (hx : L[j]? = some x) : fnd (L.take (j + 1)) k = (fnd (L.take j) k).or (if x.id = k ∧ idOf x.l = k then some x else none) := by
  unfold fnd
  rw [List.take_add_one, hx, List.find?_append]
  congr 1
  simp only [Option.toList_some, List.find?_cons, List.find?_nil]
  by_cases h : x.id = k ∧ idOf x.l = k
  · rw [if_pos h, decide_eq_true h]
  · rw [if_neg h, decide_eq_false h]
/-- What is fetched, and what is still wanted. -/
def fetV (D : List (Nat × Int)) (L : List Ch) (k : KI) : Option Value := if k.1 ∈ D then (fnd L k.1).map fun x => .slice x.a x.n x.c else none
def wantV (D : List (Nat × Int)) (L : List Ch) (k : KI) : Option Value := if k.1 ∈ D then some (.bool (fnd L k.1).isNone) else none
theorem want_getD (D : List (Nat × Int)) (L : List Ch) (k : KI) : (wantV D L k).getD (.bool false) = .bool (decide (k.1 ∈ D) && (fnd L k.1).isNone) := by
  unfold wantV
  by_cases h : k.1 ∈ D
  · rw [if_pos h, decide_eq_true h]; rfl
  · rw [if_neg h, decide_eq_false h]; rfl
section
variable {D : List (Nat × Int)} {L : List Ch} {j : Nat} {x : Ch}
/-- No step: what is fetched stays. -/
theorem fnd_stay (hx : L[j]? = some x) {k : Nat × Int} (h : ¬ ((fnd (L.take j) k).isNone = true ∧ x.id = k ∧ idOf x.l = k)) : fnd (L.take (j + 1)) k = fnd (L.take j) k := by
  rw [fnd_next hx]
  cases hf : fnd (L.take j) k with
  | some y => rfl
  | none =>
    rw [if_neg (fun h2 => h ⟨by rw [hf]; rfl, h2⟩)]
    rfl
theorem fet_stay (hx : L[j]? = some x) (h : ¬ (x.id ∈ D ∧ (fnd (L.take j) x.id).isNone = true ∧ idOf x.l = x.id)) (y : KI) : fetV D (L.take (j + 1)) y = fetV D (L.take j) y ∧ wantV D (L.take (j + 1)) y = wantV D (L.take j) y := by
  unfold fetV wantV
  by_cases hy : y.1 ∈ D
  · rw [fnd_stay hx (fun h2 => h (by obtain ⟨a1, a2, a3⟩ := h2; rw [a2]; exact ⟨hy, a1, a3⟩))]
    exact ⟨rfl, rfl⟩
  · rw [if_neg hy, if_neg hy, if_neg hy, if_neg hy]
    exact ⟨rfl, rfl⟩
open Classical in
theorem fet_go (hx : L[j]? = some x) (hD : x.id ∈ D) (hn : (fnd (L.take j) x.id).isNone = true) (he : idOf x.l = x.id) {kk : KI} (hk : kk.1 = x.id) (y : KI) :
    fetV D (L.take (j + 1)) y = (if y = kk then some (.slice x.a x.n x.c) else fetV D (L.take j) y) ∧ wantV D (L.take (j + 1)) y = if y = kk then some (.bool false) else wantV D (L.take j) y := by
  by_cases hy : y = kk
  · rw [if_pos hy, if_pos hy]
    have h1 : y.1 = x.id := by rw [hy, hk]
    unfold fetV wantV
    rw [h1, if_pos hD, if_pos hD, fnd_next hx, if_pos ⟨rfl, he⟩]
    cases hf : fnd (L.take j) x.id with
    | some z => rw [hf] at hn; cases hn
    | none => exact ⟨rfl, rfl⟩
  · rw [if_neg hy, if_neg hy]
    have h1 : x.id ≠ y.1 := fun e => hy (Subtype.ext (by rw [hk, e]))
    unfold fetV wantV
    rw [fnd_stay hx (fun h => h1 h.2.1)]
    exact ⟨rfl, rfl⟩
end
/-- A look-up of one value in a region. -/
theorem wpY_lookF {P : Program} {ops : Array Oper} {B : Nat} {w0 : World} {fr : List Nat} {Q : Act → World → Prop} {j : Nat} {l : XP} {a : Act} {w : World} {o : Oper} (ho : ops[j]? = some o) (hw : Region.wanted o (yielded ops a.tmps) = true)
    {κ : Type} {kt : TypeId} {kv : κ → Value} (H : KV P kt kv) (mO xO : Operand) {t et : TypeId} (hop : o.op = .lookup t mO xO false) (ht : P.underlying t = some (.map kt et)) {z : Value} (hz : ∀ w', (zeroValue et).run P w' = .ok z w')
    {b : Nat} {f : κ → Option Value} (hm : a.eval mO = .map (some b)) (hf : ∀ w', Below B w0 w' → MapF kv w' b f) (k : κ) (hx : a.eval xO = kv k)
    (h : wpY P ops B w0 fr Q l (a.put o.dst ((f k).getD z)) w) : wpY P ops B w0 fr Q (.q j l) a w :=
  wpY_q ho hw _ (fun w' hx' => by
    simp only [execOp, hop, hm, hx, (hf w' hx').run_look H ht (hz w') k false, Sem.run_bind, Sem.run_pure, Result.andThen_ok]
    rfl) h
def R1Rel (w : World) (b n : Nat) (D : List (Nat × Int)) (i : Value) (wr : World) : Prop := ∃ j : Nat, i = .int .i64 j ∧ j ≤ n ∧ MapF kvI wr b (inF (D.take j)) ∧ Chg [b] w wr
def R2Rel (w : World) (b b2 n : Nat) (D : List (Nat × Int)) (L : List Ch) (i : Value) (wr : World) : Prop := ∃ j : Nat, i = .int .i64 j ∧ j ≤ n ∧ MapF kvI wr b (wantV D (L.take j)) ∧ MapF kvI wr b2 (fetV D (L.take j)) ∧ Ext w wr
/-- What right answers. -/
def RightO (w : World) (D : List (Nat × Int)) (L : List Ch) (en : Ending) (w' : World) : Prop := ∃ b, en = .returned (.map (some b)) ∧ MapF kvI w' b (fetV D L) ∧ w.heap.size ≤ b ∧ Ext w w'

set_option maxRecDepth 100000 in
set_option maxHeartbeats 8000000 in
theorem right38_any (da : Option Addr) (dn dc : Nat) (D : List (Nat × Int)) (a : Option Addr) (n c : Nat) (L : List Ch) (w : World) (hr : Row w da dn dc 2 (D.flatMap idCells)) (hdl : D.length = dn) (hdn : dn ≤ 1000000) (hD : IdsK D)
    (hl : Chs w a n c L) (hn : n ≤ 1000000) :
    Calls Try.prog 45 #[.slice da dn dc, .slice a n c] w (RightO w D L) := by
  have HR := Lib.hid hr
  have HDL := Lib.hid hdl
  have HD := Lib.hid hD
  have HL := Lib.hid hl
  have hmm := run_makeMapH Try.underlying95 .i64
  have hm0 := @run_makeMap Try.prog
  clear hr hdl hD hl
  go_enter Try.func45, Try.ntmps45
  go_wp2
  have hmp : MapF kvI (w.alloc (.map #[] 0)) w.heap.size (inF (D.take 0)) := (MapF.new w).congr fun y => by simp [inF]
  have hx3 := Ext.alloc' w (.map #[] 0)
  obtain ⟨b, hb⟩ : ∃ b, b = w.heap.size := ⟨_, rfl⟩
  have hzb : w.heap.size ≤ b := by omega
  rw [← hb] at hmp ⊢
  generalize w.alloc (.map #[] 0) = w3 at hmp hx3 ⊢
  have HX3 := Lib.hid hx3
  have HMP := Lib.hid hmp
  clear hb hmp hx3 hmm
  go_loopw [16] (R1Rel w3 b dn D) (fun i _ => dn - (intOf i).toNat)
  case atStart => exact ⟨0, rfl, Nat.zero_le _, HMP.out, Chg.refl _ _⟩
  case round =>
    obtain ⟨j, rfl, hj, hm, hc3⟩ := hrel
    rename World => w4
    have hx : Ext w w4 := ext_of_chg HX3.out hc3 (fun k hk => by rw [List.mem_singleton.1 hk]; exact hzb)
    have HC3 := Lib.hid hc3
    clear hc3
    by_cases hjn : j < dn
    · obtain ⟨k, hk⟩ : ∃ k, D[j]? = some k := ⟨_, List.getElem?_eq_getElem (by have := HDL.out; omega)⟩
      have hkk := HD.out k (List.mem_of_getElem? hk)
      obtain ⟨kk, hk1, hkv⟩ := key_of hkk.1 hkk.2
      have HK2 := Lib.hid hk
      have HK1 := Lib.hid hk1
      have HKV := Lib.hid hkv
      have HM := Lib.hid hm
      have hrow := HR.out.ext hx
      have HP := Lib.hid (put_new w4 #[.int .u64 0, .int .i64 0] #[.int .u64 k.1, .int .i64 k.2] 45)
      have HN := Lib.hid (heap_alloc_new w4 (.cells #[.int .u64 0, .int .i64 0] 45))
      clear hk hkk hk1 hkv hm
      go_upto_region 5 with (first
        | ((with_reducible refine atSlot 18 ?_); refine wpList_of_wp rfl (owp_ix (o := ⟨some 18, _, _, _, _, _⟩) _ _ rfl Try.elId rfl hrow j rfl rfl hjn ?_); intro b3 o3 hc3; have hid3 := id_range HK2.out hc3; clear hc3)
        | ((with_reducible refine atSlot 19 ?_); refine wpList_of_wp rfl (wp_load_mid (op := ⟨some 19, _, _, _, _, _⟩) 45 _ rfl b3 o3 rfl [.int .u64 k.1, .int .i64 k.2] _ hid3 Try.underlying45 rfl (by kernel_rfl) ?_); clear hid3)
        | ((with_reducible refine atStore 7 ?_); refine wpList_of_wp rfl (wp_store_row (o := ⟨none, _, _, _, _, _⟩) _ _ _ rfl w4.heap.size #[.int .u64 k.1, .int .i64 k.2] rfl rfl _ _ HN.out (by kernel_rfl) rfl (by simp [Value.oneCell']) ?_))
        | fail)
      obtain ⟨hx5, hh5⟩ := HP.out
      clear HP HN hrow
      generalize (w4.alloc (.cells #[.int .u64 0, .int .i64 0] 45)).setRow w4.heap.size #[.int .u64 k.1, .int .i64 k.2] = w5 at hx5 hh5 ⊢
      have hr5 := range_of_heap2 hh5
      have hm5 := HM.out.ext hx5
      go_wp2_with (first
        | ((with_reducible refine atSlot 21 ?_); refine wpList_of_wp rfl (wp_load_mid (op := ⟨some 21, _, _, _, _, _⟩) 45 _ rfl w4.heap.size 0 rfl [.int .u64 k.1, .int .i64 k.2] _ hr5 Try.underlying45 rfl (by kernel_rfl) ?_); clear hr5)
        | ((with_reducible refine atPut 20 ?_); refine wpList_of_wp rfl (owp_put (o := ⟨none, _, _, _, _, _⟩) Try.kvI _ _ _ rfl Try.underlying95 rfl hm5 kk HKV.out.symm (val := .bool true) rfl ?_); intro w6 hm6 hg6; have hx6 := (HC3.out.trans' (Chg.of_ext hx5)).trans' (Chg.of_grown hg6 (List.mem_singleton.2 rfl)); have HM6 := Lib.hid hm6; clear hm6 hg6)
        | fail)
      go_roundw
      case rel =>
        refine ⟨j + 1, by go_num, hjn, HM6.out.congr fun y => ?_, hx6⟩
        exact inF_put (fun x => by rw [HK1.out]; exact take_mem HK2.out x) y
      case measure => simp [intOf]; omega
    · obtain rfl : j = dn := by omega
      have hmw : MapF kvI w4 b (wantV D (L.take 0)) := hm.congr fun y => by
        rw [show D.take j = D from List.take_of_length_le (by have := HDL.out; omega)]
        simp [inF, wantV, fnd]
      have HMW := Lib.hid hmw
      have hbl := hm.lt
      clear hm hj hjn hmw
      go_wp2
      have hmf : MapF kvI (w4.alloc (.map #[] 0)) w4.heap.size (fetV D (L.take 0)) := (MapF.new w4).congr fun y => by simp [fetV, fnd]
      have hx5 := Ext.alloc' w4 (.map #[] 0)
      obtain ⟨b2, hb2⟩ : ∃ b2, b2 = w4.heap.size := ⟨_, rfl⟩
      have hzb2 : w.heap.size ≤ b2 := by have := hx.size; omega
      have hbb : b ≠ b2 := by omega
      rw [← hb2] at hmf ⊢
      generalize w4.alloc (.map #[] 0) = w5 at hmf hx5 ⊢
      have HX5 := Lib.hid (hx.trans' hx5)
      have HMW5 := Lib.hid (HMW.out.ext hx5)
      have HMF5 := Lib.hid hmf
      clear hb2 hmf hx5 hm0 hbl
      go_loopw [26] (R2Rel w b b2 n D L) (fun i _ => n - (intOf i).toNat)
      case atStart => exact ⟨0, rfl, Nat.zero_le _, HMW5.out, HMF5.out, HX5.out⟩
      case round =>
        obtain ⟨i, rfl, hi, hmw, hmf, hx6⟩ := hrel
        rename World => w6
        by_cases hin : i < n
        · obtain ⟨x, hx0⟩ : ∃ x, L[i]? = some x := ⟨_, List.getElem?_eq_getElem (by have := HL.out.len; omega)⟩
          obtain ⟨hxb, hxn, hxs, hxz⟩ := (HL.out.ext hx6).data x (List.mem_of_getElem? hx0)
          obtain ⟨kk, hk1, hkv⟩ := key_of hxs hxz
          have HX0 := Lib.hid hx0
          have HK1 := Lib.hid hk1
          have HKV := Lib.hid hkv
          have HMW := Lib.hid hmw
          have HMF := Lib.hid hmf
          have hrow := (HL.out.ext hx6).row
          have HXB := Lib.hid hxb
          have HP := Lib.hid (put_new w6 #[.int .u64 0, .int .i64 0, .slice none 0 0] #[.int .u64 x.s, .int .i64 x.z, .slice x.a x.n x.c] 90)
          have HN := Lib.hid (heap_alloc_new w6 (.cells #[.int .u64 0, .int .i64 0, .slice none 0 0] 90))
          clear hx0 hxs hxz hk1 hkv hmw hmf hxb
          go_upto_region 11 with (first
            | ((with_reducible refine atSlot 28 ?_); refine wpList_of_wp rfl (owp_ix (o := ⟨some 28, _, _, _, _, _⟩) _ _ rfl Try.elCh rfl hrow i rfl rfl hin ?_); intro b3 o3 hc3; have hid3 := ch_range HX0.out hc3; clear hc3)
            | ((with_reducible refine atSlot 29 ?_); refine wpList_of_wp rfl (wp_load_mid (op := ⟨some 29, _, _, _, _, _⟩) 90 _ rfl b3 o3 rfl [.int .u64 x.s, .int .i64 x.z, .slice x.a x.n x.c] _ hid3 Try.underlying90 rfl (by kernel_rfl) ?_); clear hid3)
            | ((with_reducible refine atStore 10 ?_); refine wpList_of_wp rfl (wp_store_row (o := ⟨none, _, _, _, _, _⟩) _ _ _ rfl w6.heap.size #[.int .u64 x.s, .int .i64 x.z, .slice x.a x.n x.c] rfl rfl _ _ HN.out (by kernel_rfl) rfl (by simp [Value.oneCell']) ?_))
            | fail)
          obtain ⟨hx7, hh7⟩ := HP.out
          clear HP HN hrow
          generalize (w6.alloc (.cells #[.int .u64 0, .int .i64 0, .slice none 0 0] 90)).setRow w6.heap.size #[.int .u64 x.s, .int .i64 x.z, .slice x.a x.n x.c] = w7 at hx7 hh7 ⊢
          have HX67 := Lib.hid (hx6.trans' hx7)
          have E7 := Ext.drew' w7
          have HG := Lib.hid fun w' (h : Ext w7 w') => (show w'.rangeAt w6.heap.size 0 [.int .u64 x.s, .int .i64 x.z] from fun j v hj => range_heap (cs := [.int .u64 x.s, .int .i64 x.z, .slice x.a x.n x.c]) (h.heap' hh7) j v (by rcases j with _ | _ | j; exact hj; exact hj; simp at hj))
          have HC1 := Lib.hid fun w' (h : Ext w7 w') => cell_of_row w' w6.heap.size 1 _ _ _ (h.heap' hh7)
          have HC2 := Lib.hid fun w' (h : Ext w7 w') => cell_of_row w' w6.heap.size 2 _ _ _ (h.heap' hh7)
          have HMW7 := Lib.hid (HMW.out.ext hx7)
          have HMF7 := Lib.hid (HMF.out.ext hx7)
          have HXB7 := Lib.hid (HXB.out.ext hx7)
          have hxl := HXB.out.len
          have HH7 := Lib.hid hh7
          have hbz : w6.heap.size ≠ b ∧ w6.heap.size ≠ b2 := by
            have h1 := HMW.out.lt
            have h2 := HMF.out.lt
            omega
          have hlk := want_getD D (L.take i) kk
          rw [HK1.out] at hlk
          have hid : x.id = (x.s, x.z) := rfl
          rw [← hid] at hlk
          clear hh7 hid
          by_cases hwt : x.id ∈ D ∧ (fnd (L.take i) x.id).isNone = true
          rotate_left
          · have HNO := Lib.hid (show ¬ (x.id ∈ D ∧ (fnd (L.take i) x.id).isNone = true ∧ idOf x.l = x.id) from fun h => hwt ⟨h.1, h.2.1⟩)
            have hv : (decide (x.id ∈ D) && (fnd (L.take i) x.id).isNone) = false := by
              by_cases h1 : x.id ∈ D
              · rw [decide_eq_true h1, Bool.true_and]
                cases h2 : (fnd (L.take i) x.id).isNone with
                | false => rfl
                | true => exact absurd ⟨h1, h2⟩ hwt
              · rw [decide_eq_false h1]; rfl
            rw [hv] at hlk
            have HLK := Lib.hid hlk
            clear hwt hv hlk
            go_wp2
            refine wp_region_e [] (.qs [0, 1, 2, 3, 4, 5, 6, 7, 8, 9, 10, 11, 12, 13, 14, 15, 17, 18] (.l 16 (.qs [19, 20] .nil))) (by kernel_rfl) (by kernel_rfl) ?_
            iterate 2 ((refine wpY_q rfl rfl _ (fun w' hx' => by go_simp; try rfl) ?_; go_simp))
            refine wpY_ld rfl rfl (.tmp 31) rfl w6.heap.size 0 rfl [.int .u64 x.s, .int .i64 x.z] _ HG.out Try.underlying45 rfl (by kernel_rfl) ?_
            go_simp
            refine wpY_lookF rfl rfl Try.kvI (.tmp 30) (.tmp 32) rfl Try.underlying95 (z := .bool false) (fun w' => zero_of (by kernel_rfl) w') rfl (fun w' h => HMW7.out.ext h) kk HKV.out.symm ?_
            rw [HLK.out]
            ((refine wpY_q rfl rfl _ (fun w' hx' => by go_simp; try rfl) ?_; go_simp))
            iterate 7 ((refine wpY_skip rfl rfl ?_; go_simp))
            iterate 2 ((refine wpY_q rfl rfl _ (fun w' hx' => by go_simp; try rfl) ?_; go_simp))
            iterate 4 ((refine wpY_skip rfl rfl ?_; go_simp))
            refine wpY_lskip rfl rfl ?_
            go_simp
            iterate 2 (first | ((refine wpY_q rfl rfl _ (fun w' hx' => by go_simp; try rfl) ?_; go_simp)) | ((refine wpY_skip rfl rfl ?_; go_simp)))
            refine wpY_nil ?_
            go_wp2
            go_roundw
            case rel => exact ⟨i + 1, by go_num, hin, (HMW7.out.ext E7).congr fun y => (fet_stay HX0.out HNO.out y).2, (HMF7.out.ext E7).congr fun y => (fet_stay HX0.out HNO.out y).1, HX67.out.trans' E7⟩
            case measure => simp [intOf]; omega
          have hv : (decide (x.id ∈ D) && (fnd (L.take i) x.id).isNone) = true := by rw [decide_eq_true hwt.1, hwt.2]; rfl
          rw [hv] at hlk
          have HLK := Lib.hid hlk
          have HWT := Lib.hid hwt
          clear hwt hv hlk
          by_cases hxz : (x.n : Int) = x.z
          rotate_left
          · have HNO := Lib.hid (show ¬ (x.id ∈ D ∧ (fnd (L.take i) x.id).isNone = true ∧ idOf x.l = x.id) from fun h => hxz (by have h2 : (x.l.length : Int) = x.z := congrArg Prod.snd h.2.2; rw [← h2, hxl]))
            obtain ⟨q1, q2⟩ := neI hxz
            clear hxz
            go_wp2
            refine wp_region_e [] (.qs [0, 1, 2, 3, 4, 5, 6, 7, 8, 9, 10, 11, 12, 13, 14, 15, 17, 18] (.l 16 (.qs [19, 20] .nil))) (by kernel_rfl) (by kernel_rfl) ?_
            iterate 2 ((refine wpY_q rfl rfl _ (fun w' hx' => by go_simp; try rfl) ?_; go_simp))
            refine wpY_ld rfl rfl (.tmp 31) rfl w6.heap.size 0 rfl [.int .u64 x.s, .int .i64 x.z] _ HG.out Try.underlying45 rfl (by kernel_rfl) ?_
            go_simp
            refine wpY_lookF rfl rfl Try.kvI (.tmp 30) (.tmp 32) rfl Try.underlying95 (z := .bool false) (fun w' => zero_of (by kernel_rfl) w') rfl (fun w' h => HMW7.out.ext h) kk HKV.out.symm ?_
            rw [HLK.out]
            ((refine wpY_q rfl rfl _ (fun w' hx' => by go_simp; try rfl) ?_; go_simp))
            ((refine wpY_q rfl rfl _ (fun w' hx' => by go_simp; try rfl) ?_; go_simp))
            refine wpY_q rfl rfl (.slice x.a x.n x.c) (fun w' hx' => by have hb' := HC2.out w' hx'; go_simp; try rfl) ?_
            go_simp
            iterate 3 ((refine wpY_q rfl rfl _ (fun w' hx' => by go_simp; try rfl) ?_; go_simp))
            refine wpY_q rfl rfl (.int .i64 x.z) (fun w' hx' => by have hb' := HC1.out w' hx'; go_simp; try rfl) ?_
            go_simp
            iterate 3 ((refine wpY_q rfl rfl _ (fun w' hx' => by go_simp; try rfl) ?_; go_simp))
            iterate 4 ((refine wpY_skip rfl rfl ?_; go_simp))
            refine wpY_lskip rfl rfl ?_
            go_simp
            iterate 2 (first | ((refine wpY_q rfl rfl _ (fun w' hx' => by go_simp; try rfl) ?_; go_simp)) | ((refine wpY_skip rfl rfl ?_; go_simp)))
            refine wpY_nil ?_
            go_wp2
            go_roundw
            case rel => exact ⟨i + 1, by go_num, hin, (HMW7.out.ext E7).congr fun y => (fet_stay HX0.out HNO.out y).2, (HMF7.out.ext E7).congr fun y => (fet_stay HX0.out HNO.out y).1, HX67.out.trans' E7⟩
            case measure => simp [intOf]; omega
          obtain ⟨q1, q2⟩ := eqI hxz
          by_cases hfs : fp x.l = x.s
          rotate_left
          · have HNO := Lib.hid (show ¬ (x.id ∈ D ∧ (fnd (L.take i) x.id).isNone = true ∧ idOf x.l = x.id) from fun h => hfs (congrArg Prod.fst h.2.2))
            have q3 : ((fp x.l : Int) == (x.s : Int)) = false := by simp; omega
            clear hxz hfs
            go_wp2
            refine wp_region_e [] (.qs [0, 1, 2, 3, 4, 5, 6, 7, 8, 9, 10, 11, 12, 13, 14, 15, 17, 18] (.l 16 (.qs [19, 20] .nil))) (by kernel_rfl) (by kernel_rfl) ?_
            iterate 2 ((refine wpY_q rfl rfl _ (fun w' hx' => by go_simp; try rfl) ?_; go_simp))
            refine wpY_ld rfl rfl (.tmp 31) rfl w6.heap.size 0 rfl [.int .u64 x.s, .int .i64 x.z] _ HG.out Try.underlying45 rfl (by kernel_rfl) ?_
            go_simp
            refine wpY_lookF rfl rfl Try.kvI (.tmp 30) (.tmp 32) rfl Try.underlying95 (z := .bool false) (fun w' => zero_of (by kernel_rfl) w') rfl (fun w' h => HMW7.out.ext h) kk HKV.out.symm ?_
            rw [HLK.out]
            ((refine wpY_q rfl rfl _ (fun w' hx' => by go_simp; try rfl) ?_; go_simp))
            ((refine wpY_q rfl rfl _ (fun w' hx' => by go_simp; try rfl) ?_; go_simp))
            refine wpY_q rfl rfl (.slice x.a x.n x.c) (fun w' hx' => by have hb' := HC2.out w' hx'; go_simp; try rfl) ?_
            go_simp
            iterate 3 ((refine wpY_q rfl rfl _ (fun w' hx' => by go_simp; try rfl) ?_; go_simp))
            refine wpY_q rfl rfl (.int .i64 x.z) (fun w' hx' => by have hb' := HC1.out w' hx'; go_simp; try rfl) ?_
            go_simp
            iterate 4 ((refine wpY_q rfl rfl _ (fun w' hx' => by go_simp; try rfl) ?_; go_simp))
            refine wpY_q rfl rfl (.slice x.a x.n x.c) (fun w' hx' => by have hb' := HC2.out w' hx'; go_simp; try rfl) ?_
            go_simp
            ((refine wpY_q rfl rfl _ (fun w' hx' => by go_simp; try rfl) ?_; go_simp))
            refine wpY_ld rfl rfl (.tmp 47) rfl w6.heap.size 0 rfl [.int .u64 x.s, .int .i64 x.z] _ HG.out Try.underlying45 rfl (by kernel_rfl) ?_
            go_simp
            refine wpY_l rfl rfl ?_
            go_simp
            refine (Of_any x.a x.n x.c x.l _ (HXB7.out.ext E7) (by omega)).mono ?_
            rintro en w8 ⟨rfl, hx8⟩
            have E8 := E7.trans' hx8
            refine ⟨E8, ?_⟩
            iterate 2 ((refine wpY_q rfl rfl _ (fun w' hx' => by go_simp; try rfl) ?_; go_simp))
            refine wpY_nil ?_
            go_wp2
            go_roundw
            case rel => exact ⟨i + 1, by go_num, hin, (HMW7.out.ext E8).congr fun y => (fet_stay HX0.out HNO.out y).2, (HMF7.out.ext E8).congr fun y => (fet_stay HX0.out HNO.out y).1, HX67.out.trans' E8⟩
            case measure => simp [intOf]; omega
          have q3 : ((fp x.l : Int) == (x.s : Int)) = true := by simp [hfs]
          have HIE := Lib.hid (show idOf x.l = x.id from Prod.ext hfs (by show (x.l.length : Int) = x.z; rw [hxl, hxz]))
          clear hxz hfs
          go_wp2
          refine wp_region_e [] (.qs [0, 1, 2, 3, 4, 5, 6, 7, 8, 9, 10, 11, 12, 13, 14, 15, 17, 18] (.l 16 (.qs [19, 20] .nil))) (by kernel_rfl) (by kernel_rfl) ?_
          iterate 2 ((refine wpY_q rfl rfl _ (fun w' hx' => by go_simp; try rfl) ?_; go_simp))
          refine wpY_ld rfl rfl (.tmp 31) rfl w6.heap.size 0 rfl [.int .u64 x.s, .int .i64 x.z] _ HG.out Try.underlying45 rfl (by kernel_rfl) ?_
          go_simp
          refine wpY_lookF rfl rfl Try.kvI (.tmp 30) (.tmp 32) rfl Try.underlying95 (z := .bool false) (fun w' => zero_of (by kernel_rfl) w') rfl (fun w' h => HMW7.out.ext h) kk HKV.out.symm ?_
          rw [HLK.out]
          ((refine wpY_q rfl rfl _ (fun w' hx' => by go_simp; try rfl) ?_; go_simp))
          ((refine wpY_q rfl rfl _ (fun w' hx' => by go_simp; try rfl) ?_; go_simp))
          refine wpY_q rfl rfl (.slice x.a x.n x.c) (fun w' hx' => by have hb' := HC2.out w' hx'; go_simp; try rfl) ?_
          go_simp
          iterate 3 ((refine wpY_q rfl rfl _ (fun w' hx' => by go_simp; try rfl) ?_; go_simp))
          refine wpY_q rfl rfl (.int .i64 x.z) (fun w' hx' => by have hb' := HC1.out w' hx'; go_simp; try rfl) ?_
          go_simp
          iterate 4 ((refine wpY_q rfl rfl _ (fun w' hx' => by go_simp; try rfl) ?_; go_simp))
          refine wpY_q rfl rfl (.slice x.a x.n x.c) (fun w' hx' => by have hb' := HC2.out w' hx'; go_simp; try rfl) ?_
          go_simp
          ((refine wpY_q rfl rfl _ (fun w' hx' => by go_simp; try rfl) ?_; go_simp))
          refine wpY_ld rfl rfl (.tmp 47) rfl w6.heap.size 0 rfl [.int .u64 x.s, .int .i64 x.z] _ HG.out Try.underlying45 rfl (by kernel_rfl) ?_
          go_simp
          refine wpY_l rfl rfl ?_
          go_simp
          refine (Of_any x.a x.n x.c x.l _ (HXB7.out.ext E7) (by omega)).mono ?_
          rintro en w8 ⟨rfl, hx8⟩
          have E8 := E7.trans' hx8
          refine ⟨E8, ?_⟩
          iterate 2 ((refine wpY_q rfl rfl _ (fun w' hx' => by go_simp; try rfl) ?_; go_simp))
          refine wpY_nil ?_
          have hr8 := HG.out w8 E8
          have hc8 := HC2.out w8 E8
          have HH8 := Lib.hid (E8.heap' HH7.out)
          have hmf8 := HMF7.out.ext E8
          have HX8 := Lib.hid (HX67.out.trans' E8)
          have HMW8 := Lib.hid (HMW7.out.ext E8)
          clear q1 q2 q3 HG HC1 HC2 HLK
          go_wp2_with (first
            | ((with_reducible refine atSlot 53 ?_); refine wpList_of_wp rfl (wp_load_mid (op := ⟨some 53, _, _, _, _, _⟩) 45 _ rfl w6.heap.size 0 rfl [.int .u64 x.s, .int .i64 x.z] _ hr8 Try.underlying45 rfl (by kernel_rfl) ?_); clear hr8)
            | ((with_reducible refine atPut 51 ?_); refine wpList_of_wp rfl (owp_put (o := ⟨none, _, _, _, _, _⟩) Try.kvI _ _ _ rfl Try.underlying92 rfl hmf8 kk HKV.out.symm (val := .slice x.a x.n x.c) rfl ?_); intro w9 hm9 hg9; have HM9 := Lib.hid hm9; have HG9 := Lib.hid hg9; clear hm9 hg9; refine Stop.of ?_)
            | fail)
          have hh9 := (HG9.out.block _ (Array.getElem?_eq_some_iff.1 HH8.out).1 (fun e => hbz.2 (by simpa using e))).trans HH8.out
          have hr9 : w9.rangeAt w6.heap.size 0 [.int .u64 x.s, .int .i64 x.z] := fun j v hj => range_heap (cs := [.int .u64 x.s, .int .i64 x.z, .slice x.a x.n x.c]) hh9 j v (by rcases j with _ | _ | j; exact hj; exact hj; simp at hj)
          have hmw9 := HMW8.out.other HG9.out hbb
          have HX9 := Lib.hid (HX8.out.grown HG9.out HX8.out.size (fun k hk => by cases hk; exact hzb2))
          have HMF9 := Lib.hid (HM9.out)
          clear hc8 hmf8 HMW8 hh9
          refine Stop.out ?_
          go_wp2_with (first
            | ((with_reducible refine atSlot 58 ?_); refine wpList_of_wp rfl (wp_load_mid (op := ⟨some 58, _, _, _, _, _⟩) 45 _ rfl w6.heap.size 0 rfl [.int .u64 x.s, .int .i64 x.z] _ hr9 Try.underlying45 rfl (by kernel_rfl) ?_); clear hr9)
            | ((with_reducible refine atPut 56 ?_); refine wpList_of_wp rfl (owp_put (o := ⟨none, _, _, _, _, _⟩) Try.kvI _ _ _ rfl Try.underlying95 rfl hmw9 kk HKV.out.symm (val := .bool false) rfl ?_); intro w10 hm10 hg10; have HM10 := Lib.hid hm10; have HG10 := Lib.hid hg10; clear hm10 hg10)
            | fail)
          go_roundw
          case rel =>
            refine ⟨i + 1, by go_num, hin, HM10.out.congr fun y => ?_, (HMF9.out.other HG10.out (Ne.symm hbb)).congr fun y => ?_, HX9.out.grown HG10.out HX9.out.size (fun k hk => by cases hk; exact hzb)⟩
            · exact (fet_go HX0.out HWT.out.1 HWT.out.2 HIE.out HK1.out y).2
            · exact (fet_go HX0.out HWT.out.1 HWT.out.2 HIE.out HK1.out y).1
          case measure => simp [intOf]; omega
        · obtain rfl : i = n := by omega
          have HMF := Lib.hid hmf
          clear hi hin hmw hmf
          go_wp2
          go_ret
          refine ⟨b2, rfl, ?_, hzb2, hx6⟩
          have h := HMF.out
          rw [List.take_of_length_le (by rw [HL.out.len]; exact Nat.le_refl _)] at h
          exact h
end Go.Proofs.Ytpiodpljiklfkaa
