/-
  Chains: measure, the depths of the links or the error.
-/
import Derived.Test.YtkhjeeaojlaagaaChaA
import Derived.Test.YtkhjeeaojlaagaaDelDc
import Derived.Deep.CutRange
namespace Go.Proofs.Ytkhjeeaojlaagaa
open Go.RowKit

def ints (X : List Int) : Array Value := (X.map (Value.int .i64)).toArray
theorem Try.zeroDepths : Try.zeroCells59 = ints (List.replicate 256 0) := by kernel_rfl
theorem Try.depthsSize : ((Try.prog).info? 59).map (·.size) = some 256 := by kernel_rfl
/-- An array of 256 ints in block g. -/
def Arr (w : World) (g : Nat) (X : List Int) : Prop := X.length = 256 ∧ w.heap[g]? = some (.cells (ints X) 59 (0, 0))
section
variable {w w0 w' : World} {g b : Nat} {X : List Int}
theorem Arr.ext (h : Arr w g X) (hx : Ext w w') : Arr w' g X := ⟨h.1, hx.heap' h.2⟩
theorem Arr.len (h : Arr w g X) : X.length = 256 := h.1
theorem Arr.lt (h : Arr w g X) : g < w.heap.size := (Array.getElem?_eq_some_iff.1 h.2).1
theorem Arr.kept (h : Arr w g X) (hg : w.grownBy w' (some b)) (hb : b ≠ g) : Arr w' g X := ⟨h.1, heap_kept h.2 hg (Ne.symm hb)⟩
theorem Arr.al (h : Arr w g X) (o : Obj) : Arr (w.alloc o) g X := h.ext (Ext.alloc' w o)
theorem Arr.dr (h : Arr w g X) : Arr w.drew g X := h
theorem Arr.st (h : Arr w g X) (hb : b ≠ g) (i : Nat) (v : Value) : Arr (w.setCell ⟨b, i, none⟩ v) g X := h.kept (grown_setCell' w b i v) hb
theorem Arr.set (h : Arr w g X) (i : Nat) (x : Int) : Arr (w.setCell ⟨g, i, none⟩ (.int .i64 x)) g (X.set i x) := by
  refine ⟨by rw [List.length_set]; exact h.1, ?_⟩
  have h2 := h.2
  simp [World.setCell, Array.getElem?_modify, h2, ints]
theorem Arr.at_ (h : Arr w g X) {i : Nat} {x : Int} (hx : X[i]? = some x) : w.cell? ⟨g, i, none⟩ = some (.int .i64 x) := by
  rw [cell_of_row w g i _ _ _ h.2]
  simp [ints, hx]
theorem Arr.free (h : Arr w g X) (i : Nat) : w.frozen? ⟨g, i, none⟩ = false := frozen_none h.2 i
theorem Arr.range (h : Arr w g X) : w.rangeAt g 0 (X.map (Value.int .i64)) := fun j v hj => by
  rw [Nat.zero_add, cell_of_row w g j _ _ _ h.2]
  simpa [ints] using hj
theorem Arr.there (h : Arr w g X) {Y : List Int} (hY : Y.length = 256) : w.there g 0 (ints Y).size := there_box h.2 (by simp [ints, h.1, hY])
theorem ints_size (h : X.length = 256) : ((Try.prog).info? 59).map (·.size) = some (ints X).size := by
  rw [Try.depthsSize]; simp [ints, h]
theorem ints_len (h : X.length = 256) : ((Try.prog).info? 59).map (·.size) = some (X.map (Value.int .i64)).length := by
  rw [Try.depthsSize]; simp [h]
theorem ints_one (X : List Int) : (ints X).all (·.oneCell') = true := by
  simp [ints, Value.oneCell']
theorem Ext.al (h : Ext w0 w) (o : Obj) : Ext w0 (w.alloc o) := h.trans' (Ext.alloc' w o)
theorem Ext.st (h : Ext w0 w) (hb : w0.heap.size ≤ b) (i : Nat) (v : Value) : Ext w0 (w.setCell ⟨b, i, none⟩ v) := h.rd (grown_setCell' w b i v) hb
theorem Ext.sts (h : Ext w0 w) (hb : w0.heap.size ≤ b) (i : Nat) (vs : List Value) : Ext w0 (w.setCells b i vs) := h.rd (grown_setCells b vs i w) hb
end
theorem results_c1 {P : Program} {w : World} {fn : Func} {p t1 : Tmp} {ty : TypeId} (h : fn.results = #[.cell p ty, .tmp t1]) (tmps : Array Value) (g : Nat) (cs : List Value) (d : TypeDesc)
    (hp : tmps.getD p undef = .pointer (some ⟨g, 0, none⟩)) (hc : w.rangeAt g 0 cs)
    (hu : P.underlying ty = some d) (hd : d.isRow = true) (hi : (P.info? ty).map (·.size) = some cs.length) :
    (results fn tmps).run P w = .ok (.tuple #[.agg cs.toArray, tmps.getD t1 undef]) w := by
  have hp' : tmps[p]?.getD undef = .pointer (some ⟨g, 0, none⟩) := by simpa using hp
  simp [results, h, hp', asAddr, run_loadVar_mid w g 0 ty cs d hc hu hd hi]
theorem stF_past : ∀ (A A0 : List Ln) (T : List (List UInt8 × Nat)), Val (A0 ++ A) T → ∀ B, stF (A ++ B) (T.take A0.length) = stF B T
  | [], A0, T, h, B => by
    have h1 := h.1
    rw [List.append_nil] at h1
    rw [List.nil_append, List.take_of_length_le (by omega)]
  | x :: A, A0, T, h, B => by
    obtain ⟨y, h1, h2⟩ := h.2 A0.length x (by rw [List.getElem?_append_right (Nat.le_refl _), Nat.sub_self]; rfl)
    have h3 := stF_past A (A0 ++ [x]) T (by rw [List.append_assoc, List.singleton_append]; exact h) B
    rw [List.cons_append]
    have e : stF (x :: (A ++ B)) (T.take A0.length) = if (lnS (T.take A0.length) x).2 = 0 then stF (A ++ B) (T.take A0.length ++ [(lnS (T.take A0.length) x).1]) else ([], (lnS (T.take A0.length) x).2) := rfl
    rw [e, h2]
    simp only [if_true]
    rw [List.length_append, List.length_singleton, List.take_add_one, h1] at h3
    exact h3
theorem stC_stop {L : List Ln} {S : List (List UInt8 × Nat)} {j : Nat} {x : Ln} {e : Int} (hl : L.length ≤ 256) (hV : Val (L.take j) S) (hx : L[j]? = some x) (he : (lnS S x).2 = e) (hne : e ≠ 0) : stC L = ([], e) := by
  unfold stC
  rw [if_neg (by omega)]
  have h1 := stF_past (L.take j) [] S (by rw [List.nil_append]; exact hV) (L.drop j)
  rw [List.take_append_drop] at h1
  rw [show S.take ([] : List Ln).length = [] from rfl] at h1
  rw [h1]
  have hd : L.drop j = x :: L.drop (j + 1) := by
    obtain ⟨hlt, hxe⟩ := List.getElem?_eq_some_iff.1 hx
    rw [← hxe, ← List.drop_eq_getElem_cons hlt]
  rw [hd]
  unfold stF
  rw [he, if_neg hne]
theorem val_next {L : List Ln} {S : List (List UInt8 × Nat)} {j : Nat} {x : Ln} {y : List UInt8 × Nat} (hV : Val (L.take j) S) (hx : L[j]? = some x) (he : lnS S x = (y, 0)) : Val (L.take (j + 1)) (S ++ [y]) := by
  rw [List.take_add_one, hx]
  exact hV.snoc he
theorem decD_few (base : Int) (l : List UInt8) : (decDRes base l).1.length ≤ 4096 := by
  unfold decDRes decD
  cases h1 : numF 4096 l with
  | none => simp
  | some p =>
    obtain ⟨M, j⟩ := p
    obtain ⟨-, h2, -, -⟩ := numF_some h1
    simp only
    cases h3 : opsF M (l.drop j) with
    | none => simp
    | some q =>
      obtain ⟨os, i⟩ := q
      have h4 := opsF_le _ _ _ _ h3
      simp only
      by_cases h5 : (ckRes base os).2 = 0 ∧ j + i = l.length
      · rw [if_pos h5]; show os.length ≤ _; omega
      · rw [if_neg h5]; simp
/-- Depths and an error. -/
def MsR (w : World) (S : List (List UInt8 × Nat)) (er : Int) (e : Ending) (w' : World) : Prop :=
  ∃ X : List Int, e = .returned (.tuple #[.agg (ints X), .int .i64 er]) ∧ X.length = 256 ∧ (er = 0 → ∀ (k : Nat) (y : List UInt8 × Nat), S[k]? = some y → X[k]? = some (y.2 : Int)) ∧ Ext w w'
def MsRel (w : World) (g : Nat) (L : List Ln) (i : Value) (wr : World) : Prop :=
  ∃ (j : Nat) (S : List (List UInt8 × Nat)) (R X Y : List Int), i = .int .i64 j ∧ j ≤ L.length ∧ Val (L.take j) S ∧ Arr wr g R ∧ Arr wr (g + 1) X ∧ Arr wr (g + 1 + 1) Y ∧
    (∀ (k : Nat) (y : List UInt8 × Nat), S[k]? = some y → X[k]? = some (y.2 : Int) ∧ Y[k]? = some (y.1.length : Int)) ∧ (∀ k, j ≤ k → k < 256 → X[k]? = some 0) ∧ Ext w wr
theorem get_set_or {α : Type} {X : List α} {i k : Nat} {x y : α} (h : (X.set i x)[k]? = some y) : (k = i ∧ y = x) ∨ (k ≠ i ∧ X[k]? = some y) := by
  by_cases hk : k = i
  · subst hk
    rw [List.getElem?_set] at h
    simp only [if_true] at h
    split at h
    · exact .inl ⟨rfl, by cases h; rfl⟩
    · cases h
  · rw [List.getElem?_set_ne (Ne.symm hk)] at h
    exact .inr ⟨hk, h⟩

set_option maxRecDepth 100000 in
set_option maxHeartbeats 8000000 in
theorem measure_any (a : Option Addr) (n c : Nat) (L : List Lk) (w : World) (hL : Links w a n c L) (hn : n ≤ 140737488355328) {S : List (List UInt8 × Nat)} {er : Int} (hr : stC (L.map Lk.d) = (S, er)) :
    Calls Try.prog 36 #[.slice a n c] w (MsR w S er) := by
  have HLN := Lib.hid hL.1
  have HR := Lib.hid hr
  have hrow := hL.2.1
  have hw1 := Ext.alloc' w (.cells Try.zeroCells59 59)
  have hA1 : Arr (w.alloc (.cells Try.zeroCells59 59)) w.heap.size (List.replicate 256 0) := ⟨by simp, by rw [← Try.zeroDepths]; exact heap_alloc_new w _⟩
  have hs1 := World.size_alloc w (.cells Try.zeroCells59 59)
  obtain ⟨w1, e1⟩ : ∃ w1, w1 = w.alloc (.cells Try.zeroCells59 59) := ⟨_, rfl⟩
  rw [← e1] at hw1 hA1 hs1
  have hw2 := Ext.alloc' w1 (.cells Try.zeroCells59 59)
  have hA2 : Arr (w1.alloc (.cells Try.zeroCells59 59)) (w.heap.size + 1) (List.replicate 256 0) := ⟨by simp, by rw [← Try.zeroDepths, ← hs1]; exact heap_alloc_new w1 _⟩
  have hs2 := World.size_alloc w1 (.cells Try.zeroCells59 59)
  obtain ⟨w2, e2⟩ : ∃ w2, w2 = w1.alloc (.cells Try.zeroCells59 59) := ⟨_, rfl⟩
  rw [← e2] at hw2 hA2 hs2
  have hw3 := Ext.alloc' w2 (.cells Try.zeroCells59 59)
  have hA3 : Arr (w2.alloc (.cells Try.zeroCells59 59)) (w.heap.size + 1 + 1) (List.replicate 256 0) := ⟨by simp, by rw [← Try.zeroDepths, show w.heap.size + 1 + 1 = w2.heap.size by omega]; exact heap_alloc_new w2 _⟩
  obtain ⟨w3, e3⟩ : ∃ w3, w3 = w2.alloc (.cells Try.zeroCells59 59) := ⟨_, rfl⟩
  rw [← e3] at hw3 hA3
  have hW : ((w.alloc (.cells Try.zeroCells59 59)).alloc (.cells Try.zeroCells59 59)).alloc (.cells Try.zeroCells59 59) = w3 := by rw [e3, e2, e1]
  have HW := Lib.hid hW
  have hA1' := (hA1.ext hw2).ext hw3
  have hA2' := hA2.ext hw3
  have hx03 := (hw1.trans' hw2).trans' hw3
  clear hr hw1 hw2 hw3 hA1 hA2 hs1 hs2 e1 e2 e3 hW
  obtain ⟨X0, hX0⟩ : ∃ X0 : List Int, X0 = List.replicate 256 0 := ⟨_, rfl⟩
  have hz : ∀ k, 0 ≤ k → k < 256 → X0[k]? = some 0 := fun k _ hk => by rw [hX0, List.getElem?_replicate, if_pos hk]
  obtain ⟨g, hg⟩ : ∃ g, g = w.heap.size := ⟨_, rfl⟩
  rw [← hg, ← hX0] at hA1' hA2' hA3
  have HZ := Lib.hid hz
  have HG := Lib.hid hg
  clear hX0 hz hg
  by_cases hbig : 256 < n
  · have hd : decide ((256 : Int) < n) = true := decide_eq_true (by omega)
    have hr := HR.out
    unfold stC at hr
    rw [if_pos (by rw [List.length_map, HLN.out]; exact hbig)] at hr
    cases hr
    go_enter Try.func36, Try.ntmps36
    go_upto_region 2 with fail
    rw [HW.out, ← HG.out]
    go_wp2_with (first
      | ((with_reducible refine atSlot 13 ?_); refine wpList_of_wp rfl (wp_load_mid (op := ⟨some 13, _, _, _, _, _⟩) 59 _ rfl (g + 1) 0 rfl _ _ hA2'.range Try.underlying59 rfl (ints_len hA2'.1) ?_))
      | ((with_reducible refine atStore 2 ?_); refine wpList_store_mid rfl 59 _ _ rfl g 0 (ints X0) rfl rfl (hA1'.there hA2'.1) (ints_size hA2'.1) (ints_one _) ?_)
      | fail)
    (try simp only [Exit.inBlock, Exit.then]); refine bodyPost_ret (results_c1 rfl _ g (X0.map (Value.int .i64)) _ rfl (World.rangeAt_setCells_same _ _ _ _ (hA1'.there hA2'.1)) Try.underlying59 rfl (ints_len hA2'.1)) rfl ?_
    exact ⟨X0, rfl, hA2'.1, (fun h => by cases h), hx03.sts (Nat.le_of_eq HG.out.symm) _ _⟩
  have hn256 : n ≤ 256 := by omega
  go_enter Try.func36, Try.ntmps36
  go_upto_region 2 with fail
  rw [HW.out, ← HG.out]
  go_wp2
  have HA1 := Lib.hid hA1'
  have HA2 := Lib.hid hA2'
  have HA3 := Lib.hid hA3
  clear hA1' hA2' hA3
  go_loopw [16] (MsRel w g (L.map Lk.d)) (fun i _ => n - (intOf i).toNat)
  case atStart => exact ⟨0, [], X0, X0, X0, rfl, Nat.zero_le _, Val.nil, HA1.out, HA2.out, HA3.out, (fun k y h => by simp at h), HZ.out, hx03⟩
  case round =>
    obtain ⟨j, T, R, X, Y, rfl, hj, hV, hAR, hAX, hAY, hXY, hX0, hx4⟩ := hrel
    rename World => w4
    rw [List.length_map, HLN.out] at hj
    have hgw : w.heap.size ≤ g := Nat.le_of_eq HG.out.symm
    by_cases hjn : j < n
    rotate_left
    · obtain rfl : j = n := by omega
      rw [List.take_of_length_le (by rw [List.length_map, HLN.out]; exact Nat.le_refl _)] at hV
      have hr := HR.out
      rw [hV.st (by rw [List.length_map, HLN.out]; exact hn256)] at hr
      cases hr
      have HXY := Lib.hid hXY
      clear hXY hX0 hV
      go_wp2_with (first
        | ((with_reducible refine atSlot 81 ?_); refine wpList_of_wp rfl (wp_load_mid (op := ⟨some 81, _, _, _, _, _⟩) 59 _ rfl (g + 1) 0 rfl _ _ hAX.range Try.underlying59 rfl (ints_len hAX.1) ?_))
        | ((with_reducible refine atStore 2 ?_); refine wpList_store_mid rfl 59 _ _ rfl g 0 (ints X) rfl rfl (hAR.there hAX.1) (ints_size hAX.1) (ints_one _) ?_)
        | fail)
      (try simp only [Exit.inBlock, Exit.then]); refine bodyPost_ret (results_c1 rfl _ g (X.map (Value.int .i64)) _ rfl (World.rangeAt_setCells_same _ _ _ _ (hAR.there hAX.1)) Try.underlying59 rfl (ints_len hAX.1)) rfl ?_
      exact ⟨X, rfl, hAX.1, (fun _ k y h => (HXY.out k y h).1), hx4.sts (by omega) _ _⟩
    obtain ⟨k, hk⟩ : ∃ k, L[j]? = some k := ⟨_, List.getElem?_eq_getElem (by have := HLN.out; omega)⟩
    have hkI := (hL.2.2 k (List.mem_of_getElem? hk)).ext hx4
    have hkd : (L.map Lk.d)[j]? = some k.d := by rw [List.getElem?_map, hk]; rfl
    have hr4 := hrow.ext hx4
    obtain ⟨hkb, hkn, hki⟩ := hkI
    have hki' : -9223372036854775808 ≤ k.b ∧ k.b ≤ 9223372036854775807 := hki
    have hTl : T.length = j := by rw [hV.1, List.length_take, List.length_map, HLN.out]; omega
    have HK := Lib.hid hk
    have hkl := hkb.len
    have hstop : ∀ e, (lnS T k.d).2 = e → e ≠ 0 → S = [] ∧ er = e := fun e h1 h2 => by
      have h3 := stC_stop (by rw [List.length_map, HLN.out]; exact hn256) hV hkd h1 h2
      have hr := HR.out
      rw [h3] at hr
      cases hr; exact ⟨rfl, rfl⟩
    have hnext : ∀ y, lnS T k.d = (y, 0) → Val ((L.map Lk.d).take (j + 1)) (T ++ [y]) := fun y h => val_next hV hkd h
    have HST := Lib.hid hstop
    have HNX := Lib.hid hnext
    have HXY := Lib.hid hXY
    have HX0 := Lib.hid hX0
    have HKB := Lib.hid hkb
    have HTL := Lib.hid hTl
    have HVT := Lib.hid hV
    clear hk hkd hstop hnext hXY hX0 hkb hTl hki hV
    obtain ⟨kb, ka, kn, kc, kl⟩ := k
    have hcs := lnS_cases T ⟨kb, kl⟩
    have HCS := Lib.hid hcs
    clear hcs
    simp only at hkn hki' hkl
    rcases HCS.out with ⟨h1, h2⟩ | ⟨h1, h2, h3⟩ | ⟨h1, h2, h3⟩ | ⟨jj, ct, dt, h1, h2, h3, h4⟩
    · -- a base out of reach
      obtain ⟨rfl, rfl⟩ := HST.out 270 (by show (lnS T ⟨kb, kl⟩).2 = 270; rw [h2]) (by decide)
      rw [HTL.out] at h1
      have h1' : kb < -1 ∨ (j : Int) ≤ kb := h1
      clear h1 h2
      have hXl := hAX.1
      rcases h1' with h1 | h1
      · have hd : decide (kb < -1) = true := decide_eq_true h1
        go_wp2_with (first
          | ((with_reducible refine atSlot 19 ?_); refine wpList_of_wp rfl (owp_ix (o := ⟨some 19, _, _, _, _, _⟩) _ _ rfl Try.elLk rfl hr4 j rfl rfl hjn ?_); intro b3 o3 hc3; have hrg3 := lk_range HK.out hc3; clear hc3)
          | ((with_reducible refine atSlot 20 ?_); refine wpList_of_wp rfl (wp_load_mid (op := ⟨some 20, _, _, _, _, _⟩) 45 _ rfl b3 o3 rfl _ _ hrg3 Try.underlying45 rfl (by kernel_rfl) ?_); simp only [Lk.cells]; clear hrg3)
          | ((with_reducible refine atSlot 30 ?_); refine wpList_of_wp rfl (wp_load_mid (op := ⟨some 30, _, _, _, _, _⟩) 59 _ rfl (g + 1) 0 rfl _ _ (Arr.range (hAX.al _)) Try.underlying59 rfl (ints_len hXl) ?_))
          | ((with_reducible refine atStore 2 ?_); refine wpList_store_mid rfl 59 _ _ rfl g 0 (ints X) rfl rfl (Arr.there (hAR.al _) hXl) (ints_size hXl) (ints_one _) ?_)
          | fail)
        (try simp only [Exit.inBlock, Exit.then]); refine bodyPost_ret (results_c1 rfl _ g (X.map (Value.int .i64)) _ rfl (World.rangeAt_setCells_same _ _ _ _ ((hAR.al _).there hXl)) Try.underlying59 rfl (ints_len hXl)) rfl ?_
        exact ⟨X, rfl, hXl, (fun h => by cases h), (hx4.al _).sts hgw _ _⟩
      · have hd : decide (kb < -1) = false := decide_eq_false (by omega)
        go_wp2_with (first
          | ((with_reducible refine atSlot 19 ?_); refine wpList_of_wp rfl (owp_ix (o := ⟨some 19, _, _, _, _, _⟩) _ _ rfl Try.elLk rfl hr4 j rfl rfl hjn ?_); intro b3 o3 hc3; have hrg3 := lk_range HK.out hc3; clear hc3)
          | ((with_reducible refine atSlot 20 ?_); refine wpList_of_wp rfl (wp_load_mid (op := ⟨some 20, _, _, _, _, _⟩) 45 _ rfl b3 o3 rfl _ _ hrg3 Try.underlying45 rfl (by kernel_rfl) ?_); simp only [Lk.cells]; clear hrg3)
          | ((with_reducible refine atSlot 30 ?_); refine wpList_of_wp rfl (wp_load_mid (op := ⟨some 30, _, _, _, _, _⟩) 59 _ rfl (g + 1) 0 rfl _ _ (Arr.range (hAX.al _)) Try.underlying59 rfl (ints_len hXl) ?_))
          | ((with_reducible refine atStore 2 ?_); refine wpList_store_mid rfl 59 _ _ rfl g 0 (ints X) rfl rfl (Arr.there (hAR.al _) hXl) (ints_size hXl) (ints_one _) ?_)
          | fail)
        (try simp only [Exit.inBlock, Exit.then]); refine bodyPost_ret (results_c1 rfl _ g (X.map (Value.int .i64)) _ rfl (World.rangeAt_setCells_same _ _ _ _ ((hAR.al _).there hXl)) Try.underlying59 rfl (ints_len hXl)) rfl ?_
        exact ⟨X, rfl, hXl, (fun h => by cases h), (hx4.al _).sts hgw _ _⟩
    · obtain ⟨rfl, rfl⟩ := HST.out 274 (by show (lnS T ⟨kb, kl⟩).2 = 274; rw [h3]) (by decide)
      obtain rfl : kb = -1 := h1
      have h2' : 1048576 < kn := by rw [← hkl]; exact h2
      obtain ⟨yj, hyj⟩ : ∃ yj, Y[j]? = some yj := ⟨_, List.getElem?_eq_getElem (by have := hAY.1; omega)⟩
      have hcY : ∀ o, (w4.alloc o).cell? ⟨g + 1 + 1, j, none⟩ = some (.int .i64 yj) := fun o => (hAY.al o).at_ hyj
      have hfY : ∀ o, (w4.alloc o).frozen? ⟨g + 1 + 1, j, none⟩ = false := fun o => (hAY.al o).free j
      have hXl := hAX.1
      clear h2 h3
      go_upto_region 11 with (first
        | ((with_reducible refine atSlot 19 ?_); refine wpList_of_wp rfl (owp_ix (o := ⟨some 19, _, _, _, _, _⟩) _ _ rfl Try.elLk rfl hr4 j rfl rfl hjn ?_); intro b3 o3 hc3; have hrg3 := lk_range HK.out hc3; clear hc3)
        | ((with_reducible refine atSlot 20 ?_); refine wpList_of_wp rfl (wp_load_mid (op := ⟨some 20, _, _, _, _, _⟩) 45 _ rfl b3 o3 rfl _ _ hrg3 Try.underlying45 rfl (by kernel_rfl) ?_); simp only [Lk.cells]; clear hrg3)
        | fail)
      have hA4 : Arr ((w4.alloc (.cells #[.int .i64 (-1), .slice ka kn kc] 45)).setCell ⟨g + 1 + 1, j, none⟩ (.int .i64 (kn : Int))) (g + 1 + 1) (Y.set j (kn : Int)) := (hAY.al _).set j kn
      have hB4 : Arr ((w4.alloc (.cells #[.int .i64 (-1), .slice ka kn kc] 45)).setCell ⟨g + 1 + 1, j, none⟩ (.int .i64 (kn : Int))) (g + 1) X := (hAX.al _).st (by omega) _ _
      have hC4 : Arr ((w4.alloc (.cells #[.int .i64 (-1), .slice ka kn kc] 45)).setCell ⟨g + 1 + 1, j, none⟩ (.int .i64 (kn : Int))) g R := (hAR.al _).st (by omega) _ _
      have hE4 : Ext w ((w4.alloc (.cells #[.int .i64 (-1), .slice ka kn kc] 45)).setCell ⟨g + 1 + 1, j, none⟩ (.int .i64 (kn : Int))) := (hx4.al _).st (by omega) _ _
      clear hcY hfY hAR hAX hAY hr4 hx4
      generalize (w4.alloc (.cells #[.int .i64 (-1), .slice ka kn kc] 45)).setCell ⟨g + 1 + 1, j, none⟩ (.int .i64 (kn : Int)) = w5 at hA4 hB4 hC4 hE4 ⊢
      have hjY : (Y.set j (kn : Int))[j]? = some (kn : Int) := by
        rw [List.getElem?_set]; simp [(List.getElem?_eq_some_iff.1 hyj).1]
      have hc5 := hA4.at_ hjY
      have hd5 : decide ((1048576 : Int) < kn) = true := decide_eq_true (by omega)
      go_wp2_with (first
        | ((with_reducible refine atSlot 43 ?_); refine wpList_of_wp rfl (wp_load_mid (op := ⟨some 43, _, _, _, _, _⟩) 59 _ rfl (g + 1) 0 rfl _ _ (Arr.range hB4) Try.underlying59 rfl (ints_len hXl) ?_))
        | ((with_reducible refine atStore 2 ?_); refine wpList_store_mid rfl 59 _ _ rfl g 0 (ints X) rfl rfl (Arr.there hC4 hXl) (ints_size hXl) (ints_one _) ?_)
        | fail)
      (try simp only [Exit.inBlock, Exit.then]); refine bodyPost_ret (results_c1 rfl _ g (X.map (Value.int .i64)) _ rfl (World.rangeAt_setCells_same _ _ _ _ (Arr.there hC4 hXl)) Try.underlying59 rfl (ints_len hXl)) rfl ?_
      exact ⟨X, rfl, hXl, (fun h => by cases h), hE4.sts hgw _ _⟩
    · obtain rfl : kb = -1 := h1
      have h2' : kn ≤ 1048576 := by rw [← hkl]; exact h2
      have hV' := HNX.out _ h3
      have HV := Lib.hid hV'
      obtain ⟨yj, hyj⟩ : ∃ yj, Y[j]? = some yj := ⟨_, List.getElem?_eq_getElem (by have := hAY.1; omega)⟩
      have hcY : ∀ o, (w4.alloc o).cell? ⟨g + 1 + 1, j, none⟩ = some (.int .i64 yj) := fun o => (hAY.al o).at_ hyj
      have hfY : ∀ o, (w4.alloc o).frozen? ⟨g + 1 + 1, j, none⟩ = false := fun o => (hAY.al o).free j
      have hXl := hAX.1
      clear h2 h3 hV' HST HNX HCS
      go_upto_region 11 with (first
        | ((with_reducible refine atSlot 19 ?_); refine wpList_of_wp rfl (owp_ix (o := ⟨some 19, _, _, _, _, _⟩) _ _ rfl Try.elLk rfl hr4 j rfl rfl hjn ?_); intro b3 o3 hc3; have hrg3 := lk_range HK.out hc3; clear hc3)
        | ((with_reducible refine atSlot 20 ?_); refine wpList_of_wp rfl (wp_load_mid (op := ⟨some 20, _, _, _, _, _⟩) 45 _ rfl b3 o3 rfl _ _ hrg3 Try.underlying45 rfl (by kernel_rfl) ?_); simp only [Lk.cells]; clear hrg3)
        | fail)
      have hA4 : Arr ((w4.alloc (.cells #[.int .i64 (-1), .slice ka kn kc] 45)).setCell ⟨g + 1 + 1, j, none⟩ (.int .i64 (kn : Int))) (g + 1 + 1) (Y.set j (kn : Int)) := (hAY.al _).set j kn
      have hB4 : Arr ((w4.alloc (.cells #[.int .i64 (-1), .slice ka kn kc] 45)).setCell ⟨g + 1 + 1, j, none⟩ (.int .i64 (kn : Int))) (g + 1) X := (hAX.al _).st (by omega) _ _
      have hC4 : Arr ((w4.alloc (.cells #[.int .i64 (-1), .slice ka kn kc] 45)).setCell ⟨g + 1 + 1, j, none⟩ (.int .i64 (kn : Int))) g R := (hAR.al _).st (by omega) _ _
      have hE4 : Ext w ((w4.alloc (.cells #[.int .i64 (-1), .slice ka kn kc] 45)).setCell ⟨g + 1 + 1, j, none⟩ (.int .i64 (kn : Int))) := (hx4.al _).st (by omega) _ _
      clear hcY hfY hAR hAX hAY hr4 hx4
      generalize (w4.alloc (.cells #[.int .i64 (-1), .slice ka kn kc] 45)).setCell ⟨g + 1 + 1, j, none⟩ (.int .i64 (kn : Int)) = w5 at hA4 hB4 hC4 hE4 ⊢
      have hjY : (Y.set j (kn : Int))[j]? = some (kn : Int) := by
        rw [List.getElem?_set]; simp [(List.getElem?_eq_some_iff.1 hyj).1]
      have hc5 := hA4.at_ hjY
      have HJY := Lib.hid hjY
      have hd5 : decide ((1048576 : Int) < kn) = false := decide_eq_false (by omega)
      clear hjY
      go_wp2
      go_roundw
      case rel =>
        refine ⟨j + 1, T ++ [(kl, 0)], R, X, Y.set j (kn : Int), by go_num, by rw [List.length_map, HLN.out]; omega, HV.out, hC4, hB4, hA4, fun k y hk => ?_, fun k h1 h2 => HX0.out k (by omega) h2, hE4⟩
        by_cases hkj : k < T.length
        · rw [List.getElem?_append_left hkj] at hk
          obtain ⟨g1, g2⟩ := HXY.out k y hk
          exact ⟨g1, by rw [List.getElem?_set_ne (by have := HTL.out; omega)]; exact g2⟩
        · have hk2 : k = T.length := by
            have := (List.getElem?_eq_some_iff.1 hk).1
            rw [List.length_append, List.length_singleton] at this
            omega
          subst hk2
          rw [List.getElem?_concat_length] at hk
          cases hk
          rw [HTL.out]
          exact ⟨HX0.out j (Nat.le_refl _) (by omega), by rw [HJY.out, ← hkl]⟩
      case measure => simp [intOf]; omega
    · obtain rfl : kb = (jj : Int) := h1
      rw [HTL.out] at h2
      obtain ⟨hX1, hY1⟩ := HXY.out jj (ct, dt) h3
      have hjj : jj < 256 := by omega
      have hct : ct.length ≤ 1048576 ∧ dt ≤ 8 := by
        have := HVT.out.size (List.mem_of_getElem? h3)
        exact this
      obtain ⟨hct, hdt⟩ := hct
      have hXl := hAX.1
      have hE5 := Ext.alloc' w4 (.cells #[.int .i64 (jj : Int), .slice ka kn kc] 45)
      have hbx := heap_alloc_new w4 (.cells #[.int .i64 (jj : Int), .slice ka kn kc] 45)
      obtain ⟨D, e0, hdec⟩ : ∃ D e0, decDRes (ct.length : Int) kl = (D, e0) := ⟨_, _, rfl⟩
      have hd1 : decide ((jj : Int) < -1) = false := decide_eq_false (by omega)
      have hd2 : decide ((j : Int) ≤ jj) = false := decide_eq_false (by omega)
      have HDC := Lib.hid hdec
      have HH4 := Lib.hid h4
      have HH3 := Lib.hid h3
      clear h3 h4 hdec HCS
      go_upto_region 13 with (first
        | ((with_reducible refine atSlot 19 ?_); refine wpList_of_wp rfl (owp_ix (o := ⟨some 19, _, _, _, _, _⟩) _ _ rfl Try.elLk rfl hr4 j rfl rfl hjn ?_); intro b3 o3 hc3; have hrg3 := lk_range HK.out hc3; clear hc3)
        | ((with_reducible refine atSlot 20 ?_); refine wpList_of_wp rfl (wp_load_mid (op := ⟨some 20, _, _, _, _, _⟩) 45 _ rfl b3 o3 rfl _ _ hrg3 Try.underlying45 rfl (by kernel_rfl) ?_); simp only [Lk.cells]; clear hrg3)
        | fail)
      have hAR5 := hAR.ext hE5
      have hAX5 := hAX.ext hE5
      have hAY5 := hAY.ext hE5
      have hx5 := hx4.trans' hE5
      have hB5 : ∀ w', Ext (w4.alloc (.cells #[.int .i64 (jj : Int), .slice ka kn kc] 45)) w' → Bytes w' ka kn kc kl := fun w' h => HKB.out.ext (hE5.trans' h)
      have hbl := hAR.lt
      have hbl2 := hAX.lt
      have hbl3 := hAY.lt
      obtain ⟨bx, hbxe⟩ : ∃ bx, bx = w4.heap.size := ⟨_, rfl⟩
      rw [← hbxe] at hbx hbl hbl2 hbl3 ⊢
      clear hAR hAX hAY hr4 hx4 hE5 hbxe hd1 hd2
      generalize w4.alloc (.cells #[.int .i64 (jj : Int), .slice ka kn kc] 45) = w5 at hAR5 hAX5 hAY5 hx5 hB5 hbx ⊢
      have hAb : ∀ w' i, Ext w5 w' → w'.cell? ⟨bx, i, none⟩ = #[.int .i64 (jj : Int), .slice ka kn kc][i]? := fun w' i hx => cell_of_row _ _ _ _ _ _ (hx.heap' hbx)
      have hAy : ∀ w', Ext w5 w' → w'.cell? ⟨g + 1 + 1, jj, none⟩ = some (.int .i64 (ct.length : Int)) := fun w' hx => (hAY5.ext hx).at_ hY1
      refine wp_region_e [] (.qs [0, 1, 2, 3, 4, 5] (.l 6 (.qs [7, 8, 9, 10, 11] .nil))) (by kernel_rfl) (by kernel_rfl) ?_
      iterate 2 ((refine wpY_q rfl rfl _ (fun w' hx' => by go_simp; try rfl) ?_; go_simp))
      refine wpY_q rfl rfl (.pointer (some ⟨g + 1 + 1, jj, none⟩)) (fun w' hx' => by go_simp; intro h; exact absurd h (by omega)) ?_
      go_simp
      iterate 3 ((refine wpY_q rfl rfl _ (fun w' hx' => by go_simp; try rfl) ?_; go_simp))
      refine wpY_l rfl rfl ?_
      go_simp
      refine (Decode_any (ct.length : Int) ka kn kc kl _ (hB5 _ (Ext.drew' w5)) hkn HDC.out).mono ?_
      rintro e w6 ⟨a6, n6, c6, L6, rfl, hO6, hD6, -, hx6⟩
      have E6 := (Ext.drew' w5).trans' hx6
      refine ⟨E6, ?_⟩
      go_simp
      iterate 5 ((refine wpY_q rfl rfl _ (fun w' hx' => by go_simp; try rfl) ?_; go_simp))
      refine wpY_nil ?_
      clear hAb hAy hB5
      have hAR6 := hAR5.ext E6
      have hAX6 := hAX5.ext E6
      have hAY6 := hAY5.ext E6
      have hx06 := hx5.trans' E6
      have hb6 := E6.heap' hbx
      clear hAR5 hAX5 hAY5 hx5 E6 hx6 hbx
      rcases HH4.out with ⟨h5, h6⟩ | ⟨os, h5, h8, h6⟩ | ⟨os, h5, h8, h6⟩
      · obtain ⟨rfl, rfl⟩ := HST.out 270 (by show (lnS T ⟨(jj : Int), kl⟩).2 = 270; rw [h6]) (by decide)
        have hdc := HDC.out
        unfold decDRes at hdc
        rw [h5] at hdc
        cases hdc
        clear h5 h6
        go_wp2_with (first
          | ((with_reducible refine atSlot 56 ?_); refine wpList_of_wp rfl (wp_load_mid (op := ⟨some 56, _, _, _, _, _⟩) 59 _ rfl (g + 1) 0 rfl _ _ (Arr.range hAX6) Try.underlying59 rfl (ints_len hXl) ?_))
          | ((with_reducible refine atStore 2 ?_); refine wpList_store_mid rfl 59 _ _ rfl g 0 (ints X) rfl rfl (Arr.there hAR6 hXl) (ints_size hXl) (ints_one _) ?_)
          | fail)
        (try simp only [Exit.inBlock, Exit.then]); refine bodyPost_ret (results_c1 rfl _ g (X.map (Value.int .i64)) _ rfl (World.rangeAt_setCells_same _ _ _ _ (Arr.there hAR6 hXl)) Try.underlying59 rfl (ints_len hXl)) rfl ?_
        exact ⟨X, rfl, hXl, (fun h => by cases h), hx06.sts hgw _ _⟩
      all_goals
        have hdc := HDC.out
        unfold decDRes at hdc
        rw [h5] at hdc
        cases hdc
        obtain ⟨hck, hsz, hok⟩ := decD_ck h5
        have hap : (appD ct D).length = sizeD D := appD_length hok
        have hn6 : n6 ≤ 4096 := by
          have h := decD_few (ct.length : Int) kl
          have h9 : decDRes (ct.length : Int) kl = (D, 0) := by unfold decDRes; rw [h5]
          rw [h9, ← hD6, List.length_map, hO6.len] at h
          exact h
        rw [← hD6] at hck
        obtain ⟨yj, hyj⟩ : ∃ yj, Y[j]? = some yj := ⟨_, List.getElem?_eq_getElem (by have := hAY6.1; omega)⟩
        have hxj := HX0.out j (Nat.le_refl _) (by omega)
        have hz6 : sizeD D ≤ 1048576 := hsz
        have HCK := Lib.hid hck
        have HAP := Lib.hid hap
        clear hck hap hsz hok
        have hchk : Calls Try.prog 45 #[.int .i64 (ct.length : Int), .slice a6 n6 c6] w6 (NewNone (.tuple #[.int .i64 (sizeD D : Nat), .int .i64 0]) w6) := by
          have h := Check_any (ct.length : Int) a6 n6 c6 L6 w6 hO6.ops (by omega) HCK.out
          rwa [hD6] at h
        have hc2 := hAY6.at_ hY1
        have hb61 : ∀ i, w6.cell? ⟨bx, i, none⟩ = #[.int .i64 (jj : Int), .slice ka kn kc][i]? := fun i => cell_of_row _ _ i _ _ _ hb6
        have hcY : ∀ w', Ext w6 w' → w'.cell? ⟨g + 1 + 1, j, none⟩ = some (.int .i64 yj) := fun w' h => (hAY6.ext h).at_ hyj
        have hfY : ∀ w', Ext w6 w' → w'.frozen? ⟨g + 1 + 1, j, none⟩ = false := fun w' h => (hAY6.ext h).free j
        have HCH := Lib.hid hchk
        have HCY := Lib.hid hcY
        have HFY := Lib.hid hfY
        clear hchk hcY hfY
        go_upto_region 17 with (first
          | (go_at_call 45; (with_reducible refine HCH.out.mono ?_); rintro e w7 ⟨rfl, hx7⟩; clear hc2 hb61; have hq1 := HCY.out w7 hx7; have hq2 := HFY.out w7 hx7)
          | fail)
        have hAY8 := (hAY6.ext hx7).set j (sizeD D : Nat)
        have hAX8 := (hAX6.ext hx7).st (b := g + 1 + 1) (by omega) j (.int .i64 (sizeD D : Nat))
        have hAR8 := (hAR6.ext hx7).st (b := g + 1 + 1) (by omega) j (.int .i64 (sizeD D : Nat))
        have hx8 := (hx06.trans' hx7).st (b := g + 1 + 1) (by omega) j (.int .i64 (sizeD D : Nat))
        have hb8 := heap_kept (hx7.heap' hb6) (grown_setCell' w7 (g + 1 + 1) j (.int .i64 (sizeD D : Nat))) (by omega)
        clear hq1 hq2 hAY6 hAX6 hAR6 hx06 hb6 hx7 hO6 hD6
        generalize w7.setCell ⟨g + 1 + 1, j, none⟩ (.int .i64 (sizeD D : Nat)) = w8 at hAY8 hAX8 hAR8 hx8 hb8 ⊢
        have hb81 : ∀ i, w8.cell? ⟨bx, i, none⟩ = #[.int .i64 (jj : Int), .slice ka kn kc][i]? := fun i => cell_of_row _ _ i _ _ _ hb8
        have hq1 := hAX8.at_ hX1
        have hq2 := hAX8.at_ hxj
        have hq3 := hAX8.free j
        go_upto_region 18 with fail
        have hAX9 := hAX8.set j ((dt : Int) + 1)
        have hAY9 := hAY8.st (b := g + 1) (by omega) j (.int .i64 ((dt : Int) + 1))
        have hAR9 := hAR8.st (b := g + 1) (by omega) j (.int .i64 ((dt : Int) + 1))
        have hx9 := hx8.st (b := g + 1) (by omega) j (.int .i64 ((dt : Int) + 1))
        clear hb81 hq1 hq2 hq3 hAY8 hAX8 hAR8 hx8 hb8
        generalize w8.setCell ⟨g + 1, j, none⟩ (.int .i64 ((dt : Int) + 1)) = w9 at hAX9 hAY9 hAR9 hx9 ⊢
        have hjX : (X.set j ((dt : Int) + 1))[j]? = some ((dt : Int) + 1) := by
          rw [List.getElem?_set]; simp [(List.getElem?_eq_some_iff.1 hxj).1]
        have hjY : (Y.set j (sizeD D : Nat))[j]? = some ((sizeD D : Nat) : Int) := by
          rw [List.getElem?_set]; simp [(List.getElem?_eq_some_iff.1 hyj).1]
        have hq1 := hAX9.at_ hjX
        have HJX := Lib.hid hjX
        have HJY := Lib.hid hjY
        have hXl := hAX9.1
        clear hjX hjY
      · obtain ⟨rfl, rfl⟩ := HST.out 271 (by show (lnS T ⟨(jj : Int), kl⟩).2 = 271; rw [h6]) (by decide)
        have hd5 : decide ((8 : Int) < (dt : Int) + 1) = true := decide_eq_true (by omega)
        clear h5 h6
        go_wp2_with (first
          | ((with_reducible refine atSlot 79 ?_); refine wpList_of_wp rfl (wp_load_mid (op := ⟨some 79, _, _, _, _, _⟩) 59 _ rfl (g + 1) 0 rfl _ _ (Arr.range hAX9) Try.underlying59 rfl (ints_len hXl) ?_))
          | ((with_reducible refine atStore 2 ?_); refine wpList_store_mid rfl 59 _ _ rfl g 0 (ints (X.set j ((dt : Int) + 1))) rfl rfl (Arr.there hAR9 hXl) (ints_size hXl) (ints_one _) ?_)
          | fail)
        (try simp only [Exit.inBlock, Exit.then]); refine bodyPost_ret (results_c1 rfl _ g ((X.set j ((dt : Int) + 1)).map (Value.int .i64)) _ rfl (World.rangeAt_setCells_same _ _ _ _ (Arr.there hAR9 hXl)) Try.underlying59 rfl (ints_len hXl)) rfl ?_
        exact ⟨_, rfl, hXl, (fun h => by cases h), hx9.sts hgw _ _⟩
      · have hV' := HNX.out _ h6
        have HV := Lib.hid hV'
        have hd5 : decide ((8 : Int) < (dt : Int) + 1) = false := decide_eq_false (by omega)
        clear h5 h6 hV'
        go_wp2
        go_roundw
        case rel =>
          refine ⟨j + 1, T ++ [(appD ct D, dt + 1)], R, X.set j ((dt : Int) + 1), Y.set j (sizeD D : Nat), by go_num, by rw [List.length_map, HLN.out]; omega, HV.out, hAR9, hAX9, hAY9, fun k y hk => ?_, fun k h1 h2 => ?_, hx9⟩
          · by_cases hkj : k < T.length
            · rw [List.getElem?_append_left hkj] at hk
              obtain ⟨g1, g2⟩ := HXY.out k y hk
              exact ⟨by rw [List.getElem?_set_ne (by have := HTL.out; omega)]; exact g1, by rw [List.getElem?_set_ne (by have := HTL.out; omega)]; exact g2⟩
            · have hk2 : k = T.length := by
                have := (List.getElem?_eq_some_iff.1 hk).1
                rw [List.length_append, List.length_singleton] at this
                omega
              subst hk2
              rw [List.getElem?_concat_length] at hk
              cases hk
              rw [HTL.out]
              exact ⟨HJX.out, by rw [HJY.out, HAP.out]⟩
          · rw [List.getElem?_set_ne (by omega)]
            exact HX0.out k (by omega) h2
        case measure => simp [intOf]; omega
end Go.Proofs.Ytkhjeeaojlaagaa
