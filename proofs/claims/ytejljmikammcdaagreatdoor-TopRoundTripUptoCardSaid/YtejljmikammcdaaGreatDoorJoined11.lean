/-
  Several texts in one: VwA, VwB, VwC, VwD.
-/
import Derived.Test.YtejljmikammcdaaGreatDoorMaI
/-
  Layer view: Check, valid, the closures of matchesLeft and matchesRight, last.
-/
namespace Go.Proofs.YtejljmikammcdaaGreatDoor
open Go.RowKit

/-! ### A list of lines in memory -/
structure RlsI (w : World) (S : Nat) (a : Option Addr) (c : Nat) (L : List Rl) : Prop where
  row : Row w a L.length c 5 (L.flatMap Rl.cells)
  each : ∀ q ∈ L, RlI w S q
theorem RlsI.ext {w w' : World} {S c : Nat} {a : Option Addr} {L : List Rl} (h : RlsI w S a c L) (hx : Ext w w') : RlsI w' S a c L := ⟨h.row.ext hx, fun q hq => (h.each q hq).ext hx⟩
theorem Tryz.elRl : Elem Tryz.prog 22 48 5 72 (.agg #[.bool false, .slice none 0 0, .bool false, .slice none 0 0, .bool false]) := ⟨Tryz.underlying22, by kernel_rfl, rfl, by decide⟩
def Rl.R (k : Rl) : Rul := ⟨k.x, k.l.P, k.r.P⟩
structure OkVm (v : List Rl) : Prop where
  each : ∀ k ∈ v, OkR k.l.P k.r.P
  len : v.length ≤ 16
theorem OkVm.v {v : List Rl} (h : OkVm v) : OkV (v.map Rl.R) := fun r hr => by
  obtain ⟨k, hk, rfl⟩ := List.mem_map.1 hr
  exact h.each k hk

def VckO (v : List Rl) (w : World) (en : Ending) (w' : World) : Prop := ∃ i e : Nat, en = .returned (.tuple #[.int .i64 (i : Nat), .int .i64 (e : Nat)]) ∧ (e = 0 ↔ OkVm v) ∧ Ext w w'
def V1Rel (w : World) (v : List Rl) (v8 : Value) (wr : World) : Prop := ∃ j : Nat, v8 = .int .i64 j ∧ j ≤ v.length ∧ (∀ i k, i < j → v[i]? = some k → OkR k.l.P k.r.P) ∧ Ext w wr
set_option maxRecDepth 100000 in
set_option maxHeartbeats 4000000 in
theorem VCheck_any (v : List Rl) (a : Option Addr) (c S : Nat) (w : World) (h : RlsI w S a c v) (hS : S ≤ 1073741824) : Calls Tryz.prog 16 #[.slice a v.length c] w (VckO v w) := by
  have hmx : v.length ≤ 9223372036854775807 := by have h1 := h.row.max; have h2 := h.row.le; simp only [maxLen] at h1; omega
  have HROW := Lib.hid fun w' (hx : Ext w w') => h.row.ext hx
  have HRC := Lib.hid fun (k : Rl) (hk : k ∈ v) w' (hx : Ext w w') => RCheck_any k S w' ((h.each k hk).ext hx) (by omega)
  obtain ⟨post, hpo⟩ : ∃ q : Ending → World → Prop, q = VckO v w := ⟨_, rfl⟩
  rw [← hpo]
  have HPO := Lib.hid hpo
  clear hpo h
  go_enter Tryz.func16, Tryz.ntmps16
  go_upto_region 2 with fail
  go_loopw [8] (V1Rel w v) (fun i _ => v.length - (intOf i).toNat)
  case atStart => exact ⟨0, rfl, Nat.zero_le _, (fun i k h => by omega), Below.refl _ _⟩
  case round =>
    obtain ⟨j, rfl, hj, hall, hx⟩ := hrel
    rename World => wd
    have HXD := Lib.hid (show Ext w wd from hx)
    have HALL := Lib.hid hall
    clear hx hall
    by_cases hjl : j < v.length
    · obtain ⟨k, hk⟩ : ∃ k, v[j]? = some k := ⟨_, List.getElem?_eq_getElem hjl⟩
      have HK := Lib.hid hk
      have HI := Lib.hid (HRC.out k (List.mem_of_getElem? hk))
      have hrow := HROW.out wd HXD.out
      have HPN := Lib.hid (put_new wd #[.bool false, .slice none 0 0, .bool false, .slice none 0 0, .bool false] #[.bool k.x, .slice k.l.a k.l.n k.l.c, .bool k.l.P.rest, .slice k.r.a k.r.n k.r.c, .bool k.r.P.rest] 48)
      have HNN := heap_alloc_new wd (.cells #[.bool false, .slice none 0 0, .bool false, .slice none 0 0, .bool false] 48)
      have hr13 := (box5 HPN.out.2).2.2.2
      clear hk
      go_upto_if 15 with (first
        | ((with_reducible refine atSlot 11 ?_); refine wpList_of_wp rfl (owp_ix (o := ⟨some 11, _, _, _, _, _⟩) _ _ rfl Tryz.elRl rfl hrow j rfl rfl hjl ?_); intro b1 o1 hc2; have hd := flat_range rl_five HK.out hc2; clear hc2 hrow)
        | ((with_reducible refine atSlot 12 ?_); refine wpList_of_wp rfl (wp_load_mid (op := ⟨some 12, _, _, _, _, _⟩) 48 _ rfl b1 o1 rfl [.bool k.x, .slice k.l.a k.l.n k.l.c, .bool k.l.P.rest, .slice k.r.a k.r.n k.r.c, .bool k.r.P.rest] _ hd Tryz.underlying48 rfl (by kernel_rfl) ?_); clear hd)
        | ((with_reducible refine atStore 5 ?_); refine wpList_of_wp rfl (wp_store_row (o := ⟨none, _, _, _, _, _⟩) _ _ _ rfl wd.heap.size #[.bool k.x, .slice k.l.a k.l.n k.l.c, .bool k.l.P.rest, .slice k.r.a k.r.n k.r.c, .bool k.r.P.rest] rfl rfl _ _ HNN (by kernel_rfl) rfl (by simp [Value.oneCell']) ?_); clear HNN)
        | ((with_reducible refine atSlot 13 ?_); refine wpList_of_wp rfl (wp_load_mid (op := ⟨some 13, _, _, _, _, _⟩) 48 _ rfl wd.heap.size 0 rfl [.bool k.x, .slice k.l.a k.l.n k.l.c, .bool k.l.P.rest, .slice k.r.a k.r.n k.r.c, .bool k.r.P.rest] _ hr13 Tryz.underlying48 rfl (by kernel_rfl) ?_); clear hr13)
        | (go_at_call 41; (with_reducible refine (HI.out _ (HXD.out.trans' HPN.out.1)).mono ?_); rintro en we ⟨e, rfl, hf, hxe⟩; have HF := Lib.hid hf; have HXE := Lib.hid (HXD.out.trans' (HPN.out.1.trans' hxe)); clear hf hxe)
        | fail)
      by_cases he0 : e = 0
      · subst he0
        have HE := Lib.hid (HF.out.1 rfl)
        go_wp2
        refine ⟨⟨j + 1, by go_num, hjl, fun i q hi hq => ?_, HXE.out⟩, by simp [intOf]; omega⟩
        by_cases h : i < j
        · exact HALL.out i q h hq
        · obtain rfl : i = j := by omega
          rw [HK.out] at hq; cases hq; exact HE.out
      · obtain ⟨q1, q2⟩ := neI (x := (e : Int)) (y := 0) (by omega)
        go_wp2
        rw [HPO.out]
        exact ⟨j, 60, rfl, ⟨(fun h => by cases h), fun h => absurd (HF.out.2 (h.each k (List.mem_of_getElem? HK.out))) he0⟩, HXE.out⟩
    · have HEV := Lib.hid (show ∀ k ∈ v, OkR k.l.P k.r.P from fun k hk => by
        obtain ⟨i, hi⟩ := List.getElem?_of_mem hk
        exact HALL.out i k (by have := (List.getElem?_eq_some_iff.1 hi).1; omega) hi)
      by_cases h16 : 16 < v.length
      · have h16' : (16 : Int) < (v.length : Int) := by omega
        go_wp2
        rw [HPO.out]
        exact ⟨0, 61, rfl, ⟨(fun h => by cases h), fun h => absurd h.len (by omega)⟩, HXD.out⟩
      · have h16' : ¬ (16 : Int) < (v.length : Int) := by omega
        go_wp2
        rw [HPO.out]
        exact ⟨0, 0, rfl, ⟨fun _ => ⟨HEV.out, by omega⟩, fun _ => rfl⟩, HXD.out⟩
set_option maxRecDepth 100000 in
set_option maxHeartbeats 2000000 in
theorem valid_any (v : List Rl) (a : Option Addr) (c S : Nat) (w : World) (h : RlsI w S a c v) (hS : S ≤ 1073741824) : Calls Tryz.prog 34 #[.slice a v.length c] w (PrO (OkVm v) w) := by
  have HCK := Lib.hid (VCheck_any v a c S w h hS)
  obtain ⟨post, hpo⟩ : ∃ q : Ending → World → Prop, q = PrO (OkVm v) w := ⟨_, rfl⟩
  rw [← hpo]
  have HPO := Lib.hid hpo
  clear hpo h
  go_enter Tryz.func34, Tryz.ntmps34
  go_wp2_with (first
    | (go_at_call 16; (with_reducible refine HCK.out.mono ?_); rintro en w2 ⟨i, e, rfl, h2, hx2⟩; have H2 := Lib.hid h2; have HX2 := Lib.hid hx2; clear h2 hx2)
    | fail)
  rw [HPO.out]
  refine ⟨_, rfl, ?_, HX2.out⟩
  rw [beq_iff_eq]
  exact ⟨fun h => H2.out.1 (by omega), fun h => by have := H2.out.2 h; omega⟩

/-! ### The closures -/
set_option maxRecDepth 100000 in
set_option maxHeartbeats 2000000 in
theorem mleft_any (s : Str) (w : World) : Calls Tryz.prog 36 #[.string (bs s)] w (fun en w' => en = .returned (.func (.func 68) #[] #[.pointer (some ⟨w.heap.size, 0, none⟩)]) ∧ w' = w.alloc (.cells #[.string (bs s)] 9)) := by
  go_enter Tryz.func36, Tryz.ntmps36
  go_wp2
  go_ret
  exact ⟨rfl, rfl⟩
set_option maxRecDepth 100000 in
set_option maxHeartbeats 2000000 in
theorem mright_any (s : Str) (w : World) : Calls Tryz.prog 37 #[.string (bs s)] w (fun en w' => en = .returned (.func (.func 69) #[] #[.pointer (some ⟨w.heap.size, 0, none⟩)]) ∧ w' = w.alloc (.cells #[.string (bs s)] 9)) := by
  go_enter Tryz.func37, Tryz.ntmps37
  go_wp2
  go_ret
  exact ⟨rfl, rfl⟩
set_option maxRecDepth 100000 in
set_option maxHeartbeats 4000000 in
theorem mleft1_any (k : Rl) (s : Str) (g S : Nat) (W : World) (hk : RlI W S k) (hS : S ≤ 1073741824) (hs : s.length ≤ 1099511627000) (hc : W.heap[g]? = some (.cells #[.string (bs s)] 9 (0, 0))) :
    Calls Tryz.prog 68 #[k.v, .pointer (some ⟨g, 0, none⟩)] W (PrO (MatT k.l.P s) W) := by
  have HMA := Lib.hid fun w' (h : Ext W w') => Match_any k.l S s w' (hk.l.ext h) hS hs
  clear hk
  obtain ⟨x, ⟨la, ln, lc, lP⟩, ⟨ra, rn, rc, rP⟩⟩ := k
  have HX := Lib.hid (Ext.alloc' W (.cells #[.bool x, .slice la ln lc, .bool lP.rest, .slice ra rn rc, .bool rP.rest] 48))
  have hh := heap_alloc_new W (.cells #[.bool x, .slice la ln lc, .bool lP.rest, .slice ra rn rc, .bool rP.rest] 48)
  obtain ⟨post, hpo⟩ : ∃ p : Ending → World → Prop, p = PrO (MatT lP s) W := ⟨_, rfl⟩
  show Calls _ _ _ _ (PrO (MatT lP s) W)
  rw [← hpo]
  have HPO := Lib.hid hpo
  have hcs : (W.alloc (.cells #[.bool x, .slice la ln lc, .bool lP.rest, .slice ra rn rc, .bool rP.rest] 48)).cell? ⟨g, 0, none⟩ = some (.string (bs s)) := cell_of_row _ g 0 _ _ _ (HX.out.heap' hc)
  clear hpo hc
  go_enter Tryz.func68, Tryz.ntmps68
  go_upto_region 1 with fail
  change Code.wp _ _ _ _ (W.alloc (.cells #[.bool x, .slice la ln lc, .bool lP.rest, .slice ra rn rc, .bool rP.rest] 48))
  generalize W.alloc (.cells #[.bool x, .slice la ln lc, .bool lP.rest, .slice ra rn rc, .bool rP.rest] 48) = w1 at HX hh hcs ⊢
  generalize W.heap.size = b at hh ⊢
  have hr8 := (box5 hh).2.1
  clear hh
  go_wp2_with (first
    | ((with_reducible refine atSlot 8 ?_); refine wpList_of_wp rfl (wp_load_mid (op := ⟨some 8, _, _, _, _, _⟩) 39 _ rfl b 1 rfl [.slice la ln lc, .bool lP.rest] _ hr8 Tryz.underlying39 rfl (by kernel_rfl) ?_); clear hr8)
    | (go_at_call 64; (with_reducible refine (HMA.out _ HX.out).mono ?_); rintro en w2 ⟨a1, n1, c1, rfl, -, hx2⟩; have HX2 := Lib.hid (HX.out.trans' hx2); clear hx2)
    | fail)
  rw [HPO.out]
  exact ⟨(matchS lP s).isSome, rfl, Iff.rfl, HX2.out⟩
set_option maxRecDepth 100000 in
set_option maxHeartbeats 4000000 in
theorem mright1_any (k : Rl) (s : Str) (g S : Nat) (W : World) (hk : RlI W S k) (hS : S ≤ 1073741824) (hs : s.length ≤ 1099511627000) (hc : W.heap[g]? = some (.cells #[.string (bs s)] 9 (0, 0))) :
    Calls Tryz.prog 69 #[k.v, .pointer (some ⟨g, 0, none⟩)] W (PrO (MatT k.r.P s) W) := by
  have HMA := Lib.hid fun w' (h : Ext W w') => Match_any k.r S s w' (hk.r.ext h) hS hs
  clear hk
  obtain ⟨x, ⟨la, ln, lc, lP⟩, ⟨ra, rn, rc, rP⟩⟩ := k
  have HX := Lib.hid (Ext.alloc' W (.cells #[.bool x, .slice la ln lc, .bool lP.rest, .slice ra rn rc, .bool rP.rest] 48))
  have hh := heap_alloc_new W (.cells #[.bool x, .slice la ln lc, .bool lP.rest, .slice ra rn rc, .bool rP.rest] 48)
  obtain ⟨post, hpo⟩ : ∃ p : Ending → World → Prop, p = PrO (MatT rP s) W := ⟨_, rfl⟩
  show Calls _ _ _ _ (PrO (MatT rP s) W)
  rw [← hpo]
  have HPO := Lib.hid hpo
  have hcs : (W.alloc (.cells #[.bool x, .slice la ln lc, .bool lP.rest, .slice ra rn rc, .bool rP.rest] 48)).cell? ⟨g, 0, none⟩ = some (.string (bs s)) := cell_of_row _ g 0 _ _ _ (HX.out.heap' hc)
  clear hpo hc
  go_enter Tryz.func69, Tryz.ntmps69
  go_upto_region 1 with fail
  change Code.wp _ _ _ _ (W.alloc (.cells #[.bool x, .slice la ln lc, .bool lP.rest, .slice ra rn rc, .bool rP.rest] 48))
  generalize W.alloc (.cells #[.bool x, .slice la ln lc, .bool lP.rest, .slice ra rn rc, .bool rP.rest] 48) = w1 at HX hh hcs ⊢
  generalize W.heap.size = b at hh ⊢
  have hr8 := (box5 hh).2.2.1
  clear hh
  go_wp2_with (first
    | ((with_reducible refine atSlot 8 ?_); refine wpList_of_wp rfl (wp_load_mid (op := ⟨some 8, _, _, _, _, _⟩) 39 _ rfl b 3 rfl [.slice ra rn rc, .bool rP.rest] _ hr8 Tryz.underlying39 rfl (by kernel_rfl) ?_); clear hr8)
    | (go_at_call 64; (with_reducible refine (HMA.out _ HX.out).mono ?_); rintro en w2 ⟨a1, n1, c1, rfl, -, hx2⟩; have HX2 := Lib.hid (HX.out.trans' hx2); clear hx2)
    | fail)
  rw [HPO.out]
  exact ⟨(matchS rP s).isSome, rfl, Iff.rfl, HX2.out⟩
/-- view.last: what it answers. -/
def LstO (v : List Rl) (T : Rl → Prop) (w : World) (en : Ending) (w' : World) : Prop :=
  ∃ i : Int, en = .returned (.int .i64 i) ∧ ((i = -1 ∧ ∀ k ∈ v, ¬ T k) ∨ ∃ (j : Nat) (k : Rl), i = j ∧ v[j]? = some k ∧ T k ∧ ∀ t k', j < t → v[t]? = some k' → ¬ T k') ∧ Ext w w'
def LsRel (w : World) (v : List Rl) (T : Rl → Prop) (v5 : Value) (wr : World) : Prop := ∃ j : Nat, v5 = .int .i64 ((j : Int) - 1) ∧ j ≤ v.length ∧ (∀ t k, j ≤ t → v[t]? = some k → ¬ T k) ∧ Ext w wr
set_option maxRecDepth 100000 in
set_option maxHeartbeats 4000000 in
theorem last_any (g : Nat) (lb : Array Value) (eg : ∀ args w, (callFunc g args).run Tryz.prog w = .ok (.enter g args) w) (T : Rl → Prop) (v : List Rl) (a : Option Addr) (c : Nat) (w : World) (hr : Row w a v.length c 5 (v.flatMap Rl.cells)) (hl : v.length ≤ 1048576)
    (hp : ∀ q ∈ v, ∀ W, Ext w W → Calls Tryz.prog g (#[q.v] ++ lb) W (PrO (T q) W)) :
    Calls Tryz.prog 35 #[.slice a v.length c, .func (.func g) #[] lb] w (LstO v T w) := by
  have HROW := Lib.hid fun w' (h : Ext w w') => hr.ext h
  have HP := Lib.hid hp
  obtain ⟨post, hpo⟩ : ∃ q : Ending → World → Prop, q = LstO v T w := ⟨_, rfl⟩
  rw [← hpo]
  have HPO := Lib.hid hpo
  clear hpo hr hp
  go_enter Tryz.func35, Tryz.ntmps35
  go_upto_region 2 with fail
  go_loopw [5] (LsRel w v T) (fun i _ => (intOf i + 1).toNat)
  case atStart => exact ⟨v.length, by go_num, Nat.le_refl _, fun t k ht hk => by have := (List.getElem?_eq_some_iff.1 hk).1; omega, Below.refl _ _⟩
  case round =>
    obtain ⟨j, rfl, hj, hall, hx⟩ := hrel
    rename World => wd
    have HXD := Lib.hid (show Ext w wd from hx)
    have HALL := Lib.hid hall
    clear hx hall
    by_cases hj0 : j = 0
    · subst hj0
      go_wp2
      rw [HPO.out]
      refine ⟨-1, rfl, .inl ⟨rfl, fun k hk => ?_⟩, HXD.out⟩
      obtain ⟨t, ht⟩ := List.getElem?_of_mem hk
      exact HALL.out t k (Nat.zero_le _) ht
    · obtain ⟨i, rfl⟩ : ∃ i, j = i + 1 := ⟨j - 1, by omega⟩
      have hij : ((i + 1 : Nat) : Int) - 1 = (i : Int) := by omega
      rw [hij]
      have hil : i < v.length := by omega
      obtain ⟨k, hk⟩ : ∃ k, v[i]? = some k := ⟨_, List.getElem?_eq_getElem hil⟩
      have HK := Lib.hid hk
      have hrow := HROW.out wd HXD.out
      have HI := Lib.hid (HP.out k (List.mem_of_getElem? hk) wd HXD.out)
      have h0 : (0 : Int) ≤ (i : Int) := by omega
      clear hk
      go_upto_if 18 with (first
        | ((with_reducible refine atSlot 16 ?_); refine wpList_of_wp rfl (owp_ix (o := ⟨some 16, _, _, _, _, _⟩) _ _ rfl Tryz.elRl rfl hrow i rfl rfl hil ?_); intro b1 o1 hc2; have hd := flat_range rl_five HK.out hc2; clear hc2 hrow)
        | ((with_reducible refine atSlot 17 ?_); refine wpList_of_wp rfl (wp_load_mid (op := ⟨some 17, _, _, _, _, _⟩) 48 _ rfl b1 o1 rfl [.bool k.x, .slice k.l.a k.l.n k.l.c, .bool k.l.P.rest, .slice k.r.a k.r.n k.r.c, .bool k.r.P.rest] _ hd Tryz.underlying48 rfl (by kernel_rfl) ?_); clear hd)
        | (go_at_fn g; (with_reducible refine HI.out.mono ?_); rintro en we ⟨f, rfl, hf, hxe⟩; have HF := Lib.hid hf; have HXE := Lib.hid (HXD.out.trans' hxe); clear hf hxe)
        | fail)
      cases f with
      | true =>
        have HT := Lib.hid (HF.out.1 (by first | rfl | trivial))
        go_wp2
        rw [HPO.out]
        exact ⟨i, rfl, .inr ⟨i, k, rfl, HK.out, HT.out, fun t k' ht hk' => HALL.out t k' ht hk'⟩, HXE.out⟩
      | false =>
        have HT := Lib.hid (show ¬ T k from fun h => by have := HF.out.2 h; cases this)
        go_wp2
        refine ⟨⟨i, by go_num, by omega, fun t k' ht hk' => ?_, HXE.out⟩, by simp [intOf]⟩
        by_cases h : t = i
        · subst h; rw [HK.out] at hk'; cases hk'; exact HT.out
        · exact HALL.out t k' (by omega) hk'
end Go.Proofs.YtejljmikammcdaaGreatDoor
/-
  Layer view: Forward.
-/
namespace Go.Proofs.YtejljmikammcdaaGreatDoor
open Go.RowKit

/-! ### What the deciding line comes down to -/
section
variable {v : List Rul} {s u : Str} {i : Nat} {r : Rul}
theorem vf_none (hv : OkV v) (h : ∀ r ∈ v, ¬ MatT r.l s) : FwdOk (relV v) s [] false :=
  .inr ⟨rfl, rfl, fun xs hx hs _ ⟨_, r', h1, _, h3, _⟩ => h r' (List.mem_of_getElem? h1) ((mat_iff (hv r' (List.mem_of_getElem? h1)).left).2 ⟨xs, hx, hs, rel_left h3⟩)⟩
/-- Only the last line that matches may decide. -/
theorem vf_at (hv : OkV v) (hi : v[i]? = some r) (hm : MatT r.l s) (hl : ∀ t r', i < t → v[t]? = some r' → ¬ MatT r'.l s) {xs ys : List Str} (hx : PathOk xs) (hs : s = pathS xs) {k : Nat} (h : relAt v k xs ys) : k = i := by
  obtain ⟨r', h1, -, h3, h4⟩ := h
  rcases Nat.lt_trichotomy k i with hk | hk | hk
  · obtain ⟨xs', hx', hs', hh⟩ := (mat_iff (hv r (List.mem_of_getElem? hi)).left).1 hm
    obtain rfl := pathS_inj hx hx' (hs.symm.trans hs')
    rw [(h4 i r hk hi).1] at hh; cases hh
  · exact hk
  · exact absurd ((mat_iff (hv r' (List.mem_of_getElem? h1)).left).2 ⟨xs, hx, hs, rel_left h3⟩) (hl k r' hk h1)
theorem vf_ex (hv : OkV v) (hi : v[i]? = some r) (hm : MatT r.l s) (hl : ∀ t r', i < t → v[t]? = some r' → ¬ MatT r'.l s) (he : r.ex = true) : FwdOk (relV v) s [] false :=
  .inr ⟨rfl, rfl, fun xs hx hs ys ⟨k, h⟩ => by
    obtain rfl := vf_at hv hi hm hl hx hs h
    obtain ⟨r', h1, h2, -⟩ := h
    rw [hi] at h1; cases h1
    rw [he] at h2; cases h2⟩
theorem vf_bad (hv : OkV v) (hi : v[i]? = some r) (hm : MatT r.l s) (hl : ∀ t r', i < t → v[t]? = some r' → ¬ MatT r'.l s) (hf : FwdOk (rel r.l r.r) s u false) : FwdOk (relV v) s [] false :=
  .inr ⟨rfl, rfl, fun xs hx hs ys ⟨k, h⟩ => by
    obtain rfl := vf_at hv hi hm hl hx hs h
    obtain ⟨r', h1, h2, h3, -⟩ := h
    rw [hi] at h1; cases h1
    rcases hf with ⟨h, -⟩ | ⟨-, -, hn⟩
    · cases h
    · exact hn xs hx hs ys h3⟩
theorem vf_taken (hv : OkV v) (hi : v[i]? = some r) (hm : MatT r.l s) (hl : ∀ t r', i < t → v[t]? = some r' → ¬ MatT r'.l s) (hf : FwdOk (rel r.l r.r) s u true) {j : Nat} {r2 : Rul} (hj : i < j) (h2 : v[j]? = some r2) (hm2 : MatT r2.r u) : FwdOk (relV v) s [] false :=
  .inr ⟨rfl, rfl, fun xs hx hs ys ⟨k, h⟩ => by
    obtain rfl := vf_at hv hi hm hl hx hs h
    obtain ⟨r', h1, -, h3, h4⟩ := h
    rw [hi] at h1; cases h1
    rcases hf with ⟨-, xs', ys', hx', hy', h5, rfl, h6⟩ | ⟨h, -⟩
    · obtain rfl := pathS_inj hx hx' (hs.symm.trans h5)
      obtain rfl := rel_inj h3 h6
      obtain ⟨ys2, hy2, h7, h8⟩ := (mat_iff (hv r2 (List.mem_of_getElem? h2)).right).1 hm2
      obtain rfl := pathS_inj hy' hy2 h7
      rw [(h4 j r2 hj h2).2] at h8; cases h8
    · cases h⟩
theorem vf_good (hv : OkV v) (hi : v[i]? = some r) (hl : ∀ t r', i < t → v[t]? = some r' → ¬ MatT r'.l s) (he : r.ex = false) (hf : FwdOk (rel r.l r.r) s u true) (hn : ∀ t r', i < t → v[t]? = some r' → ¬ MatT r'.r u) : FwdOk (relV v) s u true := by
  rcases hf with ⟨-, xs, ys, hx, hy, rfl, rfl, h6⟩ | ⟨h, -⟩
  · refine .inl ⟨rfl, xs, ys, hx, hy, rfl, rfl, i, r, hi, he, h6, fun j r' hj hr' => ?_⟩
    exact ⟨Bool.eq_false_iff.2 fun h => hl j r' hj hr' ((mat_iff (hv r' (List.mem_of_getElem? hr')).left).2 ⟨xs, hx, rfl, h⟩), Bool.eq_false_iff.2 fun h => hn j r' hj hr' ((mat_iff (hv r' (List.mem_of_getElem? hr')).right).2 ⟨ys, hy, rfl, h⟩)⟩
  · cases h
end
set_option maxRecDepth 100000 in
set_option maxHeartbeats 8000000 in
theorem VForward_any (v : List Rl) (a : Option Addr) (c S T : Nat) (s : Str) (w : World) (h : RlsI w S a c v) (hS : S ≤ 1073741824) (hs : s.length ≤ T) (hT : T ≤ 1073741824) (hok : OkVm v) :
    Calls Tryz.prog 13 #[.slice a v.length c, .string (bs s)] w (TrO (relV (v.map Rl.R)) s S T w) := by
  have HROW := Lib.hid fun w' (hx : Ext w w') => h.row.ext hx
  have HVA := Lib.hid fun w' (hx : Ext w w') => (valid_any v a c S w' (h.ext hx) hS).mono fun en w'' hh => (show NewNone (.bool true) w' en w'' from by
    obtain ⟨q, h1, h2, h3⟩ := hh
    obtain rfl : q = true := h2.2 hok
    exact ⟨h1, h3⟩)
  have eg1 : ∀ args w, (callFunc 68 args).run Tryz.prog w = .ok (.enter 68 args) w := enters_of Tryz.func68 (by kernel_rfl) rfl
  have eg2 : ∀ args w, (callFunc 69 args).run Tryz.prog w = .ok (.enter 69 args) w := enters_of Tryz.func69 (by kernel_rfl) rfl
  have HLL := Lib.hid fun (g : Nat) w' (hx : Ext w w') (hc : w'.heap[g]? = some (.cells #[.string (bs s)] 9)) => last_any 68 #[.pointer (some ⟨g, 0, none⟩)] eg1 (fun k => MatT k.l.P s) v a c w' (h.row.ext hx) (by have := hok.len; omega)
    (fun q hq W hW => mleft1_any q s g S W ((h.each q hq).ext (hx.trans' hW)) hS (by omega) (hW.heap' hc))
  have HLR := Lib.hid fun (u : Str) (hu : u.length ≤ 1099511627000) (g : Nat) w' (hx : Ext w w') (hc : w'.heap[g]? = some (.cells #[.string (bs u)] 9)) => last_any 69 #[.pointer (some ⟨g, 0, none⟩)] eg2 (fun k => MatT k.r.P u) v a c w' (h.row.ext hx) (by have := hok.len; omega)
    (fun q hq W hW => mright1_any q u g S W ((h.each q hq).ext (hx.trans' hW)) hS hu (hW.heap' hc))
  have HFO := Lib.hid fun (k : Rl) (hk : k ∈ v) w' (hx : Ext w w') => RForward_any k S T s w' ((h.each k hk).ext hx) hS hs hT (hok.each k hk)
  have HV := Lib.hid hok.v
  clear h hok eg1 eg2
  obtain ⟨post, hpo⟩ : ∃ q : Ending → World → Prop, q = TrO (relV (v.map Rl.R)) s S T w := ⟨_, rfl⟩
  rw [← hpo]
  have HPO := Lib.hid hpo
  clear hpo
  go_enter Tryz.func13, Tryz.ntmps13
  go_upto_region 4 with (first
    | (go_at_call 34; (with_reducible refine (HVA.out _ (Below.refl _ _)).mono ?_); rintro en w2 ⟨rfl, hx2⟩; have HX2 := Lib.hid hx2; clear hx2)
    | (go_at_call 36; (with_reducible refine (mleft_any _ _).mono ?_); rintro en w3 ⟨rfl, rfl⟩; have hal := Ext.alloc' w2 (.cells #[.string (bs s)] 9); have hnw := heap_alloc_new w2 (.cells #[.string (bs s)] 9); have HX3 := Lib.hid (HX2.out.trans' hal); have HN3 := Lib.hid hnw; clear hal hnw)
    | (go_at_call 35; (with_reducible refine (HLL.out _ _ HX3.out HN3.out).mono ?_); rintro en w4 ⟨i, rfl, h2, hx4⟩; have H2 := Lib.hid h2; have HX4 := Lib.hid (HX3.out.trans' hx4); clear h2 hx4)
    | fail)
  have hmp : ∀ t r', (v.map Rl.R)[t]? = some r' → ∃ k : Rl, v[t]? = some k ∧ k.R = r' := fun t r' h => by
    rw [List.getElem?_map, Option.map_eq_some_iff] at h
    exact h
  have HMP := Lib.hid hmp
  clear hmp
  rcases H2.out with ⟨rfl, hno⟩ | ⟨j, k, rfl, hjk, hmt, hl⟩
  · have hres := vf_none (s := s) HV.out (fun r hr => by
      obtain ⟨k, hk, rfl⟩ := List.mem_map.1 hr
      exact hno k hk)
    have HRES := Lib.hid hres
    clear hres hno H2
    go_wp2
    rw [HPO.out]
    exact ⟨[], false, rfl, HRES.out, Nat.zero_le _, HX4.out⟩
  · have hjl : j < v.length := (List.getElem?_eq_some_iff.1 hjk).1
    have HJ := Lib.hid hjk
    have HMT := Lib.hid hmt
    have HL := Lib.hid hl
    have HJR := Lib.hid (show (v.map Rl.R)[j]? = some k.R by rw [List.getElem?_map, hjk]; rfl)
    have HLR2 := Lib.hid (show ∀ t r', j < t → (v.map Rl.R)[t]? = some r' → ¬ MatT r'.l s from fun t r' ht hr => by
      obtain ⟨k', hk', rfl⟩ := HMP.out t r' hr
      exact hl t k' ht hk')
    have HF := Lib.hid (HFO.out k (List.mem_of_getElem? hjk))
    have h0 : ¬ (j : Int) < 0 := by omega
    have hrow := HROW.out w4 HX4.out
    clear hjk hmt hl H2
    go_upto_if 24 with (first
      | ((with_reducible refine atSlot 21 ?_); refine wpList_of_wp rfl (owp_ix (o := ⟨some 21, _, _, _, _, _⟩) _ _ rfl Tryz.elRl rfl hrow j rfl rfl hjl ?_); intro b1 o1 hc2; have hd := flat_range rl_five HJ.out hc2; have hc23 := hd 0 _ rfl; rw [Nat.add_zero] at hc23; clear hd hc2 hrow)
      | fail)
    clear hc23
    obtain ⟨kx, hkx⟩ : ∃ x, x = k.x := ⟨_, rfl⟩
    rw [← hkx]
    have HKX := Lib.hid hkx
    clear hkx
    cases kx with
    | true =>
      have HRES := Lib.hid (vf_ex HV.out HJR.out HMT.out HLR2.out HKX.out.symm)
      go_wp2
      rw [HPO.out]
      exact ⟨[], false, rfl, HRES.out, Nat.zero_le _, HX4.out⟩
    | false =>
      have hrow := HROW.out w4 HX4.out
      go_upto_region 7 with (first
        | ((with_reducible refine atSlot 28 ?_); refine wpList_of_wp rfl (owp_ix (o := ⟨some 28, _, _, _, _, _⟩) _ _ rfl Tryz.elRl rfl hrow j rfl rfl hjl ?_); intro b1 o1 hc2; have hd := flat_range rl_five HJ.out hc2; clear hc2 hrow)
        | ((with_reducible refine atSlot 29 ?_); refine wpList_of_wp rfl (wp_load_mid (op := ⟨some 29, _, _, _, _, _⟩) 48 _ rfl b1 o1 rfl [.bool k.x, .slice k.l.a k.l.n k.l.c, .bool k.l.P.rest, .slice k.r.a k.r.n k.r.c, .bool k.r.P.rest] _ hd Tryz.underlying48 rfl (by kernel_rfl) ?_); clear hd)
        | (go_at_call 32; (with_reducible refine (HF.out _ HX4.out).mono ?_); rintro en w5 ⟨u, b, rfl, h1, h2, hx5⟩; have H1 := Lib.hid h1; have H2 := Lib.hid h2; have HX5 := Lib.hid (HX4.out.trans' hx5); clear h1 h2 hx5)
        | fail)
      cases b with
      | false =>
        have HRES := Lib.hid (vf_bad HV.out HJR.out HMT.out HLR2.out H1.out)
        go_wp2
        rw [HPO.out]
        exact ⟨[], false, rfl, HRES.out, Nat.zero_le _, HX5.out⟩
      | true =>
        have HLU := Lib.hid (HLR.out u (by have := H2.out; omega))
        go_upto_if 43 with (first
          | (go_at_call 37; (with_reducible refine (mright_any _ _).mono ?_); rintro en w6 ⟨rfl, rfl⟩; have hal := Ext.alloc' w5 (.cells #[.string (bs u)] 9); have hnw := heap_alloc_new w5 (.cells #[.string (bs u)] 9); have HX6 := Lib.hid (HX5.out.trans' hal); have HN6 := Lib.hid hnw; clear hal hnw)
          | (go_at_call 35; (with_reducible refine (HLU.out _ _ HX6.out HN6.out).mono ?_); rintro en w7 ⟨i2, rfl, h3, hx7⟩; have H3 := Lib.hid h3; have HX7 := Lib.hid (HX6.out.trans' hx7); clear h3 hx7)
          | fail)
        by_cases hgt : (j : Int) < i2
        · have HRES := Lib.hid (show FwdOk (relV (v.map Rl.R)) s [] false from by
            rcases H3.out with ⟨h, -⟩ | ⟨j2, k2, h, h4, h5, -⟩
            · omega
            · exact vf_taken HV.out HJR.out HMT.out HLR2.out H1.out (j := j2) (r2 := k2.R) (by omega) (by rw [List.getElem?_map, h4]; rfl) h5)
          go_wp2
          rw [HPO.out]
          exact ⟨[], false, rfl, HRES.out, Nat.zero_le _, HX7.out⟩
        · have HRES := Lib.hid (vf_good HV.out HJR.out HLR2.out HKX.out.symm H1.out (fun t r' ht hr => by
            obtain ⟨k', hk', rfl⟩ := HMP.out t r' hr
            rcases H3.out with ⟨-, h⟩ | ⟨j2, k2, h, h4, h5, h6⟩
            · exact h k' (List.mem_of_getElem? hk')
            · exact h6 t k' (by omega) hk'))
          go_wp2
          rw [HPO.out]
          exact ⟨u, true, rfl, HRES.out, H2.out, HX7.out⟩
end Go.Proofs.YtejljmikammcdaaGreatDoor
/-
  Layer view: Turn, Backward.
-/
namespace Go.Proofs.YtejljmikammcdaaGreatDoor
open Go.RowKit

/-- Own lines. -/
def TrnO (v : List Rl) (S : Nat) (w : World) (en : Ending) (w' : World) : Prop :=
  ∃ (L : List Rl) (a : Option Addr) (c : Nat), en = .returned (.slice a L.length c) ∧ L.map Rl.R = (v.map Rl.R).map Rul.turn ∧ w'.ownsRow w.heap.size 48 5 (.slice a L.length c) L.length (L.flatMap Rl.cells) ∧ (∀ q ∈ L, RlO w' w.heap.size S q) ∧ Ext w w'
def TnRel (w : World) (v : List Rl) (S : Nat) (v3 v8 : Value) (wr : World) : Prop :=
  ∃ (j : Nat) (L : List Rl) (a : Option Addr) (c : Nat), v8 = .int .i64 j ∧ v3 = .slice a L.length c ∧ j ≤ v.length ∧ L.map Rl.R = ((v.take j).map Rl.R).map Rul.turn ∧ wr.ownsRow w.heap.size 48 5 (.slice a L.length c) L.length (L.flatMap Rl.cells) ∧ (∀ q ∈ L, RlO wr w.heap.size S q) ∧ Ext w wr
theorem RlO.app {w w' : World} {B S e s n c : Nat} {a : Option Addr} {xs : List Value} {k : Rl} (h : RlO w B S k) (h' : w.ownsRow B e s (.slice a n c) n xs) (h1 : 9 ≠ e) (hg : w.grownBy w' (blockOf a)) : RlO w' B S k := ⟨rgo_keep h.l h' h1 hg, rgo_keep h.r h' h1 hg⟩
set_option maxRecDepth 100000 in
set_option maxHeartbeats 4000000 in
theorem VTurn_any (v : List Rl) (a : Option Addr) (c S : Nat) (w : World) (h : RlsI w S a c v) (hok : OkVm v) : Calls Tryz.prog 33 #[.slice a v.length c] w (TrnO v S w) := by
  have hl : v.length ≤ 16 := hok.len
  have HROW := Lib.hid fun w' (hx : Ext w w') => h.row.ext hx
  have HTU := Lib.hid fun (k : Rl) (hk : k ∈ v) w' (hx : Ext w w') => RTurn_any k S w' ((h.each k hk).ext hx) (by have := (hok.each k hk).left.le; have := (h.each k hk).l.len; omega) (by have := (hok.each k hk).right.le; have := (h.each k hk).r.len; omega)
  obtain ⟨post, hpo⟩ : ∃ q : Ending → World → Prop, q = TrnO v S w := ⟨_, rfl⟩
  rw [← hpo]
  have HPO := Lib.hid hpo
  clear hpo h hok
  go_enter Tryz.func33, Tryz.ntmps33
  go_upto_region 3 with fail
  go_loopw [3, 8] (TnRel w v S) (fun _ i _ => v.length - (intOf i).toNat)
  case atStart => exact ⟨0, [], none, 0, rfl, rfl, Nat.zero_le _, rfl, own_nil _ _ _ _, (fun _ h => nomatch h), Below.refl _ _⟩
  case round =>
    obtain ⟨j, L, a1, c1, rfl, rfl, hj, hmp, hown, hea, hx⟩ := hrel
    rename World => wd
    have HXD := Lib.hid (show Ext w wd from hx)
    have HMP := Lib.hid hmp
    have HOW := Lib.hid hown
    have HEA := Lib.hid hea
    have hLl : L.length ≤ 16 := by
      have := congrArg List.length hmp
      simp at this
      omega
    clear hx hmp hown hea
    by_cases hjl : j < v.length
    · obtain ⟨k, hk⟩ : ∃ k, v[j]? = some k := ⟨_, List.getElem?_eq_getElem hjl⟩
      have HK := Lib.hid hk
      have HTK := Lib.hid (show ((v.take (j + 1)).map Rl.R).map Rul.turn = ((v.take j).map Rl.R).map Rul.turn ++ [k.R.turn] by rw [List.take_add_one, hk]; simp)
      have HI := Lib.hid (HTU.out k (List.mem_of_getElem? hk))
      have hrow := HROW.out wd HXD.out
      have HPN := Lib.hid (put_new wd #[.bool false, .slice none 0 0, .bool false, .slice none 0 0, .bool false] #[.bool k.x, .slice k.l.a k.l.n k.l.c, .bool k.l.P.rest, .slice k.r.a k.r.n k.r.c, .bool k.r.P.rest] 48)
      have HNN := heap_alloc_new wd (.cells #[.bool false, .slice none 0 0, .bool false, .slice none 0 0, .bool false] 48)
      have hr13 := (box5 HPN.out.2).2.2.2
      clear hk
      go_wp2_with (first
        | ((with_reducible refine atSlot 10 ?_); refine wpList_of_wp rfl (owp_ix (o := ⟨some 10, _, _, _, _, _⟩) _ _ rfl Tryz.elRl rfl hrow j rfl rfl hjl ?_); intro b1 o1 hc2; have hd := flat_range rl_five HK.out hc2; clear hc2 hrow)
        | ((with_reducible refine atSlot 11 ?_); refine wpList_of_wp rfl (wp_load_mid (op := ⟨some 11, _, _, _, _, _⟩) 48 _ rfl b1 o1 rfl [.bool k.x, .slice k.l.a k.l.n k.l.c, .bool k.l.P.rest, .slice k.r.a k.r.n k.r.c, .bool k.r.P.rest] _ hd Tryz.underlying48 rfl (by kernel_rfl) ?_); clear hd)
        | ((with_reducible refine atStore 5 ?_); refine wpList_of_wp rfl (wp_store_row (o := ⟨none, _, _, _, _, _⟩) _ _ _ rfl wd.heap.size #[.bool k.x, .slice k.l.a k.l.n k.l.c, .bool k.l.P.rest, .slice k.r.a k.r.n k.r.c, .bool k.r.P.rest] rfl rfl _ _ HNN (by kernel_rfl) rfl (by simp [Value.oneCell']) ?_); clear HNN)
        | ((with_reducible refine atSlot 13 ?_); refine wpList_of_wp rfl (wp_load_mid (op := ⟨some 13, _, _, _, _, _⟩) 48 _ rfl wd.heap.size 0 rfl [.bool k.x, .slice k.l.a k.l.n k.l.c, .bool k.l.P.rest, .slice k.r.a k.r.n k.r.c, .bool k.r.P.rest] _ hr13 Tryz.underlying48 rfl (by kernel_rfl) ?_); clear hr13)
        | (go_at_call 67; (with_reducible refine (HI.out _ (HXD.out.trans' HPN.out.1)).mono ?_); rintro en we ⟨⟨tx, ⟨la, ln, lc, lP⟩, ⟨ra, rn, rc, rP⟩⟩, h1, h2, h3, rfl, h4, hxe⟩; have HR := Lib.hid (show (⟨tx, lP, rP⟩ : Rul) = k.R.turn from by show (⟨tx, lP, rP⟩ : Rul) = ⟨k.x, k.r.P, k.l.P⟩; rw [← h1, ← h2, ← h3]); have HRO := Lib.hid (RlO.base h4 (HXD.out.trans' HPN.out.1).size); have HXE := Lib.hid (HPN.out.1.trans' hxe); have HAL := Lib.hid (Ext.alloc' we (.cells #[.bool tx, .slice la ln lc, .bool lP.rest, .slice ra rn rc, .bool rP.rest] 48)); have HOB := Lib.hid (own_ext HOW.out (HXE.out.trans' HAL.out)); have HXA := Lib.hid (HXD.out.trans' (HXE.out.trans' HAL.out)); clear h1 h2 h3 h4 hxe)
        | ((with_reducible refine atSlot 16 ?_); refine wpList_of_wp rfl (owp_app (o := ⟨some 16, _, _, _, _, _⟩) _ _ rfl Tryz.elRl rfl HOB.out rfl (Row.new we #[.bool tx, .slice la ln lc, .bool lP.rest, .slice ra rn rc, .bool rP.rest] 48 1 5 rfl (by decide)) (rl_one ⟨tx, ⟨la, ln, lc, lP⟩, ⟨ra, rn, rc, rP⟩⟩) (by omega) (by unfold maxLen; omega) HXA.out.size ?_); intro a6 c6 w6 ho6 hg6; have HO6 := Lib.hid ho6; have HX6 := Lib.hid (show Ext w w6 from below_app HXA.out HOB.out hg6 HXA.out.size); have HK6 := Lib.hid (fun (o : Rl) (h : RlO we w.heap.size S o) => RlO.app (h.ext HAL.out) HOB.out (by decide) hg6); clear ho6 hg6)
        | fail)
      refine ⟨⟨j + 1, L ++ [⟨tx, ⟨la, ln, lc, lP⟩, ⟨ra, rn, rc, rP⟩⟩], a6, c6, by go_num, by rw [List.length_append]; rfl, hjl, ?_, ?_, fun q hq => ?_, HX6.out⟩, by simp [intOf]; omega⟩
      · rw [List.map_append, HMP.out, HTK.out]
        show _ ++ [(⟨tx, lP, rP⟩ : Rul)] = _
        rw [HR.out]
      · rw [List.length_append, List.flatMap_append]; exact HO6.out
      · rcases List.mem_append.1 hq with hq | hq
        · exact HK6.out q ((HEA.out q hq).ext HXE.out)
        · obtain rfl : q = ⟨tx, ⟨la, ln, lc, lP⟩, ⟨ra, rn, rc, rP⟩⟩ := by simpa using hq
          exact HK6.out _ HRO.out
    · have hjL : j = v.length := by omega
      go_wp2
      rw [HPO.out]
      have h := HMP.out
      rw [hjL, List.take_length] at h
      exact ⟨L, a1, c1, rfl, h, HOW.out, HEA.out, HXD.out⟩
set_option maxRecDepth 100000 in
set_option maxHeartbeats 4000000 in
theorem VBackward_any (v : List Rl) (a : Option Addr) (c S T : Nat) (s : Str) (w : World) (h : RlsI w S a c v) (hS : S ≤ 1073741824) (hs : s.length ≤ T) (hT : T ≤ 1073741824) (hok : OkVm v) :
    Calls Tryz.prog 12 #[.slice a v.length c, .string (bs s)] w (TrO (relV ((v.map Rl.R).map Rul.turn)) s S T w) := by
  have HTU := Lib.hid (VTurn_any v a c S w h hok)
  have HFO := Lib.hid fun (L : List Rl) (a1 : Option Addr) (c1 : Nat) w' (hmp : L.map Rl.R = (v.map Rl.R).map Rul.turn) (hr : RlsI w' S a1 c1 L) => VForward_any L a1 c1 S T s w' hr hS hs hT ⟨fun k hk => by
    have h1 : k.R ∈ (v.map Rl.R).map Rul.turn := by rw [← hmp]; exact List.mem_map_of_mem hk
    obtain ⟨r, hr', h2⟩ := List.mem_map.1 h1
    obtain ⟨q, hq, rfl⟩ := List.mem_map.1 hr'
    have h3 := (hok.each q hq).swap
    have e1 : q.r.P = k.l.P := congrArg Rul.l h2
    have e2 : q.l.P = k.r.P := congrArg Rul.r h2
    rw [e1, e2] at h3
    exact h3, by have h1 := congrArg List.length hmp; have h2 := hok.len; simp at h1; omega⟩
  obtain ⟨post, hpo⟩ : ∃ q : Ending → World → Prop, q = TrO (relV ((v.map Rl.R).map Rul.turn)) s S T w := ⟨_, rfl⟩
  rw [← hpo]
  have HPO := Lib.hid hpo
  clear hpo h hok
  go_enter Tryz.func12, Tryz.ntmps12
  go_wp2_with (first
    | (go_at_call 33; (with_reducible refine HTU.out.mono ?_); rintro en w2 ⟨L, a1, c1, rfl, h1, h2, h3, hx2⟩; have H1 := Lib.hid h1; have HX2 := Lib.hid hx2; have HI := Lib.hid (show RlsI w2 S a1 c1 L from ⟨Row.of_own h2, fun q hq => (h3 q hq).i⟩); clear h1 h2 h3 hx2)
    | (go_at_call 13; (with_reducible refine (HFO.out L a1 c1 _ H1.out HI.out).mono ?_); rintro en w3 ⟨u, b, rfl, h4, h5, hx3⟩; have H4 := Lib.hid h4; have H5 := Lib.hid h5; have HX3 := Lib.hid (HX2.out.trans' hx3); clear h4 h5 hx3)
    | fail)
  rw [HPO.out, ← H1.out]
  exact ⟨u, b, rfl, H4.out, H5.out, HX3.out⟩
end Go.Proofs.YtejljmikammcdaaGreatDoor
/-
  Layer view: Entries.
-/
namespace Go.Proofs.YtejljmikammcdaaGreatDoor
open Go.RowKit

/-- view.Entries: what it answers. -/
def EnsoO (v : List Rl) (T : Nat) (w : World) (en : Ending) (w' : World) : Prop :=
  ∃ (a : Option Addr) (n c e : Nat), en = .returned (.tuple #[.slice a n c, .int .i64 (e : Nat)]) ∧ (e = 0 → OkVm v ∧ ∃ out : List En, n = out.length ∧ EntsOk (v.map Rl.R) (v.map Rl.R).length (out.map En.E) ∧ EnsO w' w.heap.size T a c out) ∧ Ext w w'
/-- Between two lines. -/
def EoRel (w : World) (v : List Rl) (T : Nat) (v6 v26 : Value) (wr : World) : Prop :=
  ∃ (j : Nat) (out : List En) (a : Option Addr) (c : Nat), v26 = .int .i64 j ∧ v6 = .slice a out.length c ∧ j ≤ v.length ∧ out.length ≤ j ∧ EnsO wr w.heap.size T a c out ∧ EntsOk (v.map Rl.R) j (out.map En.E) ∧ Ext w wr
/-- Between two later lines. -/
def ElRel (we : World) (v : List Rl) (k : Rl) (i B S : Nat) (v9 v38 : Value) (wr : World) : Prop :=
  ∃ (t : Nat) (H : List Pt) (a : Option Addr) (c : Nat), v38 = .int .i64 t ∧ v9 = .slice a H.length c ∧ i + 1 + t ≤ v.length ∧ H.length ≤ t + t ∧ wr.ownsRow we.heap.size 39 2 (.slice a H.length c) H.length (H.flatMap Pt.cells) ∧
    (∀ q ∈ H, (∃ r ∈ v, q = r.l) ∨ PtO wr B (S + S) q) ∧ LaterOk (v.map Rl.R) i (i + 1 + t) k.R (H.map Pt.P) ∧ Ext we wr
set_option maxRecDepth 100000 in
set_option maxHeartbeats 8000000 in
theorem Entries_any (v : List Rl) (a : Option Addr) (c S : Nat) (w : World) (h : RlsI w S a c v) (hS : S ≤ 536870912) : Calls Tryz.prog 6 #[.slice a v.length c] w (EnsoO v (S + S) w) := by
  have hmx : v.length ≤ 9223372036854775807 := by have h1 := h.row.max; have h2 := h.row.le; simp only [maxLen] at h1; omega
  have HROW := Lib.hid fun w' (hx : Ext w w') => h.row.ext hx
  have HEA := Lib.hid fun w' (hx : Ext w w') (k : Rl) (hk : k ∈ v) => (h.each k hk).ext hx
  have HCK := Lib.hid (VCheck_any v a c S w h (by omega))
  obtain ⟨post, hpo⟩ : ∃ q : Ending → World → Prop, q = EnsoO v (S + S) w := ⟨_, rfl⟩
  rw [← hpo]
  have HPO := Lib.hid hpo
  clear hpo h
  go_enter Tryz.func6, Tryz.ntmps6
  go_upto_region 2 with (first
    | (go_at_call 16; (with_reducible refine HCK.out.mono ?_); rintro en w2 ⟨i, e, rfl, h2, hx2⟩; have H2 := Lib.hid h2; have HX2 := Lib.hid hx2; clear h2 hx2)
    | fail)
  by_cases he0 : e ≠ 0
  · obtain ⟨q1, q2⟩ := neI (x := (e : Int)) (y := 0) (by omega)
    go_wp2
    rw [HPO.out]
    exact ⟨none, 0, 0, e, rfl, fun h => absurd h he0, HX2.out⟩
  replace he0 : e = 0 := by omega
  subst he0
  have HOK := Lib.hid (H2.out.1 rfl)
  have hl : v.length ≤ 16 := HOK.out.len
  clear H2 HCK
  go_upto_region 6 with fail
  go_loopw [6, 26] (EoRel w v (S + S)) (fun _ i _ => v.length - (intOf i).toNat)
  case atStart => exact ⟨0, [], none, 0, rfl, rfl, Nat.zero_le _, Nat.le_refl _, ⟨own_nil _ _ _ _, (fun _ h => nomatch h)⟩, EntsOk.nil, HX2.out⟩
  case round =>
    obtain ⟨j, out, a1, c1, rfl, rfl, hj, hol, hens, hok, hx⟩ := hrel
    rename World => wd
    have HXD := Lib.hid (show Ext w wd from hx)
    have HEN := Lib.hid hens
    have HEO := Lib.hid hok
    clear hx hens hok
    by_cases hjl : j < v.length
    · obtain ⟨k, hk⟩ : ∃ k, v[j]? = some k := ⟨_, List.getElem?_eq_getElem hjl⟩
      have HK := Lib.hid hk
      have HKM := Lib.hid (List.mem_of_getElem? hk)
      have HKR := Lib.hid (show (v.map Rl.R)[j]? = some k.R by rw [List.getElem?_map, hk]; rfl)
      have HKO := Lib.hid (HOK.out.each k HKM.out)
      have hrow := HROW.out wd HXD.out
      have HPN := Lib.hid (put_new wd #[.bool false, .slice none 0 0, .bool false, .slice none 0 0, .bool false] #[.bool k.x, .slice k.l.a k.l.n k.l.c, .bool k.l.P.rest, .slice k.r.a k.r.n k.r.c, .bool k.r.P.rest] 48)
      have HNN := heap_alloc_new wd (.cells #[.bool false, .slice none 0 0, .bool false, .slice none 0 0, .bool false] 48)
      clear hk
      go_upto_region 8 with (first
        | ((with_reducible refine atSlot 29 ?_); refine wpList_of_wp rfl (owp_ix (o := ⟨some 29, _, _, _, _, _⟩) _ _ rfl Tryz.elRl rfl hrow j rfl rfl hjl ?_); intro b1 o1 hc2; have hd := flat_range rl_five HK.out hc2; clear hc2 hrow)
        | ((with_reducible refine atSlot 30 ?_); refine wpList_of_wp rfl (wp_load_mid (op := ⟨some 30, _, _, _, _, _⟩) 48 _ rfl b1 o1 rfl [.bool k.x, .slice k.l.a k.l.n k.l.c, .bool k.l.P.rest, .slice k.r.a k.r.n k.r.c, .bool k.r.P.rest] _ hd Tryz.underlying48 rfl (by kernel_rfl) ?_); clear hd)
        | ((with_reducible refine atStore 8 ?_); refine wpList_of_wp rfl (wp_store_row (o := ⟨none, _, _, _, _, _⟩) _ _ _ rfl wd.heap.size #[.bool k.x, .slice k.l.a k.l.n k.l.c, .bool k.l.P.rest, .slice k.r.a k.r.n k.r.c, .bool k.r.P.rest] rfl rfl _ _ HNN (by kernel_rfl) rfl (by simp [Value.oneCell']) ?_); clear HNN)
        | fail)
      generalize (wd.alloc (.cells #[.bool false, .slice none 0 0, .bool false, .slice none 0 0, .bool false] 48)).setRow wd.heap.size #[.bool k.x, .slice k.l.a k.l.n k.l.c, .bool k.l.P.rest, .slice k.r.a k.r.n k.r.c, .bool k.r.P.rest] = we at HPN ⊢
      obtain ⟨hxe, hbe⟩ := HPN.out
      have HXE := Lib.hid (HXD.out.trans' hxe)
      have HDE := Lib.hid hxe
      have HB8 := Lib.hid hbe
      have c32 := (box5 hbe).1
      generalize wd.heap.size = g8 at HB8 c32 ⊢
      clear hxe hbe HPN
      obtain ⟨kx, hkx⟩ : ∃ x, x = k.x := ⟨_, rfl⟩
      rw [← hkx] at c32
      have HKX := Lib.hid hkx
      clear hkx
      cases kx with
      | true =>
        go_wp2
        refine ⟨?_, by simp [intOf]; omega⟩
        (repeat apply Exists.intro)
        refine ⟨?rel, ?eqs⟩
        case eqs => repeat (first | exact rfl | refine ⟨rfl, ?_⟩)
        case rel => exact ⟨j + 1, out, a1, c1, by go_num, rfl, hjl, by omega, HEN.out.ext HDE.out, HEO.out.skip HKR.out HKX.out.symm, HXE.out⟩
      | false =>
        have hrow2 := HROW.out we HXE.out
        have hji : j + 1 ≤ v.length := hjl
        go_upto_region 11 with (first
          | ((with_reducible refine atSlot 36 ?_); refine wpList_of_wp rfl (owp_sl_lo (o := ⟨some 36, _, _, _, _, _⟩) _ _ rfl Tryz.elRl rfl hrow2 (j + 1) rfl rfl hji ?_); intro a2 hr2; rw [flat_drop rl_five] at hr2; have HR2 := Lib.hid hr2; clear hr2 hrow2)
          | fail)
        clear c32
        have hsub : v.length - (j + 1) ≤ 16 := by omega
        go_loopw [9, 38] (ElRel we v k j w.heap.size S) (fun _ t _ => v.length - (j + 1) - (intOf t).toNat)
        case atStart => exact ⟨0, [], none, 0, rfl, rfl, hjl, Nat.le_refl _, own_nil _ _ _ _, (fun _ h => nomatch h), LaterOk.nil, Below.refl _ _⟩
        case round =>
          obtain ⟨t, H, a3, c3, rfl, rfl, ht, hHl, hown, hH, hla, hx⟩ := hrel
          rename World => wf
          have HXF := Lib.hid (show Ext we wf from hx)
          have HXW := Lib.hid (HXE.out.trans' hx)
          have HOW := Lib.hid hown
          have HHA := Lib.hid hH
          have HLA := Lib.hid hla
          clear hx hown hH hla
          by_cases htl : t < v.length - (j + 1)
          · obtain ⟨s, hs⟩ : ∃ s, v[j + 1 + t]? = some s := ⟨_, List.getElem?_eq_getElem (by omega)⟩
            have HS := Lib.hid hs
            have HSM := Lib.hid (List.mem_of_getElem? hs)
            have HSR := Lib.hid (show (v.map Rl.R)[j + 1 + t]? = some s.R by rw [List.getElem?_map, hs]; rfl)
            have HSO := Lib.hid (HOK.out.each s HSM.out)
            have hsd : (v.drop (j + 1))[t]? = some s := by rw [List.getElem?_drop]; exact hs
            have HNR := Lib.hid fun w' (h : Ext w w') => NarrowRight_any k s.r S w' (HEA.out w' h k HKM.out) (HEA.out w' h s HSM.out).r (by omega)
            have hrow := HR2.out.ext HXF.out
            have HPN := Lib.hid (put_new wf #[.bool false, .slice none 0 0, .bool false, .slice none 0 0, .bool false] #[.bool s.x, .slice s.l.a s.l.n s.l.c, .bool s.l.P.rest, .slice s.r.a s.r.n s.r.c, .bool s.r.P.rest] 48)
            have HNN := heap_alloc_new wf (.cells #[.bool false, .slice none 0 0, .bool false, .slice none 0 0, .bool false] 48)
            clear hs
            go_upto_region 13 with (first
              | ((with_reducible refine atSlot 40 ?_); refine wpList_of_wp rfl (owp_ix (o := ⟨some 40, _, _, _, _, _⟩) _ _ rfl Tryz.elRl rfl hrow t rfl rfl htl ?_); intro b1 o1 hc2; have hd := flat_range rl_five hsd hc2; clear hc2 hrow)
              | ((with_reducible refine atSlot 41 ?_); refine wpList_of_wp rfl (wp_load_mid (op := ⟨some 41, _, _, _, _, _⟩) 48 _ rfl b1 o1 rfl [.bool s.x, .slice s.l.a s.l.n s.l.c, .bool s.l.P.rest, .slice s.r.a s.r.n s.r.c, .bool s.r.P.rest] _ hd Tryz.underlying48 rfl (by kernel_rfl) ?_); clear hd)
              | ((with_reducible refine atStore 11 ?_); refine wpList_of_wp rfl (wp_store_row (o := ⟨none, _, _, _, _, _⟩) _ _ _ rfl wf.heap.size #[.bool s.x, .slice s.l.a s.l.n s.l.c, .bool s.l.P.rest, .slice s.r.a s.r.n s.r.c, .bool s.r.P.rest] rfl rfl _ _ HNN (by kernel_rfl) rfl (by simp [Value.oneCell']) ?_); clear HNN)
              | fail)
            generalize (wf.alloc (.cells #[.bool false, .slice none 0 0, .bool false, .slice none 0 0, .bool false] 48)).setRow wf.heap.size #[.bool s.x, .slice s.l.a s.l.n s.l.c, .bool s.l.P.rest, .slice s.r.a s.r.n s.r.c, .bool s.r.P.rest] = wg at HPN ⊢
            obtain ⟨hxg, hbg⟩ := HPN.out
            have HXG := Lib.hid (HXF.out.trans' hxg)
            have HFG := Lib.hid hxg
            have HB11 := Lib.hid hbg
            have hr44 := (box5 hbg).2.1
            have HAL := Lib.hid (Ext.alloc' wg (.cells #[.slice s.l.a s.l.n s.l.c, .bool s.l.P.rest] 39))
            have HOB := Lib.hid (own_ext HOW.out (hxg.trans' HAL.out))
            have HXA := Lib.hid (HXG.out.trans' HAL.out)
            generalize wf.heap.size = g11 at HB11 hr44 ⊢
            clear hxg hbg HPN hsd
            go_upto_region 14 with (first
              | ((with_reducible refine atSlot 44 ?_); refine wpList_of_wp rfl (wp_load_mid (op := ⟨some 44, _, _, _, _, _⟩) 39 _ rfl g11 1 rfl [.slice s.l.a s.l.n s.l.c, .bool s.l.P.rest] _ hr44 Tryz.underlying39 rfl (by kernel_rfl) ?_); clear hr44)
              | ((with_reducible refine atSlot 46 ?_); refine wpList_of_wp rfl (owp_app (o := ⟨some 46, _, _, _, _, _⟩) _ _ rfl Tryz.elPat rfl HOB.out rfl (Row.new wg #[.slice s.l.a s.l.n s.l.c, .bool s.l.P.rest] 39 1 2 rfl (by decide)) (pt_one s.l) (by omega) (by unfold maxLen; omega) HXA.out.size ?_); intro a6 c6 w6 ho6 hg6; have HO6 := Lib.hid ho6; have HX6 := Lib.hid (show Ext we w6 from below_app HXA.out HOB.out hg6 HXA.out.size); have HK6 := Lib.hid (fun (o : Pt) (h : PtO wg w.heap.size (S + S) o) => rgo_keep (h.ext HAL.out) (own_base HOB.out HXE.out.size) (by decide) hg6); have HC11 := Lib.hid (box_app (HAL.out.heap' HB11.out) HOB.out (by decide) hg6); clear ho6 hg6)
              | fail)
            have HX6W := Lib.hid (HXE.out.trans' HX6.out)
            have hr48 := (box5 (HX6.out.heap' HB8.out)).2.2.2
            have hr50 := (box5 HC11.out).2.2.1
            go_upto_region 15 with (first
              | ((with_reducible refine atSlot 48 ?_); refine wpList_of_wp rfl (wp_load_mid (op := ⟨some 48, _, _, _, _, _⟩) 48 _ rfl g8 0 rfl [.bool k.x, .slice k.l.a k.l.n k.l.c, .bool k.l.P.rest, .slice k.r.a k.r.n k.r.c, .bool k.r.P.rest] _ hr48 Tryz.underlying48 rfl (by kernel_rfl) ?_); clear hr48)
              | ((with_reducible refine atSlot 50 ?_); refine wpList_of_wp rfl (wp_load_mid (op := ⟨some 50, _, _, _, _, _⟩) 39 _ rfl g11 3 rfl [.slice s.r.a s.r.n s.r.c, .bool s.r.P.rest] _ hr50 Tryz.underlying39 rfl (by kernel_rfl) ?_); clear hr50)
              | (go_at_call 17; (with_reducible refine (HNR.out _ HX6W.out).mono ?_); rintro en w7 ⟨⟨gx, ⟨ma, mn, mc, mP⟩, ⟨ca, cn, cc, cP⟩⟩, q, e, rfl, h1, h2, hx7⟩; have H1 := Lib.hid h1; have HRO := Lib.hid (RlO.base h2 HX6W.out.size); have HX7 := Lib.hid hx7; have HP7 := Lib.hid (put_new w7 #[.bool false, .slice none 0 0, .bool false, .slice none 0 0, .bool false] #[.bool gx, .slice ma mn mc, .bool mP.rest, .slice ca cn cc, .bool cP.rest] 48); have hn7 := heap_alloc_new w7 (.cells #[.bool false, .slice none 0 0, .bool false, .slice none 0 0, .bool false] 48); clear h1 h2 hx7)
              | ((with_reducible refine atStore 12 ?_); refine wpList_of_wp rfl (wp_store_row (o := ⟨none, _, _, _, _, _⟩) _ _ _ rfl w7.heap.size #[.bool gx, .slice ma mn mc, .bool mP.rest, .slice ca cn cc, .bool cP.rest] rfl rfl _ _ hn7 (by kernel_rfl) rfl (by simp [Value.oneCell']) ?_); clear hn7)
              | fail)
            generalize (w7.alloc (.cells #[.bool false, .slice none 0 0, .bool false, .slice none 0 0, .bool false] 48)).setRow w7.heap.size #[.bool gx, .slice ma mn mc, .bool mP.rest, .slice ca cn cc, .bool cP.rest] = w8 at HP7 ⊢
            obtain ⟨hx8, hb8⟩ := HP7.out
            have HX68 := Lib.hid (HX7.out.trans' hx8)
            have HX8 := Lib.hid (HX6.out.trans' HX68.out)
            have HR8 := Lib.hid (HRO.out.ext hx8)
            have HB12 := Lib.hid hb8
            generalize w7.heap.size = g12 at HB12 ⊢
            clear hx8 hb8 HP7
            by_cases he0 : e ≠ 0
            · obtain ⟨q1, q2⟩ := neI (x := (e : Int)) (y := 0) (by omega)
              go_wp2
              rw [HPO.out]
              exact ⟨none, 0, 0, 61, rfl, (fun h => by cases h), HXE.out.trans' HX8.out⟩
            replace he0 : e = 0 := by omega
            subst he0
            obtain ⟨-, -, o, ho, hq, hog⟩ := H1.out rfl
            subst hq
            have HLN := Lib.hid (HLA.out.step (by omega) HSR.out HSO.out HKO.out ho)
            have HOG := Lib.hid hog
            have HHE := Lib.hid (show ∀ q ∈ H ++ [s.l], (∃ r ∈ v, q = r.l) ∨ PtO w8 w.heap.size (S + S) q from fun q hq => by
              rcases List.mem_append.1 hq with hq | hq
              · exact (HHA.out q hq).imp id (fun h => (HK6.out q (h.ext HFG.out)).ext HX68.out)
              · obtain rfl : q = s.l := by simpa using hq
                exact .inl ⟨s, HSM.out, rfl⟩)
            have HO8 := Lib.hid (own_ext HO6.out HX68.out)
            clear ho hog H1
            cases o with
            | none =>
              go_wp2
              refine ⟨?rel, by simp [intOf]; omega⟩
              case rel =>
                refine ⟨t + 1, H ++ [s.l], a6, c6, by go_num, by rw [List.length_append]; rfl, by omega, by rw [List.length_append]; show H.length + 1 ≤ _; omega, ?_, HHE.out, ?_, HX8.out⟩
                · rw [List.length_append, List.flatMap_append]; have h := HO8.out; simpa [Pt.cells] using h
                · have h := HLN.out
                  rw [List.map_append]
                  exact h
            | some mk =>
              obtain ⟨m2, c2⟩ := mk
              have HC2 := Lib.hid (show mP = c2 from (HOG.out _ _ rfl).2)
              have hr60 := (box5 HB12.out).2.1
              have HAL2 := Lib.hid (Ext.alloc' w8 (.cells #[.slice ma mn mc, .bool mP.rest] 39))
              have HOB2 := Lib.hid (own_ext HO8.out HAL2.out)
              have HXA2 := Lib.hid (HX8.out.trans' HAL2.out)
              go_wp2_with (first
                | ((with_reducible refine atSlot 60 ?_); refine wpList_of_wp rfl (wp_load_mid (op := ⟨some 60, _, _, _, _, _⟩) 39 _ rfl g12 1 rfl [.slice ma mn mc, .bool mP.rest] _ hr60 Tryz.underlying39 rfl (by kernel_rfl) ?_); clear hr60)
                | ((with_reducible refine atSlot 62 ?_); refine wpList_of_wp rfl (owp_app (o := ⟨some 62, _, _, _, _, _⟩) _ _ rfl Tryz.elPat rfl HOB2.out rfl (Row.new w8 #[.slice ma mn mc, .bool mP.rest] 39 1 2 rfl (by decide)) (pt_one ⟨ma, mn, mc, mP⟩) (by omega) (by unfold maxLen; omega) HXA2.out.size ?_); intro a9 c9 w9 ho9 hg9; have HO9 := Lib.hid ho9; have HX9 := Lib.hid (show Ext we w9 from below_app HXA2.out HOB2.out hg9 HXA2.out.size); have HK9 := Lib.hid (fun (o : Pt) (h : PtO w8 w.heap.size (S + S) o) => rgo_keep (h.ext HAL2.out) (own_base HOB2.out HXE.out.size) (by decide) hg9); clear ho9 hg9)
                | fail)
              refine ⟨?rel, by simp [intOf]; omega⟩
              case rel =>
                refine ⟨t + 1, H ++ [s.l] ++ [⟨ma, mn, mc, mP⟩], a9, c9, by go_num, by rw [List.length_append, List.length_append]; rfl, by omega, by rw [List.length_append, List.length_append]; show H.length + 1 + 1 ≤ _; omega, ?_, fun q hq => ?_, ?_, HX9.out⟩
                · rw [List.length_append, List.length_append, List.flatMap_append, List.flatMap_append]; have h := HO9.out; simpa [Pt.cells] using h
                · rcases List.mem_append.1 hq with hq | hq
                  · exact (HHE.out q hq).imp id (fun h => HK9.out q h)
                  · obtain rfl : q = ⟨ma, mn, mc, mP⟩ := by simpa using hq
                    exact .inr (HK9.out _ HR8.out.l)
                · have h := HLN.out
                  rw [List.map_append, List.map_append, show (List.map Pt.P [(⟨ma, mn, mc, mP⟩ : Pt)]) = [c2] by rw [← HC2.out]; rfl, List.append_assoc]
                  exact h
          · have htL : j + 1 + t = v.length := by omega
            have HLL := Lib.hid (show LaterOk (v.map Rl.R) j (v.map Rl.R).length k.R (H.map Pt.P) by have h := HLA.out; rw [htL] at h; rw [List.length_map]; exact h)
            have HRD := Lib.hid (Reduce_any k.l a3 c3 H (S + S) wf ((HEA.out wf HXW.out k HKM.out).l.mono (by omega)) ⟨Row.of_own HOW.out, fun q hq => by
              rcases HHA.out q hq with ⟨r, hr, rfl⟩ | h
              · exact (HEA.out wf HXW.out r hr).l.mono (by omega)
              · exact h.i⟩ HKO.out.left (fun q hq => HLL.out.1 _ (List.mem_map_of_mem hq)) (by omega) (by omega))
            have HVO := Lib.hid fun (g : Rg) w' (hg : RgI w' (S + S) g) (h1 : g.b.P = k.l.P) (h2 : RedOk k.l.P (H.map Pt.P) (g.hs.map Pt.P)) => Void_any g.b g.a g.c g.hs (S + S) w' hg.b hg.hs (by omega) (by rw [h1]; exact HKO.out.left) (fun q hq => h2.ok q.P (List.mem_map_of_mem hq))
            have HCP := Lib.hid fun w' (hx : Ext w w') => Copy_any k.r S w' (HEA.out w' hx k HKM.out).r (by have := HKO.out.right.le; have := (HEA.out w' hx k HKM.out).r.len; omega)
            have hr65 := (box5 (HXF.out.heap' HB8.out)).2.1
            go_upto_region 21 with (first
              | ((with_reducible refine atSlot 65 ?_); refine wpList_of_wp rfl (wp_load_mid (op := ⟨some 65, _, _, _, _, _⟩) 39 _ rfl g8 1 rfl [.slice k.l.a k.l.n k.l.c, .bool k.l.P.rest] _ hr65 Tryz.underlying39 rfl (by kernel_rfl) ?_); clear hr65)
              | (go_at_call 18; (with_reducible refine HRD.out.mono ?_); rintro en w5 ⟨⟨⟨da, dn, dc, dP⟩, ha, hc, D⟩, rfl, h7, h8, h9, hx5⟩; have HDP := Lib.hid (show dP = k.l.P from h7); have HRE := Lib.hid h8; have HRO := Lib.hid h9; have HX5 := Lib.hid (HXF.out.trans' hx5); have HP5 := Lib.hid (put_new w5 #[.slice none 0 0, .bool false, .slice none 0 0] #[.slice da dn dc, .bool dP.rest, .slice ha D.length hc] 55); have hn5 := heap_alloc_new w5 (.cells #[.slice none 0 0, .bool false, .slice none 0 0] 55); clear h7 h8 h9 hx5)
              | ((with_reducible refine atStore 15 ?_); refine wpList_of_wp rfl (wp_store_row (o := ⟨none, _, _, _, _, _⟩) _ _ _ rfl w5.heap.size #[.slice da dn dc, .bool dP.rest, .slice ha D.length hc] rfl rfl _ _ hn5 (by kernel_rfl) rfl (by simp [Value.oneCell']) ?_); clear hn5)
              | fail)
            have hD : D.length ≤ 1073741824 := by have := HRE.out.len; rw [List.length_map, List.length_map] at this; omega
            generalize (w5.alloc (.cells #[.slice none 0 0, .bool false, .slice none 0 0] 55)).setRow w5.heap.size #[.slice da dn dc, .bool dP.rest, .slice ha D.length hc] = w6 at HP5 ⊢
            obtain ⟨hx6, hb6⟩ := HP5.out
            have HX6 := Lib.hid (HX5.out.trans' hx6)
            have HF6 := Lib.hid hb6
            have HR6 := Lib.hid (show RgO w6 w.heap.size (S + S) ⟨⟨da, dn, dc, dP⟩, ha, hc, D⟩ from (HRO.out.ext hx6).base HXW.out.size)
            obtain ⟨hrp, hc2, -⟩ := box3 hb6
            generalize w5.heap.size = g5 at HF6 hrp hc2 ⊢
            clear hx6 hb6 HP5 HRO HX5
            go_upto_if 72 with (first
              | ((with_reducible refine atSlot 69 ?_); refine wpList_of_wp rfl (wp_load_mid (op := ⟨some 69, _, _, _, _, _⟩) 39 _ rfl g5 0 rfl [.slice da dn dc, .bool dP.rest] _ hrp Tryz.underlying39 rfl (by kernel_rfl) ?_); clear hrp)
              | (go_at_call 19; (with_reducible refine (HVO.out ⟨⟨da, dn, dc, dP⟩, ha, hc, D⟩ _ HR6.out.i HDP.out HRE.out).mono ?_); rintro en w7 ⟨f, rfl, hf, hx7⟩; have HF := Lib.hid (show f = true ↔ VoidT dP D from hf); have HX7 := Lib.hid (HX6.out.trans' hx7); have HF7 := Lib.hid (hx7.heap' HF6.out); have HR7 := Lib.hid (HR6.out.ext hx7); clear hf hx7)
              | fail)
            have HD7 := Lib.hid (show Ext wd w7 from HDE.out.trans' HX7.out)
            have HW7 := Lib.hid (HXE.out.trans' HX7.out)
            clear HX6 HF6 HR6
            cases f with
            | true =>
              go_wp2
              refine ⟨?_, by simp [intOf]; omega⟩
              (repeat apply Exists.intro)
              refine ⟨?rel, ?eqs⟩
              case eqs => repeat (first | exact rfl | refine ⟨rfl, ?_⟩)
              case rel =>
                refine ⟨j + 1, out, a1, c1, by go_num, rfl, hjl, by omega, HEN.out.ext HD7.out, ?_, HW7.out⟩
                have h5 : PutOk k.R.l k.R.r (H.map Pt.P) none := fun xs hf hx => by
                  have hv : VoidP dP (D.map Pt.P) := by have h := HF.out.1 trivial; rwa [void_pats] at h
                  have h5 := void_sound hv (by rw [HDP.out]; exact hx) hf
                  rw [HRE.out.has xs hx] at h5
                  exact h5
                have h6 := HEO.out.step HKR.out HKX.out.symm HLL.out h5
                simpa using h6
            | false =>
              go_upto_region 22 with fail
              have E6 := Ext.drew' w7
              have HG8 := Lib.hid (HX7.out.heap' HB8.out)
              refine wp_region_z (fun w' => w'.heap[g5]? = some (.cells #[.slice da dn dc, .bool dP.rest, .slice ha D.length hc] 55) ∧ w'.heap[g8]? = some (.cells #[.bool k.x, .slice k.l.a k.l.n k.l.c, .bool k.l.P.rest, .slice k.r.a k.r.n k.r.c, .bool k.r.P.rest] 48)) ⟨E6.heap' HF7.out, E6.heap' HG8.out⟩ [] (.qs [0, 1, 2, 3, 4, 6, 7] (.l 5 (.qs [8] (.l 9 (.l 10 (.qs [11] .nil)))))) (by kernel_rfl) (by kernel_rfl) ?_
              ((refine wpZ_q rfl rfl _ (fun w' hx' => by go_simp; try rfl) ?_; go_simp))
              ((refine wpZ_q rfl rfl _ (fun w' hx' => by go_simp; try rfl) ?_; go_simp))
              refine wpZ_q rfl rfl (.agg #[.slice da dn dc, .bool dP.rest]) (fun w' hx' => by obtain ⟨d0, d2, d3⟩ := box3 hx'.1; have d1 := d3 1 _ rfl; have d00 := d3 0 _ rfl; go_simp; try rfl) ?_
              go_simp
              ((refine wpZ_q rfl rfl _ (fun w' hx' => by go_simp; try rfl) ?_; go_simp))
              refine wpZ_q rfl rfl (.agg #[.slice k.r.a k.r.n k.r.c, .bool k.r.P.rest]) (fun w' hx' => by obtain ⟨d0, d1, d2, d3, d4⟩ := box5c hx'.2; go_simp; try rfl) ?_
              go_simp
              ((refine wpZ_q rfl rfl _ (fun w' hx' => by go_simp; try rfl) ?_; go_simp))
              refine wpZ_q rfl rfl (.slice ha D.length hc) (fun w' hx' => by have d2 := (box3 hx'.1).2.1; go_simp; try rfl) ?_
              go_simp
              refine wpZ_l rfl rfl ?_
              go_simp
              refine (HCP.out _ (HW7.out.trans' E6)).mono ?_
              rintro en w8 ⟨⟨ca, cn, cc, cP⟩, hcp, rfl, hco, hx8⟩
              have HX8 := Lib.hid (E6.trans' hx8)
              refine ⟨⟨HX8.out.heap' HF7.out, HX8.out.heap' HG8.out⟩, ?_⟩
              have HCC := Lib.hid (show PtO w8 w.heap.size (S + S) ⟨ca, cn, cc, cP⟩ from (hco.base (HW7.out.trans' E6).size).mono (by omega))
              have HCE := Lib.hid (show cP = k.r.P from hcp)
              have HR8 := Lib.hid (HR7.out.ext HX8.out)
              have HW8 := Lib.hid (HW7.out.trans' HX8.out)
              have HD8 := Lib.hid (HD7.out.trans' HX8.out)
              clear hcp hco hx8 E6
              go_simp
              ((refine wpZ_q rfl rfl _ (fun w' hx' => by go_simp; try rfl) ?_; go_simp))
              go_simp
              refine wpZ_l rfl rfl ?_
              go_simp
              have hal := Ext.alloc' w8 (.cells #[.slice da dn dc, .bool dP.rest, .slice ca cn cc, .bool cP.rest, .slice ha D.length hc] 60)
              have hrn := Row.new w8 #[.slice da dn dc, .bool dP.rest, .slice ca cn cc, .bool cP.rest, .slice ha D.length hc] 60 1 5 rfl (by decide)
              generalize w8.alloc (.cells #[.slice da dn dc, .bool dP.rest, .slice ca cn cc, .bool cP.rest, .slice ha D.length hc] 60) = w9 at hal hrn ⊢
              have HW9 := Lib.hid (HW8.out.trans' hal)
              have HD9 := Lib.hid (HD8.out.trans' hal)
              have HGA := Lib.hid (hal.heap' (HX8.out.heap' HF7.out))
              have HGB := Lib.hid (hal.heap' (HX8.out.heap' HG8.out))
              have hob := own_ext HEN.out.own HD9.out
              refine ⟨⟨HGA.out, HGB.out⟩, ?_⟩
              have hEE := Lib.hid (show EnO w9 w.heap.size (S + S) ⟨⟨da, dn, dc, dP⟩, ⟨ca, cn, cc, cP⟩, ha, hc, D⟩ from ⟨HR8.out.b.ext hal, HCC.out.ext hal, HR8.out.hs.ext hal⟩)
              have HOE := Lib.hid hob
              refine wpZ_l rfl rfl (owp_appL (.tmp 73) (.tmp 82) rfl Tryz.elEn rfl hob rfl hrn (en_one ⟨⟨da, dn, dc, dP⟩, ⟨ca, cn, cc, cP⟩, ha, hc, D⟩) (by decide) (by omega) (by unfold maxLen; omega) HW9.out.size ?_)
              intro a9 c9 w9' ho9 hg9 hl9
              have HX9 := Lib.hid (show Ext w w9' from below_app HW9.out HOE.out hg9 HW9.out.size)
              have HK9 := Lib.hid fun (o : En) (h : EnO w9 w.heap.size (S + S) o) => h.app HOE.out (by decide) (by decide) hg9
              have HO9 := Lib.hid ho9
              refine ⟨fun _ => ⟨box_app HGA.out HOE.out (by decide) hg9, box_app HGB.out HOE.out (by decide) hg9⟩, ?_⟩
              clear ho9 hg9 hl9 hal hrn
              go_simp
              ((refine wpZ_q rfl rfl _ (fun w' hx' => by go_simp; try rfl) ?_; go_simp))
              go_simp
              refine wpZ_nil ?_
              go_wp2
              refine ⟨?_, by simp [intOf]; omega⟩
              (repeat apply Exists.intro)
              refine ⟨?rel, ?eqs⟩
              case eqs => repeat (first | exact rfl | refine ⟨rfl, ?_⟩)
              case rel =>
                refine ⟨j + 1, out ++ [⟨⟨da, dn, dc, dP⟩, ⟨ca, cn, cc, cP⟩, ha, hc, D⟩], a9, c9, by go_num, by rw [List.length_append]; rfl, hjl, by rw [List.length_append]; show out.length + 1 ≤ _; omega, ⟨?_, fun q hq => ?_⟩, ?_, HX9.out⟩
                · rw [List.length_append, List.flatMap_append]; exact HO9.out
                · rcases List.mem_append.1 hq with hq | hq
                  · exact HK9.out q ((HEN.out.each q hq).ext HD9.out)
                  · obtain rfl : q = ⟨⟨da, dn, dc, dP⟩, ⟨ca, cn, cc, cP⟩, ha, hc, D⟩ := by simpa using hq
                    exact HK9.out _ hEE.out
                · have h6 := HEO.out.step HKR.out HKX.out.symm HLL.out (o := some (En.E ⟨⟨da, dn, dc, dP⟩, ⟨ca, cn, cc, cP⟩, ha, hc, D⟩)) ⟨HDP.out, HCE.out, by show RedOk k.l.P _ _; exact HRE.out⟩
                  rw [List.map_append]
                  exact h6
    · have hjL : j = v.length := by omega
      go_wp2
      rw [HPO.out]
      have h := HEO.out
      rw [hjL] at h
      refine ⟨a1, out.length, c1, 0, rfl, fun _ => ⟨HOK.out, out, rfl, by rw [List.length_map]; exact h, HEN.out⟩, HXD.out⟩
end Go.Proofs.YtejljmikammcdaaGreatDoor
