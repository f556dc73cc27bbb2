/-
  Several texts in one: ChaC, ChaD, ChaE, ChaF.
-/
import Derived.Test.YtkhjeeaojlaagaaChaB
import Derived.Test.YtkhjeeaojlaagaaDelN
import Derived.Test.YtkhjeeaojlaagaaDelQ
import Derived.Test.YtkhjeeaojlaagaaDelS
import Derived.Deep.CutRange
/-
  Chains: content and what it calls; Check, Depth, Get.
-/
namespace Go.Proofs.Ytkhjeeaojlaagaa
open Go.RowKit

theorem setCells_size {g : Nat} {t : TypeId} : ∀ (vs : List Value) (o : Nat) (w : World) (cs : Array Value), w.heap[g]? = some (.cells cs t (0, 0)) → ∃ cs' : Array Value, (w.setCells g o vs).heap[g]? = some (.cells cs' t (0, 0)) ∧ cs'.size = cs.size
  | [], o, w, cs, h => ⟨cs, h, rfl⟩
  | v :: vs, o, w, cs, h => by
    have h1 : (w.setCell ⟨g, o, none⟩ v).heap[g]? = some (.cells (cs.setIfInBounds o v) t (0, 0)) := by simp [World.setCell, Array.getElem?_modify, h]
    obtain ⟨cs', h2, h3⟩ := setCells_size vs (o + 1) _ _ h1
    exact ⟨cs', h2, by simpa using h3⟩
/-- An array that is stored as a whole. -/
theorem Arr.put {w : World} {g : Nat} {X Y : List Int} (h : Arr w g Y) (hX : X.length = 256) : Arr (w.setCells g 0 (ints X).toList) g X := by
  refine ⟨hX, ?_⟩
  obtain ⟨cs', h1, h2⟩ := setCells_size (ints X).toList 0 w _ h.2
  have h3 := World.rangeAt_setCells_same w g 0 (ints X).toList (by have := h.there hX; simpa using this)
  rw [h1]
  congr 2
  have hs : cs'.size = (ints X).size := by rw [h2]; simp [ints, h.1, hX]
  refine Array.ext hs fun i g1 g2 => ?_
  have h4 := h3 i ((ints X)[i]) (by rw [Array.getElem?_toList, Array.getElem?_eq_getElem g2])
  rw [Nat.zero_add, cell_of_row _ _ _ _ _ _ h1, Array.getElem?_eq_getElem g1] at h4
  exact Option.some.inj h4
theorem Arr.new (w : World) : Arr (w.alloc (.cells Try.zeroCells59 59)) w.heap.size (List.replicate 256 0) := ⟨List.length_replicate .., by rw [← Try.zeroDepths]; exact heap_alloc_new w _⟩
/-- Bytes somewhere. -/
def BytesAt (w : World) (l : List UInt8) (e : Ending) (w' : World) : Prop :=
  ∃ a n c, e = .returned (.slice a n c) ∧ Bytes w' a n c l ∧ n ≤ 140737488355328 ∧ Ext w w'

set_option maxRecDepth 100000 in
set_option maxHeartbeats 4000000 in
theorem of_any (a : Option Addr) (n c : Nat) (L : List Lk) (S : List (List UInt8 × Nat)) (b : Nat) (w0 : World) (hV : Val (L.map Lk.d) S) (hL : Links w0 a n c L)
    (h1 : w0.heap[b]? = some (.cells #[.slice a n c] 26 (0, 0)))
    (h2 : w0.heap[b + 1]? = some (.cells #[.func (.func 55) #[] #[.pointer (some ⟨b, 0, none⟩), .pointer (some ⟨b + 1, 0, none⟩)]] 93 (0, 0))) :
    ∀ (k i : Nat) (w : World) (y : List UInt8 × Nat), i < k → Ext w0 w → S[i]? = some y →
      Calls Try.prog 55 #[.int .i64 i, .pointer (some ⟨b, 0, none⟩), .pointer (some ⟨b + 1, 0, none⟩)] w (BytesAt w y.1)
  | 0, i, w, y, hi, _, _ => by omega
  | k + 1, i, w, y, hi, hx, hy => by
    have hSl := hV.len
    rw [List.length_map, hL.1] at hSl
    have hin : i < n := by have := (List.getElem?_eq_some_iff.1 hy).1; omega
    obtain ⟨x, hxk⟩ : ∃ x, L[i]? = some x := ⟨_, List.getElem?_eq_getElem (by rw [hL.1]; exact hin)⟩
    have hkI := (hL.2.2 x (List.mem_of_getElem? hxk)).ext hx
    have hxd : (L.map Lk.d)[i]? = some x.d := by rw [List.getElem?_map, hxk]; rfl
    obtain ⟨y', hy', hln⟩ := hV.2 i _ hxd
    rw [hy] at hy'
    cases hy'
    have hok := lnS_ok hln
    have hsz := lnS_size hln
    have hr1 := hL.2.1.ext hx
    have hcb := fun j => cell_of_row w b j _ _ _ (hx.heap' h1)
    have hcb2 : ∀ w', Ext w w' → ∀ j, w'.cell? ⟨b + 1, j, none⟩ = #[.func (.func 55) #[] #[.pointer (some ⟨b, 0, none⟩), .pointer (some ⟨b + 1, 0, none⟩)]][j]? := fun w' h j => cell_of_row w' (b + 1) j _ _ _ ((hx.trans' h).heap' h2)
    have HK := Lib.hid hxk
    obtain ⟨xb, xa, xn, xc, xl⟩ := x
    obtain ⟨hkb, hkn, hki⟩ := hkI
    simp only at hkn
    have HKB := Lib.hid hkb
    have hki' : -9223372036854775808 ≤ xb ∧ xb ≤ 9223372036854775807 := hki
    clear hxk hln hkb hki hxd
    rcases hok with ⟨e1, e2, rfl⟩ | ⟨jj, ct, dt, os, e1, e2, e3, e4, rfl⟩
    · obtain rfl : xb = -1 := e1
      clear e2 hcb2
      go_enter Try.func55, Try.ntmps55
      go_wp2_with (first
        | ((with_reducible refine atSlot 13 ?_); refine wpList_of_wp rfl (owp_ix (o := ⟨some 13, _, _, _, _, _⟩) _ _ rfl Try.elLk rfl hr1 i rfl rfl hin ?_); intro b3 o3 hc3; have hrg3 := lk_range HK.out hc3; clear hc3)
        | ((with_reducible refine atSlot 14 ?_); refine wpList_of_wp rfl (wp_load_mid (op := ⟨some 14, _, _, _, _, _⟩) 45 _ rfl b3 o3 rfl _ _ hrg3 Try.underlying45 rfl (by kernel_rfl) ?_); simp only [Lk.cells]; clear hrg3)
        | fail)
      go_ret
      exact ⟨xa, xn, xc, rfl, HKB.out.ext (Ext.alloc' _ _), hkn, Ext.alloc' _ _⟩
    · obtain rfl : xb = (jj : Int) := e1
      have hjj : jj < i := by have := (List.getElem?_eq_some_iff.1 e2).1; rw [List.length_take] at this; omega
      have hSj : S[jj]? = some (ct, dt) := by rw [List.getElem?_take, if_pos hjj] at e2; exact e2
      have hx5 : Ext w0 (w.alloc (.cells #[.int .i64 (jj : Int), .slice xa xn xc] 45)) := hx.trans' (Ext.alloc' _ _)
      have hih := of_any a n c L S b w0 hV hL h1 h2 k jj _ (ct, dt) (by omega) hx5 hSj
      obtain ⟨hck, hos, hosk⟩ := decD_ck e3
      have hap : apRes ct os = (appD ct os, 0) := by unfold apRes; rw [hck]; rfl
      have e3' : decD (ct.length : Int) xl = some os := e3
      have hdr : decDRes (ct.length : Int) xl = (os, 0) := by unfold decDRes; rw [e3']
      have hfew := decD_few (ct.length : Int) xl
      rw [hdr] at hfew
      have hE5 := Ext.alloc' w (.cells #[.int .i64 (jj : Int), .slice xa xn xc] 45)
      have hbx := heap_alloc_new w (.cells #[.int .i64 (jj : Int), .slice xa xn xc] 45)
      have hcb3 := hcb2 _ hE5
      have HIH := Lib.hid hih
      have HAP := Lib.hid hap
      have HDR := Lib.hid hdr
      clear e2 e3 e3' e4 hSj hih hap hdr hck hosk hcb2 hx5
      go_enter Try.func55, Try.ntmps55
      go_wp2_with (first
        | ((with_reducible refine atSlot 13 ?_); refine wpList_of_wp rfl (owp_ix (o := ⟨some 13, _, _, _, _, _⟩) _ _ rfl Try.elLk rfl hr1 i rfl rfl hin ?_); intro b3 o3 hc3; have hrg3 := lk_range HK.out hc3; clear hc3)
        | ((with_reducible refine atSlot 14 ?_); refine wpList_of_wp rfl (wp_load_mid (op := ⟨some 14, _, _, _, _, _⟩) 45 _ rfl b3 o3 rfl _ _ hrg3 Try.underlying45 rfl (by kernel_rfl) ?_); simp only [Lk.cells]; clear hrg3)
        | (go_at_call 55; (with_reducible refine HIH.out.mono ?_); rintro e w6 ⟨a6, n6, c6, rfl, hb6, hn6, hx6⟩; clear hcb3; have hq := fun j => cell_of_row w6 w.heap.size j _ _ _ (hx6.heap' hbx); have hE6 := hE5.trans' hx6; have hl6 : ct.length = n6 := hb6.len; have hdr := HDR.out; rw [hl6] at hdr; have HD6 := Lib.hid hdr; clear hdr)
        | (go_at_call 54; (with_reducible refine (Decode_any (n6 : Int) xa xn xc xl _ (HKB.out.ext hE6) hkn HD6.out).mono ?_); rintro e w7 ⟨a7, n7, c7, L7, rfl, hO7, hD7, -, hx7⟩; clear hq; have hap := HAP.out; rw [← hD7] at hap; have HA7 := Lib.hid hap; have hn7 : n7 ≤ 4096 := (by rw [← hO7.len, ← List.length_map (f := Od.d), hD7]; exact hfew); clear hap)
        | (go_at_call 56; (with_reducible refine (Apply_any a6 n6 c6 ct a7 n7 c7 L7 _ (hb6.ext hx7) hO7.ops hn6 (by omega) HA7.out).mono ?_); rintro e w8 ⟨a8, n8, c8, rfl, ho8, hx8⟩)
        | fail)
      go_ret
      have h8 := own_len ho8
      rw [hD7] at ho8 h8
      have h9 : (appD ct os).length ≤ 1048576 := hsz.1
      exact ⟨a8, n8, c8, rfl, Bytes.of_own ho8, by omega, (hE6.trans' hx7).trans' hx8⟩

set_option maxRecDepth 100000 in
set_option maxHeartbeats 2000000 in
theorem content_any (a : Option Addr) (n c : Nat) (L : List Lk) (S : List (List UInt8 × Nat)) (i : Nat) (y : List UInt8 × Nat) (w : World) (hV : Val (L.map Lk.d) S) (hL : Links w a n c L) (hy : S[i]? = some y) :
    Calls Try.prog 38 #[.slice a n c, .int .i64 i] w (NewBytes w y.1) := by
  have hx1 := Ext.alloc' w (.cells #[.slice a n c] 26)
  have hb1 := heap_alloc_new w (.cells #[.slice a n c] 26)
  have hs1 := World.size_alloc w (.cells #[.slice a n c] 26)
  obtain ⟨w1, e1⟩ : ∃ w1, w1 = w.alloc (.cells #[.slice a n c] 26) := ⟨_, rfl⟩
  rw [← e1] at hx1 hb1 hs1
  obtain ⟨F, hF⟩ : ∃ F : Value, F = .func (.func 55) #[] #[.pointer (some ⟨w.heap.size, 0, none⟩), .pointer (some ⟨w.heap.size + 1, 0, none⟩)] := ⟨_, rfl⟩
  have hbn := heap_alloc_new w1 (.cells #[.nilFunc] 93)
  rw [hs1] at hbn
  have hb2 := heap_alloc_new w1 (.cells #[F] 93)
  rw [hs1] at hb2
  have hx2 := Ext.alloc' w1 (.cells #[F] 93)
  have hth : (w1.alloc (.cells #[.nilFunc] 93)).there (w.heap.size + 1) 0 1 := there_box hbn (by simp)
  rw [hF] at hb2 hx2
  have hof := of_any a n c L S w.heap.size _ hV (hL.ext (hx1.trans' hx2)) (hx2.heap' hb1) hb2 (i + 1) i _ y (Nat.lt_succ_self _) (Below.refl _ _) hy
  have hE := hx1.trans' hx2
  rw [e1] at hof hE hth
  have HOF := Lib.hid hof
  clear hof hx1 hx2 hb1 hb2 hs1 e1 hbn hF
  go_enter Try.func38, Try.ntmps38
  go_wp2_with (first
    | ((with_reducible refine atStore 5 ?_); refine wpList_of_wp rfl (owp_st1 (o := ⟨none, _, _, _, _, _⟩) 93 _ _ rfl (w.heap.size + 1) 0 _ rfl rfl rfl hth (by kernel_rfl) rfl ?_))
    | (go_at_call 55; (with_reducible refine HOF.out.mono ?_); rintro e w3 ⟨a3, n3, c3, rfl, hb3, hn3, hx3⟩)
    | (go_at_call 39; (with_reducible refine (Clone_any a3 n3 c3 _ _ hb3 hn3).mono ?_); rintro e w4 ⟨a4, n4, c4, rfl, ho4, hx4⟩)
    | fail)
  go_ret
  have hE3 := hE.trans' hx3
  exact ⟨a4, n4, c4, rfl, own_base ho4 hE3.size, hE3.trans' hx4⟩

set_option maxRecDepth 100000 in
set_option maxHeartbeats 2000000 in
theorem chCheck_any (a : Option Addr) (n c : Nat) (L : List Lk) (w : World) (hL : Links w a n c L) (hn : n ≤ 140737488355328) {S : List (List UInt8 × Nat)} {er : Int} (hr : stC (L.map Lk.d) = (S, er)) :
    Calls Try.prog 28 #[.slice a n c] w (NewNone (.int .i64 er) w) := by
  have HM := Lib.hid (measure_any a n c L w hL hn hr)
  go_enter Try.func28, Try.ntmps28
  go_wp2_with (first
    | (go_at_call 36; (with_reducible refine HM.out.mono ?_); rintro e w2 ⟨X, rfl, hX, -, hx2⟩)
    | ((with_reducible refine atStore 3 ?_); refine wpList_store_mid rfl 59 _ _ rfl w2.heap.size 0 (ints X) rfl rfl ((Arr.new w2).there hX) (ints_size hX) (ints_one _) ?_)
    | fail)
  go_ret
  exact ⟨rfl, (hx2.al _).sts hx2.size _ _⟩
end Go.Proofs.Ytkhjeeaojlaagaa
/-
  Chains: Depth, Get, encoded, Cost.
-/
namespace Go.Proofs.Ytkhjeeaojlaagaa
open Go.RowKit

def depV (S : List (List UInt8 × Nat)) (er : Int) (n : Nat) (i : Int) : Int := if er ≠ 0 ∨ i < 0 ∨ (n : Int) ≤ i then -1 else ((S.getD i.toNat ([], 0)).2 : Nat)
def getV (S : List (List UInt8 × Nat)) (er : Int) (n : Nat) (i : Int) : List UInt8 × Int := if er ≠ 0 then ([], er) else if i < 0 ∨ (n : Int) ≤ i then ([], 273) else ((S.getD i.toNat ([], 0)).1, 0)
theorem getD_of {S : List (List UInt8 × Nat)} {i : Nat} {y : List UInt8 × Nat} (h : S[i]? = some y) : S.getD i ([], 0) = y := by rw [List.getD_eq_getElem?_getD, h]; rfl

set_option maxRecDepth 100000 in
set_option maxHeartbeats 4000000 in
theorem chDepth_any (a : Option Addr) (n c : Nat) (L : List Lk) (i : Int) (w : World) (hL : Links w a n c L) (hn : n ≤ 140737488355328) (hi : i64B i) {S : List (List UInt8 × Nat)} {er : Int} (hr : stC (L.map Lk.d) = (S, er)) :
    Calls Try.prog 21 #[.slice a n c, .int .i64 i] w (NewNone (.int .i64 (depV S er n i)) w) := by
  have HM := Lib.hid (measure_any a n c L w hL hn hr)
  obtain ⟨v, hv⟩ : ∃ v, v = depV S er n i := ⟨_, rfl⟩
  rw [← hv]
  unfold depV at hv
  have hi' : -9223372036854775808 ≤ i ∧ i ≤ 9223372036854775807 := hi
  have HLN := Lib.hid hL.1
  have HR := Lib.hid hr
  clear hi hr
  by_cases he : er = 0
  rotate_left
  · rw [if_pos (.inl he)] at hv
    subst hv
    obtain ⟨q1, q2⟩ := neI he
    clear he
    go_enter Try.func21, Try.ntmps21
    go_wp2_with (first
      | (go_at_call 36; (with_reducible refine HM.out.mono ?_); rintro e w2 ⟨X, rfl, hX, -, hx2⟩)
      | ((with_reducible refine atStore 5 ?_); refine wpList_store_mid rfl 59 _ _ rfl w2.heap.size 0 (ints X) rfl rfl ((Arr.new w2).there hX) (ints_size hX) (ints_one _) ?_)
      | fail)
    go_ret
    exact ⟨rfl, (hx2.al _).sts hx2.size _ _⟩
  subst he
  by_cases hlt : i < 0
  · rw [if_pos (.inr (.inl hlt))] at hv
    subst hv
    have hd : decide (i < 0) = true := decide_eq_true hlt
    go_enter Try.func21, Try.ntmps21
    go_wp2_with (first
      | (go_at_call 36; (with_reducible refine HM.out.mono ?_); rintro e w2 ⟨X, rfl, hX, -, hx2⟩)
      | ((with_reducible refine atStore 5 ?_); refine wpList_store_mid rfl 59 _ _ rfl w2.heap.size 0 (ints X) rfl rfl ((Arr.new w2).there hX) (ints_size hX) (ints_one _) ?_)
      | fail)
    go_ret
    exact ⟨rfl, (hx2.al _).sts hx2.size _ _⟩
  obtain ⟨ii, rfl⟩ := Int.eq_ofNat_of_zero_le (show 0 ≤ i by omega)
  by_cases hge : (n : Int) ≤ ii
  · rw [if_pos (.inr (.inr hge))] at hv
    subst hv
    have hd : decide ((n : Int) ≤ ii) = true := decide_eq_true hge
    go_enter Try.func21, Try.ntmps21
    go_wp2_with (first
      | (go_at_call 36; (with_reducible refine HM.out.mono ?_); rintro e w2 ⟨X, rfl, hX, -, hx2⟩)
      | ((with_reducible refine atStore 5 ?_); refine wpList_store_mid rfl 59 _ _ rfl w2.heap.size 0 (ints X) rfl rfl ((Arr.new w2).there hX) (ints_size hX) (ints_one _) ?_)
      | fail)
    go_ret
    exact ⟨rfl, (hx2.al _).sts hx2.size _ _⟩
  · have hin : ii < n := by omega
    obtain ⟨hV, h256⟩ := stC_val HR.out
    rw [List.length_map, HLN.out] at h256
    obtain ⟨y, hy⟩ : ∃ y, S[ii]? = some y := ⟨_, List.getElem?_eq_getElem (by rw [hV.len, List.length_map, HLN.out]; exact hin)⟩
    rw [if_neg (by omega), Int.toNat_natCast, getD_of hy] at hv
    have HY := Lib.hid hy
    have HV := Lib.hid hv
    clear hv hy hV hge hlt
    go_enter Try.func21, Try.ntmps21
    go_wp2_with (first
      | (go_at_call 36; (with_reducible refine HM.out.mono ?_); rintro e w2 ⟨X, rfl, hX, hXS, hx2⟩; have hxi := hXS rfl ii y HY.out; clear hXS)
      | ((with_reducible refine atStore 5 ?_); refine wpList_store_mid rfl 59 _ _ rfl w2.heap.size 0 (ints X) rfl rfl ((Arr.new w2).there hX) (ints_size hX) (ints_one _) ?_; have hq := ((Arr.new w2).put hX).at_ hxi)
      | fail)
    go_ret
    exact ⟨by rw [HV.out]; rfl, (hx2.al _).sts hx2.size _ _⟩

set_option maxRecDepth 100000 in
set_option maxHeartbeats 4000000 in
theorem chGet_any (a : Option Addr) (n c : Nat) (L : List Lk) (i : Int) (w : World) (hL : Links w a n c L) (hn : n ≤ 140737488355328) (hi : i64B i) {S : List (List UInt8 × Nat)} {er : Int} (hr : stC (L.map Lk.d) = (S, er)) {l : List UInt8} {e0 : Int} (hg : getV S er n i = (l, e0)) :
    Calls Try.prog 19 #[.slice a n c, .int .i64 i] w (BytesRes w l e0) := by
  have HM := Lib.hid (chCheck_any a n c L w hL hn hr)
  unfold getV at hg
  have hi' : -9223372036854775808 ≤ i ∧ i ≤ 9223372036854775807 := hi
  have HLN := Lib.hid hL.1
  have HR := Lib.hid hr
  clear hi hr
  by_cases he : er = 0
  rotate_left
  · rw [if_pos he] at hg
    cases hg
    obtain ⟨q1, q2⟩ := neI he
    clear he
    go_enter Try.func19, Try.ntmps19
    go_wp2_with (first
      | (go_at_call 28; (with_reducible refine HM.out.mono ?_); rintro e w2 ⟨rfl, hx2⟩)
      | fail)
    go_ret2
    exact ⟨none, 0, 0, rfl, own_nil _ _ _ _, hx2⟩
  subst he
  rw [if_neg (by simp)] at hg
  by_cases hlt : i < 0
  · rw [if_pos (.inl hlt)] at hg
    cases hg
    have hd : decide (i < 0) = true := decide_eq_true hlt
    go_enter Try.func19, Try.ntmps19
    go_wp2_with (first
      | (go_at_call 28; (with_reducible refine HM.out.mono ?_); rintro e w2 ⟨rfl, hx2⟩)
      | fail)
    go_ret2
    exact ⟨none, 0, 0, rfl, own_nil _ _ _ _, hx2⟩
  obtain ⟨ii, rfl⟩ := Int.eq_ofNat_of_zero_le (show 0 ≤ i by omega)
  by_cases hge : (n : Int) ≤ ii
  · rw [if_pos (.inr hge)] at hg
    cases hg
    have hd : decide ((n : Int) ≤ ii) = true := decide_eq_true hge
    go_enter Try.func19, Try.ntmps19
    go_wp2_with (first
      | (go_at_call 28; (with_reducible refine HM.out.mono ?_); rintro e w2 ⟨rfl, hx2⟩)
      | fail)
    go_ret2
    exact ⟨none, 0, 0, rfl, own_nil _ _ _ _, hx2⟩
  · have hin : ii < n := by omega
    obtain ⟨hV, h256⟩ := stC_val HR.out
    obtain ⟨y, hy⟩ : ∃ y, S[ii]? = some y := ⟨_, List.getElem?_eq_getElem (by rw [hV.len, List.length_map, HLN.out]; exact hin)⟩
    rw [if_neg (by omega), Int.toNat_natCast, getD_of hy] at hg
    cases hg
    have HC := Lib.hid (fun w' hx => content_any a n c L S ii y w' hV (hL.ext hx) hy)
    clear hV h256 hy hge hlt
    go_enter Try.func19, Try.ntmps19
    go_wp2_with (first
      | (go_at_call 28; (with_reducible refine HM.out.mono ?_); rintro e w2 ⟨rfl, hx2⟩)
      | (go_at_call 38; (with_reducible refine (HC.out _ hx2).mono ?_); rintro e w3 ⟨a3, n3, c3, rfl, ho3, hx3⟩)
      | fail)
    go_ret2
    exact ⟨a3, n3, c3, rfl, own_base ho3 hx2.size, hx2.trans' hx3⟩

/-- The encoding of the delta from one content to another, and whether it is shorter. -/
def encV (b t : List UInt8) : List UInt8 × Bool := if 2048 < b.length ∨ 2048 < t.length then ([], false) else (encD (makeD b t), decide ((encD (makeD b t)).length < t.length))
def EncB (w : World) (l : List UInt8) (ok : Bool) (e : Ending) (w' : World) : Prop :=
  ∃ a n c, e = .returned (.tuple #[.slice a n c, .bool ok]) ∧ w'.ownsRow w.heap.size 5 1 (.slice a n c) n (l.map u8) ∧ Ext w w'

set_option maxRecDepth 100000 in
set_option maxHeartbeats 4000000 in
theorem encoded_any (a1 : Option Addr) (n1 c1 : Nat) (b : List UInt8) (a2 : Option Addr) (n2 c2 : Nat) (t : List UInt8) (w : World) (h1 : Bytes w a1 n1 c1 b) (h2 : Bytes w a2 n2 c2 t) (hn1 : n1 ≤ 140737488355328) (hn2 : n2 ≤ 140737488355328) {l : List UInt8} {ok : Bool} (hr : encV b t = (l, ok)) :
    Calls Try.prog 37 #[.slice a1 n1 c1, .slice a2 n2 c2] w (EncB w l ok) := by
  unfold encV at hr
  have hl1 := h1.len
  have hl2 := h2.len
  by_cases hbig : 2048 < b.length ∨ 2048 < t.length
  · rw [if_pos hbig] at hr
    cases hr
    have hmk : makeRes b t = ([], 262) := by unfold makeRes; rw [if_pos hbig]
    have HM := Lib.hid (Make_any a1 n1 c1 b a2 n2 c2 t w h1 h2 hn1 hn2 hmk)
    clear hmk hbig
    go_enter Try.func37, Try.ntmps37
    go_wp2_with (first
      | (go_at_call 24; (with_reducible refine HM.out.mono ?_); rintro e w2 ⟨a3, n3, c3, L3, rfl, hL3, -, hx2⟩)
      | fail)
    go_ret2
    exact ⟨none, 0, 0, rfl, own_nil _ _ _ _, hx2⟩
  · rw [if_neg hbig] at hr
    simp only [Prod.mk.injEq] at hr
    obtain ⟨rfl, hok⟩ := hr
    have hmk : makeRes b t = (makeD b t, 0) := by unfold makeRes; rw [if_neg hbig]
    have HM := Lib.hid (Make_any a1 n1 c1 b a2 n2 c2 t w h1 h2 hn1 hn2 hmk)
    have hck := make_check (b := b) (T := t) (by omega) (by omega)
    have hen : encDRes (n1 : Int) (makeD b t) = (encD (makeD b t), 0) := by unfold encDRes; rw [← hl1, hck]; rfl
    have hlen : (makeD b t).length ≤ 4096 := by obtain ⟨-, -, -, -, -, h⟩ := ckRes_ok hck; exact h
    have HEN := Lib.hid hen
    have HOK := Lib.hid hok
    clear hmk hbig hck hen hok
    go_enter Try.func37, Try.ntmps37
    go_wp2_with (first
      | (go_at_call 24; (with_reducible refine HM.out.mono ?_); rintro e w2 ⟨a3, n3, c3, L3, rfl, hL3, hD3, hx2⟩; have hn3 : n3 ≤ 4096 := (by rw [← hL3.1, ← List.length_map (f := Od.d), hD3]; exact hlen); have hen := HEN.out; rw [← hD3] at hen; have HE2 := Lib.hid hen; clear hen)
      | (go_at_call 25; (with_reducible refine (Encode_any (n1 : Int) a3 n3 c3 L3 _ hL3 (by omega) HE2.out).mono ?_); rintro e w4 ⟨a4, n4, c4, rfl, ho4, hx4⟩)
      | fail)
    rw [hD3] at ho4
    have h4 := own_len ho4
    go_ret2
    refine ⟨a4, n4, c4, ?_, own_base ho4 hx2.size, hx2.trans' hx4⟩
    rw [← HOK.out, h4, ← hl2, h2.len]
    simp
def lnSum (L : List Ln) : Nat := (L.map fun x => x.l.length).sum
theorem wrap_add' (a b : Int) : wrap64 (wrap64 a + b) = wrap64 (a + b) := by unfold wrap64; omega
theorem lnSum_take {L : List Lk} {j : Nat} {k : Lk} (h : L[j]? = some k) : lnSum ((L.take (j + 1)).map Lk.d) = lnSum ((L.take j).map Lk.d) + k.l.length := by
  rw [List.take_add_one, h]
  simp [lnSum]
  rfl
theorem cs_zero {L : List Lk} : (0 : Int) = RowKit.wrap64 ((lnSum ((L.take 0).map Lk.d) : Nat) : Int) := by
  rw [List.take_zero]; show (0 : Int) = RowKit.wrap64 ((0 : Nat) : Int); unfold RowKit.wrap64; omega
def CsRel (w : World) (L : List Lk) (s i : Value) (wr : World) : Prop := ∃ j : Nat, i = .int .i64 j ∧ s = .int .i64 (RowKit.wrap64 (lnSum ((L.take j).map Lk.d) : Nat)) ∧ j ≤ L.length ∧ Ext w wr

set_option maxRecDepth 100000 in
set_option maxHeartbeats 4000000 in
theorem chCost_any (a : Option Addr) (n c : Nat) (L : List Lk) (w : World) (hL : Links w a n c L) (hn : n ≤ 140737488355328) :
    Calls Try.prog 30 #[.slice a n c] w (NewNone (.int .i64 (RowKit.wrap64 (lnSum (L.map Lk.d) : Nat))) w) := by
  have HLN := Lib.hid hL.1
  have hrow := hL.2.1
  go_enter Try.func30, Try.ntmps30
  go_wp2
  go_loopw [3, 8] (CsRel w L) (fun _ i _ => n - (intOf i).toNat)
  case atStart => exact ⟨0, rfl, congrArg (Value.int IntKind.i64) cs_zero, Nat.zero_le _, Below.refl _ _⟩
  case round =>
    obtain ⟨j, rfl, rfl, hj, hx3⟩ := hrel
    rename World => w3
    have hjn' : j ≤ n := by have := HLN.out; omega
    by_cases hjn : j < n
    rotate_left
    · obtain rfl : j = n := by omega
      go_wp2
      go_ret
      exact ⟨by rw [List.take_of_length_le (by have := HLN.out; omega)]; rfl, hx3⟩
    obtain ⟨k, hk⟩ : ∃ k, L[j]? = some k := ⟨_, List.getElem?_eq_getElem (by have := HLN.out; omega)⟩
    have hr1 := hrow.ext hx3
    have hkl := (hL.2.2 k (List.mem_of_getElem? hk)).1.len
    have hst := lnSum_take hk
    obtain ⟨s, hs⟩ : ∃ s, s = lnSum ((L.take j).map Lk.d) := ⟨_, rfl⟩
    rw [← hs] at hst ⊢
    have hw1 : RowKit.wrap64 (RowKit.wrap64 (s : Nat) + (k.n : Int)) = RowKit.wrap64 ((lnSum ((L.take (j + 1)).map Lk.d) : Nat) : Int) := by
      rw [wrap_add', hst, hkl]; rfl
    have HK := Lib.hid hk
    have HW := Lib.hid hw1
    clear hk hst hs hw1 hkl
    go_wp2_with (first
      | ((with_reducible refine atSlot 10 ?_); refine wpList_of_wp rfl (owp_ix (o := ⟨some 10, _, _, _, _, _⟩) _ _ rfl Try.elLk rfl hr1 j rfl rfl hjn ?_); intro b3 o3 hc3; have hrg3 := lk_range HK.out hc3; clear hc3)
      | ((with_reducible refine atSlot 11 ?_); refine wpList_of_wp rfl (wp_load_mid (op := ⟨some 11, _, _, _, _, _⟩) 45 _ rfl b3 o3 rfl _ _ hrg3 Try.underlying45 rfl (by kernel_rfl) ?_); simp only [Lk.cells]; clear hrg3)
      | fail)
    go_roundw
    case rel => exact ⟨j + 1, by go_num, congrArg (Value.int IntKind.i64) HW.out, by have := HLN.out; omega, hx3.al _⟩
    case measure => simp [intOf]; omega

set_option maxRecDepth 100000 in
set_option maxHeartbeats 4000000 in
theorem refChCost_any (a : Option Addr) (n c : Nat) (L : List Lk) (w : World) (hL : Links w a n c L) (hn : n ≤ 140737488355328) :
    Calls Try.prog 31 #[.slice a n c] w (NewNone (.int .i64 (RowKit.wrap64 (lnSum (L.map Lk.d) : Nat))) w) := by
  have HLN := Lib.hid hL.1
  have hrow := hL.2.1
  go_enter Try.func31, Try.ntmps31
  go_wp2
  go_loopw [3, 4] (CsRel w L) (fun _ i _ => n - (intOf i).toNat)
  case atStart => exact ⟨0, rfl, congrArg (Value.int IntKind.i64) cs_zero, Nat.zero_le _, Below.refl _ _⟩
  case round =>
    obtain ⟨j, rfl, rfl, hj, hx3⟩ := hrel
    rename World => w3
    have hjn' : j ≤ n := by have := HLN.out; omega
    by_cases hjn : j < n
    rotate_left
    · obtain rfl : j = n := by omega
      go_wp2
      go_ret
      exact ⟨by rw [List.take_of_length_le (by have := HLN.out; omega)]; rfl, hx3⟩
    obtain ⟨k, hk⟩ : ∃ k, L[j]? = some k := ⟨_, List.getElem?_eq_getElem (by have := HLN.out; omega)⟩
    have hr1 := hrow.ext hx3
    have hkl := (hL.2.2 k (List.mem_of_getElem? hk)).1.len
    have hst := lnSum_take hk
    obtain ⟨s, hs⟩ : ∃ s, s = lnSum ((L.take j).map Lk.d) := ⟨_, rfl⟩
    rw [← hs] at hst ⊢
    have hw1 : RowKit.wrap64 (RowKit.wrap64 (s : Nat) + (k.n : Int)) = RowKit.wrap64 ((lnSum ((L.take (j + 1)).map Lk.d) : Nat) : Int) := by
      rw [wrap_add', hst, hkl]; rfl
    have HK := Lib.hid hk
    have HW := Lib.hid hw1
    clear hk hst hs hw1 hkl
    go_wp2_with (first
      | ((with_reducible refine atSlot 14 ?_); refine wpList_of_wp rfl (owp_ix (o := ⟨some 14, _, _, _, _, _⟩) _ _ rfl Try.elLk rfl hr1 j rfl rfl hjn ?_); intro b3 o3 hc3; have hd3 := (hc3 1 (by decide)).trans (lk_get HK.out 1 (by decide)); simp only [Lk.cells, List.getElem?_cons_succ, List.getElem?_cons_zero] at hd3; clear hc3)
      | fail)
    go_roundw
    case rel => exact ⟨j + 1, by go_num, congrArg (Value.int IntKind.i64) HW.out, by have := HLN.out; omega, hx3⟩
    case measure => simp [intOf]; omega
end Go.Proofs.Ytkhjeeaojlaagaa
/-
  Chains: slices.Clone of links, copied.
-/
namespace Go.Proofs.Ytkhjeeaojlaagaa
open Go.RowKit

def ClR (w : World) (n : Nat) (xs : List Value) (e : Ending) (w' : World) : Prop :=
  ∃ a c, e = .returned (.slice a n c) ∧ w'.ownsRow w.heap.size 45 2 (.slice a n c) n xs ∧ Ext w w'
set_option maxRecDepth 100000 in
theorem CloneLk_any (a : Option Addr) (n c : Nat) (L : List Lk) (w : World) (hL : Links w a n c L) (hn : n ≤ 1000000) :
    Calls Try.prog 57 #[.slice a n c] w (ClR w n (L.flatMap Lk.cells)) := by
  cases a with
  | none =>
    have h1 := hL.2.1.nil rfl
    have h2 := hL.2.1.le
    obtain rfl : c = 0 := h1
    obtain rfl : n = 0 := by omega
    obtain rfl : L = [] := List.eq_nil_of_length_eq_zero hL.1
    have hq := Lib.run_eql_slice_nil (P := Try.prog) w 26 45 none 0 0 0 0 Try.underlying26
    go_enter Try.func57, Try.ntmps57
    go_wp2
    go_ret
    exact ⟨none, 0, rfl, own_nil _ _ _ _, Below.refl _ _⟩
  | some p =>
    have hrw : ∀ w', Ext w w' → Row w' (some p) n c 2 (L.flatMap Lk.cells) := fun w' h => (hL.ext h).2.1
    have hq := Lib.run_eql_slice_nil (P := Try.prog) w 26 45 (some p) n c 0 0 Try.underlying26
    go_enter Try.func57, Try.ntmps57
    go_wp2_with (at_builtin; with_reducible refine wpList_app rfl _ _ rfl Try.elLk rfl (own_lit w #[] w.heap.size 45 0 2 (Nat.le_refl _) (by decide) rfl) rfl (hrw _ (Ext.alloc' _ _)) (lk_oneCell _) (by omega) (by unfold maxLen; omega) (by simp) ?_; intro a1 c1 w1 ho1 hg1)
    go_ret
    refine ⟨a1, c1, ?_, ?_, ?_⟩
    · simp
    · simpa using ho1
    · exact below_app (Ext.alloc' w _) (own_lit w #[] w.heap.size 45 0 2 (Nat.le_refl _) (by decide) rfl) hg1 (by simp)
theorem lk_set_one {y : Lk} {v : Value} {j : Nat} : ∀ {L : List Lk} {i : Nat} {x : Lk}, L[i]? = some x → j < 2 → y.cells = x.cells.set j v → (L.flatMap Lk.cells).set (i * 2 + j) v = (L.set i y).flatMap Lk.cells
  | [], _, _, h, _, _ => by cases h
  | x :: L, 0, x', h, hj, hy => by
    have : x = x' := by simpa using h
    subst this
    rw [List.flatMap_cons, Nat.zero_mul, Nat.zero_add, List.set_cons_zero, List.flatMap_cons, hy, List.set_append_left _ _ (by show j < 2; exact hj)]
  | x :: L, i + 1, x', h, hj, hy => by
    have hc : x.cells.length = 2 := rfl
    rw [List.flatMap_cons, List.set_cons_succ, List.flatMap_cons, ← lk_set_one (by simpa using h) hj hy, List.set_append_right _ _ (by omega), hc, show (i + 1) * 2 + j - 2 = i * 2 + j by omega]
def CopR (w : World) (L : List Ln) (e : Ending) (w' : World) : Prop :=
  ∃ (a : Option Addr) (n c : Nat) (LL : List Lk), e = .returned (.slice a n c) ∧ OwnLks w' w.heap.size a n c LL ∧ LL.map Lk.d = L ∧ Ext w w'
def CpRel (w : World) (a : Option Addr) (n c : Nat) (L : List Lk) (i : Value) (wr : World) : Prop :=
  ∃ (j : Nat) (LL : List Lk), i = .int .i64 j ∧ j ≤ n ∧ LL.length = n ∧ LL.map Lk.d = L.map Lk.d ∧ wr.ownsRow w.heap.size 45 2 (.slice a n c) n (LL.flatMap Lk.cells) ∧
    (∀ k y, k < j → LL[k]? = some y → wr.ownsRow w.heap.size 5 1 (.slice y.a y.n y.c) y.n (y.l.map u8)) ∧ (∀ k, j ≤ k → LL[k]? = L[k]?) ∧ Ext w wr

set_option maxRecDepth 100000 in
set_option maxHeartbeats 4000000 in
theorem copied_any (a : Option Addr) (n c : Nat) (L : List Lk) (w : World) (hL : Links w a n c L) (hn : n ≤ 1000000) :
    Calls Try.prog 40 #[.slice a n c] w (CopR w (L.map Lk.d)) := by
  have HCL := Lib.hid (CloneLk_any a n c L w hL hn)
  have HLN := Lib.hid hL.1
  go_enter Try.func40, Try.ntmps40
  go_wp2_with (first
    | (go_at_call 57; (with_reducible refine HCL.out.mono ?_); rintro e w2 ⟨a2, c2, rfl, ho2, hx2⟩)
    | fail)
  go_loopw [10] (CpRel w a2 n c2 L) (fun i _ => n - (intOf i).toNat)
  case atStart => exact ⟨0, L, rfl, Nat.zero_le _, HLN.out, rfl, ho2, (fun k y h => absurd h (Nat.not_lt_zero _)), (fun k _ => rfl), hx2⟩
  case round =>
    obtain ⟨j, LL, rfl, hj, hLn, hLd, hO, hD, hK, hx3⟩ := hrel
    rename World => w3
    by_cases hjn : j < n
    rotate_left
    · obtain rfl : j = n := by omega
      go_wp2
      go_ret
      refine ⟨a2, j, c2, LL, rfl, ⟨hLn, hO, fun y hy => ?_⟩, hLd, hx3⟩
      obtain ⟨k, hk⟩ := List.mem_iff_getElem?.1 hy
      have hkj : k < j := by have := (List.getElem?_eq_some_iff.1 hk).1; omega
      obtain ⟨x, hx⟩ : ∃ x, L[k]? = some x := ⟨_, List.getElem?_eq_getElem (by rw [HLN.out]; exact hkj)⟩
      have hxI := hL.2.2 x (List.mem_of_getElem? hx)
      have hdd : y.d = x.d := by
        have h := congrArg (fun l => l[k]?) hLd
        simp only [List.getElem?_map, hk, hx, Option.map_some, Option.some.injEq] at h
        exact h
      have hb : y.b = x.b := congrArg Ln.b hdd
      have hl : y.l = x.l := congrArg Ln.l hdd
      have hyo := hD k y hkj hk
      refine ⟨hyo, ?_, by rw [hb]; exact hxI.2.2⟩
      have h1 := own_len hyo
      have h2 := hxI.1.len
      rw [hl, h2] at h1
      have := hxI.2.1
      omega
    obtain ⟨A, cur, rfl, hA, hcur, -, -⟩ := own_some hO (by omega)
    have hkL := hK j (Nat.le_refl _)
    obtain ⟨k, hk⟩ : ∃ k, L[j]? = some k := ⟨_, List.getElem?_eq_getElem (by rw [HLN.out]; exact hjn)⟩
    rw [hk] at hkL
    have hkI := hL.2.2 k (List.mem_of_getElem? hk)
    have hkb := hkI.1.ext hx3
    have hkn := hkI.2.1
    have hkl := hkb.len
    have hr3 := Row.of_own hO
    have hE4 := Ext.alloc' w3 (.cells #[.int .i64 k.b, .slice k.a k.n k.c] 45)
    have HK := Lib.hid hkL
    have HO := Lib.hid hO
    have HD := Lib.hid hD
    have HKK := Lib.hid hK
    have HLD := Lib.hid hLd
    have HKO := Lib.hid hk
    have hLn' : j < LL.length := by omega
    have HA := Lib.hid hA
    clear hkL hk hkI hO hD hK hLd hcur ho2 hA
    go_wp2_with (first
      | ((with_reducible refine atSlot 13 ?_); refine wpList_of_wp rfl (owp_ix (o := ⟨some 13, _, _, _, _, _⟩) _ _ rfl Try.elLk rfl hr3 j rfl rfl hjn ?_); intro b3 o3 hc3; have hrg3 := lk_range HK.out hc3; clear hc3)
      | ((with_reducible refine atSlot 14 ?_); refine wpList_of_wp rfl (wp_load_mid (op := ⟨some 14, _, _, _, _, _⟩) 45 _ rfl b3 o3 rfl _ _ hrg3 Try.underlying45 rfl (by kernel_rfl) ?_); simp only [Lk.cells]; clear hrg3)
      | (go_at_call 39; (with_reducible refine (Clone_any k.a k.n k.c k.l _ (hkb.ext hE4) hkn).mono ?_); rintro e w5 ⟨a5, n5, c5, rfl, ho5, hx5⟩; have hE5 := hE4.trans' hx5; have HO5 := Lib.hid (own_ext HO.out hE5))
      | ((with_reducible refine atSlot 20 ?_); refine wpList_of_wp rfl (owp_ixp3 (o := ⟨some 20, _, _, _, _, _⟩) _ _ rfl Try.elLk rfl j rfl rfl hjn ?_))
      | ((with_reducible refine atStore 21 ?_); refine wpList_of_wp rfl (owp_st1 (o := ⟨none, _, _, _, _, _⟩) 28 _ _ rfl A (j * 2 + 1) (.slice a5 n5 c5) rfl rfl rfl (own_there HO5.out (by omega)) (by kernel_rfl) rfl ?_))
      | fail)
    have hl5 := own_len ho5
    have hn5 : n5 = k.n := by omega
    subst hn5
    have hs : (LL.flatMap Lk.cells).set (j * 2 + 1) (.slice a5 k.n c5) = (LL.set j { k with a := a5, c := c5 }).flatMap Lk.cells := lk_set_one HK.out (by decide) rfl
    have hO6 := own_setCell (j := j * 2 + 1) (v := .slice a5 k.n c5) HO5.out (by omega)
    rw [hs] at hO6
    have hg6 := grown_setCell' w5 A (j * 2 + 1) (.slice a5 k.n c5)
    obtain ⟨cur5, hcur5⟩ := own_heap HO5.out (b := A) rfl
    have keep : ∀ {m c' : Nat} {a' : Option Addr} {xs : List Value} {B : Nat}, w5.ownsRow B 5 1 (.slice a' m c') m xs → (w5.setCell ⟨A, j * 2 + 1, none⟩ (.slice a5 k.n c5)).ownsRow B 5 1 (.slice a' m c') m xs := fun h => own_other h hg6 (fun e => own_apart h hcur5 (by decide) e.symm)
    go_roundw
    case rel =>
      refine ⟨j + 1, LL.set j { k with a := a5, c := c5 }, by go_num, hjn, by rw [List.length_set]; exact hLn, ?_, hO6, fun i y hi hy => ?_, fun i hi => ?_, (hx3.trans' hE5).st HA.out _ _⟩
      · rw [← HLD.out, List.map_set]
        refine List.ext_getElem? fun i => ?_
        rw [List.getElem?_set]
        split
        · rename_i h; subst h
          rw [List.getElem?_map, HK.out]
          simp [hLn', Lk.d]
        · rfl
      · rcases get_set_or hy with ⟨rfl, rfl⟩ | ⟨hne, hy⟩
        · exact keep (own_base ho5 (hx3.trans' hE4).size)
        · exact keep (own_ext (HD.out i y (by omega) hy) hE5)
      · rw [List.getElem?_set_ne (by omega)]
        exact HKK.out i (by omega)
    case measure => simp [intOf]; omega
end Go.Proofs.Ytkhjeeaojlaagaa
/-
  Chains: Append.
-/
namespace Go.Proofs.Ytkhjeeaojlaagaa
open Go.RowKit

/-- Links in new memory, and an error. -/
def LkR (w : World) (L : List Ln) (er : Int) (e : Ending) (w' : World) : Prop :=
  ∃ (a : Option Addr) (n c : Nat) (LL : List Lk), e = .returned (.tuple #[.slice a n c, .int .i64 er]) ∧ OwnLks w' w.heap.size a n c LL ∧ LL.map Lk.d = L ∧ Ext w w'
/-- The link that Append adds, as it lies there before the content is copied. -/
def ApLink (w0 : World) (bx : Nat) (x : Ln) (bb : List UInt8) (w' : World) : Prop :=
  ∃ (kb : Int) (a n c : _) (l : List UInt8), w'.heap[bx]? = some (.cells #[.int .i64 kb, .slice a n c] 45 (0, 0)) ∧ Ext w0 w' ∧
    ((kb = -1 ∧ a = none ∧ n = 0 ∧ c = 0 ∧ x = ⟨-1, bb⟩) ∨ (0 ≤ kb ∧ i64B kb ∧ x = ⟨kb, l⟩ ∧ n ≤ 140737488355328 ∧ w'.ownsRow w0.heap.size 5 1 (.slice a n c) n (l.map u8)))
theorem box_set2 {w : World} {g : Nat} {x y x' y' : Value} {t : TypeId} (h : w.heap[g]? = some (.cells #[x, y] t (0, 0))) : (w.setCells g 0 [x', y']).heap[g]? = some (.cells #[x', y'] t (0, 0)) := by
  simp [World.setCells, World.setCell, Array.getElem?_modify, h]
theorem apL_full {S : List (List UInt8 × Nat)} {b : List UInt8} (h : ∀ c d, S.getLast? = some (c, d) → ¬ (d < 8 ∧ c.length ≤ 2048 ∧ b.length ≤ 2048 ∧ (encD (makeD c b)).length < b.length)) : apL S b = ⟨-1, b⟩ := by
  unfold apL
  cases hS : S.getLast? with
  | none => rfl
  | some y => obtain ⟨c, d⟩ := y; simp only; exact if_neg (h c d hS)
theorem apL_lean {S : List (List UInt8 × Nat)} {b c : List UInt8} {d : Nat} (hS : S.getLast? = some (c, d)) (h : d < 8 ∧ c.length ≤ 2048 ∧ b.length ≤ 2048 ∧ (encD (makeD c b)).length < b.length) : apL S b = ⟨((S.length - 1 : Nat) : Int), encD (makeD c b)⟩ := by
  unfold apL; rw [hS]; exact if_pos h

set_option maxRecDepth 100000 in
set_option maxHeartbeats 8000000 in
theorem chAppend_any (a : Option Addr) (n c : Nat) (L : List Lk) (a1 : Option Addr) (n1 c1 : Nat) (b : List UInt8) (w : World) (hL : Links w a n c L) (hb : Bytes w a1 n1 c1 b) (hn : n ≤ 140737488355328) (hn1 : n1 ≤ 140737488355328) {LR : List Ln} {er : Int} (hr : apC (L.map Lk.d) b = (LR, er)) :
    Calls Try.prog 13 #[.slice a n c, .slice a1 n1 c1] w (LkR w LR er) := by
  obtain ⟨S, e0, hst⟩ : ∃ S e0, stC (L.map Lk.d) = (S, e0) := ⟨_, _, rfl⟩
  have HM := Lib.hid (measure_any a n c L w hL hn hst)
  have HLN := Lib.hid hL.1
  have HBL := Lib.hid hb.len
  unfold apC at hr
  rw [hst] at hr
  simp only at hr
  rw [List.length_map, hL.1, hb.len] at hr
  by_cases he : e0 = 0
  rotate_left
  · rw [if_neg he] at hr
    cases hr
    obtain ⟨q1, q2⟩ := neI he
    clear he
    go_enter Try.func13, Try.ntmps13
    go_wp2_with (first
      | (go_at_call 36; (with_reducible refine HM.out.mono ?_); rintro e w2 ⟨X, rfl, hX, -, hx2⟩)
      | ((with_reducible refine atStore 6 ?_); refine wpList_store_mid rfl 59 _ _ rfl w2.heap.size 0 (ints X) rfl rfl ((Arr.new w2).there hX) (ints_size hX) (ints_one _) ?_)
      | fail)
    go_ret2
    exact ⟨none, 0, 0, [], rfl, OwnLks.nil _ _, rfl, (hx2.al _).sts hx2.size _ _⟩
  subst he
  rw [if_pos rfl] at hr
  by_cases h256 : n = 256
  · rw [if_pos h256] at hr
    cases hr
    obtain ⟨q1, q2⟩ := eqI (x := (n : Int)) (y := 256) (by omega)
    clear h256
    go_enter Try.func13, Try.ntmps13
    go_wp2_with (first
      | (go_at_call 36; (with_reducible refine HM.out.mono ?_); rintro e w2 ⟨X, rfl, hX, -, hx2⟩)
      | ((with_reducible refine atStore 6 ?_); refine wpList_store_mid rfl 59 _ _ rfl w2.heap.size 0 (ints X) rfl rfl ((Arr.new w2).there hX) (ints_size hX) (ints_one _) ?_)
      | fail)
    go_ret2
    exact ⟨none, 0, 0, [], rfl, OwnLks.nil _ _, rfl, (hx2.al _).sts hx2.size _ _⟩
  rw [if_neg h256] at hr
  obtain ⟨q1, q2⟩ := neI (x := (n : Int)) (y := 256) (by omega)
  by_cases hbig : 1048576 < n1
  · rw [if_pos hbig] at hr
    cases hr
    have hd : decide ((1048576 : Int) < n1) = true := decide_eq_true (by omega)
    go_enter Try.func13, Try.ntmps13
    go_wp2_with (first
      | (go_at_call 36; (with_reducible refine HM.out.mono ?_); rintro e w2 ⟨X, rfl, hX, -, hx2⟩)
      | ((with_reducible refine atStore 6 ?_); refine wpList_store_mid rfl 59 _ _ rfl w2.heap.size 0 (ints X) rfl rfl ((Arr.new w2).there hX) (ints_size hX) (ints_one _) ?_)
      | fail)
    go_ret2
    exact ⟨none, 0, 0, [], rfl, OwnLks.nil _ _, rfl, (hx2.al _).sts hx2.size _ _⟩
  rw [if_neg hbig] at hr
  simp only [Prod.mk.injEq] at hr
  obtain ⟨hLR, rfl⟩ := hr
  have hd1 : decide ((1048576 : Int) < n1) = false := decide_eq_false (by omega)
  obtain ⟨hV, hn256⟩ := stC_val hst
  rw [List.length_map, hL.1] at hn256
  have hSn : S.length = n := by rw [hV.len, List.length_map, hL.1]
  have hnn : n < 256 := by omega
  have HLR := Lib.hid hLR
  have HV := Lib.hid hV
  have HSN := Lib.hid hSn
  have HBB := Lib.hid hb
  have HLL := Lib.hid hL
  have HNB := Lib.hid (show n1 ≤ 1048576 by omega)
  clear hLR hV hSn hst hn256 hbig h256 hb hL
  go_enter Try.func13, Try.ntmps13
  go_upto_region 10 with (first
    | (go_at_call 36; (with_reducible refine HM.out.mono ?_); rintro e w2 ⟨X, rfl, hX, hXS, hx2⟩; have HXS := Lib.hid (hXS rfl); clear hXS)
    | ((with_reducible refine atStore 6 ?_); refine wpList_store_mid rfl 59 _ _ rfl w2.heap.size 0 (ints X) rfl rfl ((Arr.new w2).there hX) (ints_size hX) (ints_one _) ?_)
    | fail)
  have hA3 := (Arr.new w2).put hX
  have hx3 := (hx2.al (.cells Try.zeroCells59 59)).sts hx2.size 0 (ints X).toList
  generalize (w2.alloc (.cells Try.zeroCells59 59)).setCells w2.heap.size 0 (ints X).toList = w3 at hA3 hx3 ⊢
  generalize w2.heap.size = gd at hA3 ⊢
  have hbx := heap_alloc_new w3 (.cells #[.int .i64 (-1), .slice none 0 0] 45)
  have hA4 := hA3.al (.cells #[.int .i64 (-1), .slice none 0 0] 45)
  have hx4 := hx3.al (.cells #[.int .i64 (-1), .slice none 0 0] 45)
  have hzb := hx3.size
  generalize w3.heap.size = bx at hbx hzb ⊢
  generalize w3.alloc (.cells #[.int .i64 (-1), .slice none 0 0] 45) = w4 at hbx hA4 hx4 ⊢
  clear hA3 hx3 hx2
  have HA4 := Lib.hid hA4
  have HX := Lib.hid hX
  have HBX := Lib.hid hbx
  have hLL4 : ∀ w', Ext w4 w' → Links w' a n c L := fun w' h => HLL.out.ext (hx4.trans' h)
  have HL4 := Lib.hid hLL4
  have hbb4 : ∀ w', Ext w4 w' → Bytes w' a1 n1 c1 b := fun w' h => HBB.out.ext (hx4.trans' h)
  have HB4 := Lib.hid hbb4
  clear hA4 hX hbx hLL4 hbb4
  go_cut [40] from 33 (fun s40 w' => ∃ q : Bool, s40 = .bool q ∧ w' = w4 ∧ ((q = false ∧ apL S b = ⟨-1, b⟩) ∨ (q = true ∧ 0 < n ∧ ∃ ct dt, S[n - 1]? = some (ct, dt) ∧ dt < 8)))
  case first =>
    by_cases hn0 : n = 0
    · have hS0 : S = [] := List.eq_nil_of_length_eq_zero (by have := HSN.out; omega)
      have hap : apL S b = ⟨-1, b⟩ := apL_full (fun c d h => by rw [hS0] at h; cases h)
      have HAP := Lib.hid hap
      clear hap hS0
      have hn1' : n < 1 := by omega
      clear hn0
      go_wp2
      go_meet
      exact ⟨false, rfl, rfl, .inl ⟨rfl, HAP.out⟩⟩
    have hn0' : 0 < n := by omega
    obtain ⟨⟨ct, dt⟩, hy⟩ : ∃ y, S[n - 1]? = some y := ⟨_, List.getElem?_eq_getElem (by have := HSN.out; omega)⟩
    have hlast : S.getLast? = some (ct, dt) := by rw [List.getLast?_eq_getElem?, HSN.out]; exact hy
    have hxm := HXS.out _ _ hy
    have hq : w4.cell? ⟨gd, n - 1, none⟩ = some (.int .i64 (dt : Int)) := HA4.out.at_ hxm
    have HY := Lib.hid hy
    by_cases h8 : dt < 8
    · have hd3 : decide ((dt : Int) < 8) = true := decide_eq_true (by omega)
      clear hlast hy hxm hn0
      go_wp2
      go_meet
      exact ⟨true, rfl, rfl, .inr ⟨rfl, hn0', ct, dt, HY.out, h8⟩⟩
    · have hap : apL S b = ⟨-1, b⟩ := apL_full (fun c d h h1 => by rw [hlast] at h; cases h; exact h8 h1.1)
      have hd3 : decide ((dt : Int) < 8) = false := decide_eq_false (by omega)
      have HAP := Lib.hid hap
      clear hap hlast hy hxm hn0
      go_wp2
      go_meet
      exact ⟨false, rfl, rfl, .inl ⟨rfl, HAP.out⟩⟩
  obtain ⟨q, rfl, rfl, hqq⟩ := hcut
  rename World => w4
  go_upto_if 40 with fail
  go_cut [10, 11] from 13 (fun _ _ w' => ApLink w bx (apL S b) b w')
  case first =>
    rcases hqq with ⟨rfl, hap⟩ | ⟨rfl, hn0', ct, dt, hy, h8⟩
    · have HAP := Lib.hid hap
      clear hap
      go_wp2
      go_meet
      exact ⟨-1, none, 0, 0, [], HBX.out, hx4, .inl ⟨rfl, rfl, rfl, rfl, by rw [HAP.out]⟩⟩
    · have hlast : S.getLast? = some (ct, dt) := by rw [List.getLast?_eq_getElem?, HSN.out]; exact hy
      have hsz := HV.out.size (List.mem_of_getElem? hy)
      have hct : ct.length ≤ 1048576 := hsz.1
      have hco := content_any a n c L S (n - 1) (ct, dt) w4 HV.out (HL4.out _ (Below.refl _ _)) hy
      rw [show ((n - 1 : Nat) : Int) = (n : Int) - 1 by omega] at hco
      obtain ⟨le, ok, hen⟩ : ∃ le ok, encV ct b = (le, ok) := ⟨_, _, rfl⟩
      have hap : (ok = false ∧ apL S b = ⟨-1, b⟩) ∨ (ok = true ∧ apL S b = ⟨(n : Int) - 1, le⟩) := by
        unfold encV at hen
        by_cases hbig : 2048 < ct.length ∨ 2048 < b.length
        · rw [if_pos hbig] at hen
          cases hen
          exact .inl ⟨rfl, apL_full (fun c d h h1 => by rw [hlast] at h; cases h; omega)⟩
        · rw [if_neg hbig] at hen
          simp only [Prod.mk.injEq] at hen
          obtain ⟨h1, h2⟩ := hen
          by_cases h3 : (encD (makeD ct b)).length < b.length
          · refine .inr ⟨by rw [← h2]; exact decide_eq_true h3, ?_⟩
            rw [apL_lean hlast ⟨h8, by omega, by omega, h3⟩, HSN.out, h1]
            congr 1
            omega
          · exact .inl ⟨by rw [← h2]; exact decide_eq_false h3, apL_full (fun c d h h1 => by rw [hlast] at h; cases h; exact h3 h1.2.2.2)⟩
      have HCO := Lib.hid hco
      have HEN := Lib.hid hen
      clear hco hlast hy hen hsz
      rcases hap with ⟨rfl, hap⟩ | ⟨rfl, hap⟩
      · have HAP := Lib.hid hap
        clear hap
        go_wp2_with (first
          | (go_at_call 38; (with_reducible refine HCO.out.mono ?_); rintro e w5 ⟨a5, n5, c5, rfl, ho5, hx5⟩; have hl5 := own_len ho5; have hb5 := HB4.out w5 hx5; have hn5 : n5 ≤ 1048576 := (by have h : ct.length = n5 := hl5; omega))
          | (go_at_call 37; (with_reducible refine (encoded_any a5 n5 c5 ct a1 n1 c1 b _ (Bytes.of_own ho5) hb5 (by omega) hn1 HEN.out).mono ?_); rintro e w6 ⟨a6, n6, c6, rfl, ho6, hx6⟩)
          | fail)
        go_meet
        exact ⟨-1, none, 0, 0, [], (hx5.trans' hx6).heap' HBX.out, hx4.trans' (hx5.trans' hx6), .inl ⟨rfl, rfl, rfl, rfl, by rw [HAP.out]⟩⟩
      · have HAP := Lib.hid hap
        clear hap
        go_wp2_with (first
          | (go_at_call 38; (with_reducible refine HCO.out.mono ?_); rintro e w5 ⟨a5, n5, c5, rfl, ho5, hx5⟩; have hl5 := own_len ho5; have hb5 := HB4.out w5 hx5; have hn5 : n5 ≤ 1048576 := (by have h : ct.length = n5 := hl5; omega))
          | (go_at_call 37; (with_reducible refine (encoded_any a5 n5 c5 ct a1 n1 c1 b _ (Bytes.of_own ho5) hb5 (by omega) hn1 HEN.out).mono ?_); rintro e w6 ⟨a6, n6, c6, rfl, ho6, hx6⟩; have hbx6 := (hx5.trans' hx6).heap' HBX.out)
          | ((with_reducible refine atStore 8 ?_); refine wpList_store_mid rfl 45 _ _ rfl bx 0 #[.int .i64 ((n : Int) - 1), .slice a6 n6 c6] rfl rfl (there_box hbx6 (by simp)) (by kernel_rfl) (by simp [Value.oneCell']) ?_)
          | fail)
        go_meet
        have hg7 := grown_setCells bx [.int .i64 ((n : Int) - 1), .slice a6 n6 c6] 0 w6
        have hE6 := hx4.trans' (hx5.trans' hx6)
        have ho6' := own_base ho6 (hx4.trans' hx5).size
        have hl6 := own_len ho6
        have hle : le.length ≤ 1048576 := by
          have h := HEN.out
          unfold encV at h
          by_cases hbig : 2048 < ct.length ∨ 2048 < b.length
          · rw [if_pos hbig] at h; cases h
          · rw [if_neg hbig] at h
            simp only [Prod.mk.injEq, decide_eq_true_eq] at h
            rw [← h.1]; have := h.2; omega
        exact ⟨(n : Int) - 1, a6, n6, c6, le, box_set2 hbx6, hE6.sts hzb 0 _, .inr ⟨by omega, i64_of (by omega) (by omega), HAP.out, by omega, own_other ho6' hg7 (fun e => own_apart ho6' hbx6 (by decide) e.symm)⟩⟩
  case rest =>
    obtain ⟨kb, ka, kn, kc, kl, hbx5, hx5, hcase⟩ := hcut
    rename World => w5
    have hLL5 : ∀ w', Ext w5 w' → Links w' a n c L := fun w' h => HLL.out.ext (hx5.trans' h)
    have HL5 := Lib.hid hLL5
    have hb5 := HBB.out.ext hx5
    have hbc := fun i => cell_of_row w5 bx i _ _ _ hbx5
    have HBX5 := Lib.hid hbx5
    clear hbx5 hLL5
    go_upto_if 55 with fail
    go_cut [8, 55] from 13 (fun s8 _ w' => s8 = .pointer (some ⟨bx, 0, none⟩) ∧ ∃ y : Lk, y.d = apL S b ∧ w'.heap[bx]? = some (.cells #[.int .i64 y.b, .slice y.a y.n y.c] 45 (0, 0)) ∧ Ext w w' ∧ w'.ownsRow w.heap.size 5 1 (.slice y.a y.n y.c) y.n (y.l.map u8) ∧ y.n ≤ 140737488355328 ∧ i64B y.b)
    case first =>
      rcases hcase with ⟨rfl, rfl, rfl, rfl, hap⟩ | ⟨hk0, hkb, hap, hkn, hko⟩
      · have HAP := Lib.hid hap
        clear hap hbc
        go_wp2_with (first
          | (go_at_call 39; (with_reducible refine (Clone_any a1 n1 c1 b _ hb5 hn1).mono ?_); rintro e w6 ⟨a6, n6, c6, rfl, ho6, hx6⟩; have hb6 := hx6.heap' HBX5.out; have hq1 := cell_of_row w6 bx 1 _ _ _ hb6)
          | ((with_reducible refine atStore 58 ?_); refine wpList_of_wp rfl (owp_st1 (o := ⟨none, _, _, _, _, _⟩) 28 _ _ rfl bx 1 (.slice a6 n6 c6) rfl rfl rfl (there_box hb6 (by simp)) (by kernel_rfl) rfl ?_))
          | fail)
        go_meet
        have hg7 := grown_setCell' w6 bx 1 (.slice a6 n6 c6)
        have ho6' := own_base ho6 hx5.size
        have hl6 := own_len ho6
        have hn6 : n6 = n1 := by have := HBL.out; omega
        refine ⟨rfl, ⟨-1, a6, n6, c6, b⟩, HAP.out.symm, heap_set1 hb6, (hx5.trans' hx6).st hzb 1 _, own_other ho6' hg7 (fun e => own_apart ho6' hb6 (by decide) e.symm), by show n6 ≤ _; omega, (i64_of (by decide) (by decide) : i64B (-1))⟩
      · have hd5 : decide (kb < 0) = false := decide_eq_false (by omega)
        have HAP := Lib.hid hap
        clear hap
        go_wp2
        go_meet
        exact ⟨rfl, ⟨kb, ka, kn, kc, kl⟩, HAP.out.symm, HBX5.out, hx5, hko, hkn, hkb⟩
    case rest =>
      obtain ⟨rfl, y, hyd, hb7, hx7, ho7, hyn, hyb⟩ := hcut
      rename World => w7
      have hL7 : ∀ w', Ext w7 w' → Links w' a n c L := fun w' h => HLL.out.ext (hx7.trans' h)
      have HL7 := Lib.hid hL7
      have hrg : ∀ w', Ext w7 w' → w'.rangeAt bx 0 y.cells := fun w' h i v hi => by
        rw [Nat.zero_add, cell_of_row _ _ i _ _ _ (h.heap' hb7)]
        simpa [Lk.cells] using hi
      have hone : ∀ u ∈ y.cells, u.oneCell' = true := fun u hu => by
        simp only [Lk.cells, List.mem_cons, List.not_mem_nil, or_false] at hu
        rcases hu with rfl | rfl <;> rfl
      have HYD := Lib.hid hyd
      have hz7 := hx7.size
      clear hL7 hbc hcase hx4 hqq hyd
      have E8 := Ext.drew' w7
      go_wp2
      refine wp_region_e [] (.qs [0, 2] (.alt 1 (.l 3 (.l 4 (.qs [5, 6] .nil))) (.alt 3 (.l 1 (.l 4 (.qs [5, 6] .nil))) .stop))) (by kernel_rfl) (by kernel_rfl) ?_
      ((refine wpY_q rfl rfl _ (fun w' hx' => by go_simp; try rfl) ?_; go_simp))
      refine wpY_ld rfl rfl (.tmp 8) rfl bx 0 rfl y.cells _ hrg Try.underlying45 rfl (by kernel_rfl) ?_
      refine wpY_alt rfl rfl ?_ (wpY_alt rfl rfl ?_ wpY_stop)
      · go_simp
        refine (copied_any a n c L _ (HL7.out _ E8) (by omega)).mono ?_
        rintro e w8 ⟨a8, n8, c8, L8, rfl, hO8, hD8, hx8⟩
        have E9 := E8.trans' hx8
        refine ⟨E9, ?_⟩
        refine wpY_l rfl rfl ?_
        go_simp
        have hal := Ext.alloc' w8 (.cells #[.int .i64 y.b, .slice y.a y.n y.c] 45)
        refine ⟨E9.trans' hal, ?_⟩
        have hn8 : n8 = n := by rw [← hO8.len, ← List.length_map (f := Lk.d), hD8, List.length_map, HLN.out]
        subst hn8
        refine wpY_l rfl rfl (owp_app _ _ rfl Try.elLk rfl (hO8.ext hal).own rfl (Row.new w8 #[.int .i64 y.b, .slice y.a y.n y.c] 45 1 2 rfl (by decide)) hone (by omega) (by unfold maxLen; omega) (Nat.le_trans hx8.size hal.size) ?_)
        intro a9 c9 w9 ho9 hg9
        have hO9 := OwnLks.push (y := y) ((hO8.base (Nat.le_trans hz7 (Nat.le_refl _))).ext hal) hg9 (own_base ho9 (Nat.le_trans hz7 (Nat.le_refl _))) (own_ext ho7 (E9.trans' hal)) ⟨hyn, hyb⟩
        have E10 : Ext w7 w9 := below_app (E9.trans' hal) (hO8.ext hal).own hg9 (E9.trans' hal).size
        refine ⟨fun _ => E10, ?_⟩
        go_simp
        iterate 2 ((refine wpY_q rfl rfl _ (fun w' hx' => by go_simp; try rfl) ?_; go_simp))
        refine wpY_nil ?_
        go_wp2
        go_ret2
        exact ⟨a9, _, c9, _, rfl, hO9, by rw [← HLR.out, List.map_append, hD8, ← HYD.out]; rfl, hx7.trans' E10⟩
      · go_simp
        have hal := Ext.alloc' w7.drew (.cells #[.int .i64 y.b, .slice y.a y.n y.c] 45)
        have E9 := E8.trans' hal
        refine ⟨E9, ?_⟩
        refine wpY_l rfl rfl ?_
        go_simp
        refine (copied_any a n c L _ (HL7.out _ E9) (by omega)).mono ?_
        rintro e w8 ⟨a8, n8, c8, L8, rfl, hO8, hD8, hx8⟩
        have E10 := E9.trans' hx8
        refine ⟨E10, ?_⟩
        have hn8 : n8 = n := by rw [← hO8.len, ← List.length_map (f := Lk.d), hD8, List.length_map, HLN.out]
        subst hn8
        refine wpY_l rfl rfl (owp_app _ _ rfl Try.elLk rfl hO8.own rfl ((Row.new w7.drew #[.int .i64 y.b, .slice y.a y.n y.c] 45 1 2 rfl (by decide)).ext hx8) hone (by omega) (by unfold maxLen; omega) hx8.size ?_)
        intro a9 c9 w9 ho9 hg9
        have hO9 := OwnLks.push (y := y) (hO8.base (Nat.le_trans hz7 E9.size)) hg9 (own_base ho9 (Nat.le_trans hz7 E9.size)) (own_ext ho7 E10) ⟨hyn, hyb⟩
        have E11 : Ext w7 w9 := below_app E10 (own_base hO8.own E9.size) hg9 E10.size
        refine ⟨fun _ => E11, ?_⟩
        go_simp
        iterate 2 ((refine wpY_q rfl rfl _ (fun w' hx' => by go_simp; try rfl) ?_; go_simp))
        refine wpY_nil ?_
        go_wp2
        go_ret2
        exact ⟨a9, _, c9, _, rfl, hO9, by rw [← HLR.out, List.map_append, hD8, ← HYD.out]; rfl, hx7.trans' E11⟩
end Go.Proofs.Ytkhjeeaojlaagaa
