/-
  Chains: content and what it calls; Check, Depth, Get.
-/
import Derived.Test.YtcljlglmnagodaaChaB
import Derived.Test.YtcljlglmnagodaaDelN
namespace Go.Proofs.Ytcljlglmnagodaa
open Go.RowKit

theorem setCells_size {g : Nat} {t : TypeId} : ∀ (vs : List Value) (o : Nat) (w : World) (cs : Array Value), w.heap[g]? = some (.cells cs t (0, 0)) → ∃ cs' : Array Value, (w.setCells g o vs).heap[g]? = some (.cells cs' t (0, 0)) ∧ cs'.size = cs.size
  | [], o, w, cs, h => ⟨cs, h, rfl⟩
  | v :: vs, o, w, cs, h => by
    have h1 : (w.setCell ⟨g, o, none⟩ v).heap[g]? = some (.cells (cs.setIfInBounds o v) t (0, 0)) := by simp [World.setCell, Array.getElem?_modify, h]
    obtain ⟨cs', h2, h3⟩ := setCells_size vs (o + 1) _ _ h1
    exact ⟨cs', h2, by simpa using h3⟩
/-- An array that is stored as a whole. -/
theorem Arr.put {w : World} {g : Nat} {X Y : List Int} (h : Arr w g Y) (hX : X.length = 256) : Arr (w.setCells g 0 (ints X).toList) g X := by
  refine ⟨hX, ?_⟩
  obtain ⟨cs', h1, h2⟩ := setCells_size (ints X).toList 0 w _ h.2
  have h3 := World.rangeAt_setCells_same w g 0 (ints X).toList (by have := h.there hX; simpa using this)
  rw [h1]
  congr 2
  have hs : cs'.size = (ints X).size := by rw [h2]; simp [ints, h.1, hX]
  refine Array.ext hs fun i g1 g2 => ?_
  have h4 := h3 i ((ints X)[i]) (by rw [Array.getElem?_toList, Array.getElem?_eq_getElem g2])
  rw [Nat.zero_add, cell_of_row _ _ _ _ _ _ h1, Array.getElem?_eq_getElem g1] at h4
  exact Option.some.inj h4
theorem Arr.new (w : World) : Arr (w.alloc (.cells Try.zeroCells121 121)) w.heap.size (List.replicate 256 0) := ⟨List.length_replicate .., by rw [← Try.zeroDepths]; exact heap_alloc_new w _⟩
/-- Bytes somewhere. -/
def BytesAt (w : World) (l : List UInt8) (e : Ending) (w' : World) : Prop :=
  ∃ a n c, e = .returned (.slice a n c) ∧ Bytes w' a n c l ∧ n ≤ 140737488355328 ∧ Ext w w'

set_option maxRecDepth 100000 in
set_option maxHeartbeats 4000000 in
theorem of_any (a : Option Addr) (n c : Nat) (L : List Lk) (S : List (List UInt8 × Nat)) (b : Nat) (w0 : World) (hV : Val (L.map Lk.d) S) (hL : Links w0 a n c L)
    (h1 : w0.heap[b]? = some (.cells #[.slice a n c] 59 (0, 0)))
    (h2 : w0.heap[b + 1]? = some (.cells #[.func (.func 104) #[] #[.pointer (some ⟨b, 0, none⟩), .pointer (some ⟨b + 1, 0, none⟩)]] 136 (0, 0))) :
    ∀ (k i : Nat) (w : World) (y : List UInt8 × Nat), i < k → Ext w0 w → S[i]? = some y →
      Calls Try.prog 104 #[.int .i64 i, .pointer (some ⟨b, 0, none⟩), .pointer (some ⟨b + 1, 0, none⟩)] w (BytesAt w y.1)
  | 0, i, w, y, hi, _, _ => by omega
  | k + 1, i, w, y, hi, hx, hy => by
    have hSl := hV.len
    rw [List.length_map, hL.1] at hSl
    have hin : i < n := by have := (List.getElem?_eq_some_iff.1 hy).1; omega
    obtain ⟨x, hxk⟩ : ∃ x, L[i]? = some x := ⟨_, List.getElem?_eq_getElem (by rw [hL.1]; exact hin)⟩
    have hkI := (hL.2.2 x (List.mem_of_getElem? hxk)).ext hx
    have hxd : (L.map Lk.d)[i]? = some x.d := by rw [List.getElem?_map, hxk]; rfl
    obtain ⟨y', hy', hln⟩ := hV.2 i _ hxd
    rw [hy] at hy'
    cases hy'
    have hok := lnS_ok hln
    have hsz := lnS_size hln
    have hr1 := hL.2.1.ext hx
    have hcb := fun j => cell_of_row w b j _ _ _ (hx.heap' h1)
    have hcb2 : ∀ w', Ext w w' → ∀ j, w'.cell? ⟨b + 1, j, none⟩ = #[.func (.func 104) #[] #[.pointer (some ⟨b, 0, none⟩), .pointer (some ⟨b + 1, 0, none⟩)]][j]? := fun w' h j => cell_of_row w' (b + 1) j _ _ _ ((hx.trans' h).heap' h2)
    have HK := Lib.hid hxk
    obtain ⟨xb, xa, xn, xc, xl⟩ := x
    obtain ⟨hkb, hkn, hki⟩ := hkI
    simp only at hkn
    have HKB := Lib.hid hkb
    have hki' : -9223372036854775808 ≤ xb ∧ xb ≤ 9223372036854775807 := hki
    clear hxk hln hkb hki hxd
    rcases hok with ⟨e1, e2, rfl⟩ | ⟨jj, ct, dt, os, e1, e2, e3, e4, rfl⟩
    · obtain rfl : xb = -1 := e1
      clear e2 hcb2
      go_enter Try.func104, Try.ntmps104
      go_wp2_with (first
        | ((with_reducible refine atSlot 13 ?_); refine wpList_of_wp rfl (owp_ix (o := ⟨some 13, _, _, _, _, _⟩) _ _ rfl Try.elLk rfl hr1 i rfl rfl hin ?_); intro b3 o3 hc3; have hrg3 := lk_range HK.out hc3; clear hc3)
        | ((with_reducible refine atSlot 14 ?_); refine wpList_of_wp rfl (wp_load_mid (op := ⟨some 14, _, _, _, _, _⟩) 73 _ rfl b3 o3 rfl _ _ hrg3 Try.underlying73 rfl (by kernel_rfl) ?_); simp only [Lk.cells]; clear hrg3)
        | fail)
      go_ret
      exact ⟨xa, xn, xc, rfl, HKB.out.ext (Ext.alloc' _ _), hkn, Ext.alloc' _ _⟩
    · obtain rfl : xb = (jj : Int) := e1
      have hjj : jj < i := by have := (List.getElem?_eq_some_iff.1 e2).1; rw [List.length_take] at this; omega
      have hSj : S[jj]? = some (ct, dt) := by rw [List.getElem?_take, if_pos hjj] at e2; exact e2
      have hx5 : Ext w0 (w.alloc (.cells #[.int .i64 (jj : Int), .slice xa xn xc] 73)) := hx.trans' (Ext.alloc' _ _)
      have hih := of_any a n c L S b w0 hV hL h1 h2 k jj _ (ct, dt) (by omega) hx5 hSj
      obtain ⟨hck, hos, hosk⟩ := decD_ck e3
      have hap : apRes ct os = (appD ct os, 0) := by unfold apRes; rw [hck]; rfl
      have e3' : decD (ct.length : Int) xl = some os := e3
      have hdr : decDRes (ct.length : Int) xl = (os, 0) := by unfold decDRes; rw [e3']
      have hfew := decD_few (ct.length : Int) xl
      rw [hdr] at hfew
      have hE5 := Ext.alloc' w (.cells #[.int .i64 (jj : Int), .slice xa xn xc] 73)
      have hbx := heap_alloc_new w (.cells #[.int .i64 (jj : Int), .slice xa xn xc] 73)
      have hcb3 := hcb2 _ hE5
      have HIH := Lib.hid hih
      have HAP := Lib.hid hap
      have HDR := Lib.hid hdr
      clear e2 e3 e3' e4 hSj hih hap hdr hck hosk hcb2 hx5
      go_enter Try.func104, Try.ntmps104
      go_wp2_with (first
        | ((with_reducible refine atSlot 13 ?_); refine wpList_of_wp rfl (owp_ix (o := ⟨some 13, _, _, _, _, _⟩) _ _ rfl Try.elLk rfl hr1 i rfl rfl hin ?_); intro b3 o3 hc3; have hrg3 := lk_range HK.out hc3; clear hc3)
        | ((with_reducible refine atSlot 14 ?_); refine wpList_of_wp rfl (wp_load_mid (op := ⟨some 14, _, _, _, _, _⟩) 73 _ rfl b3 o3 rfl _ _ hrg3 Try.underlying73 rfl (by kernel_rfl) ?_); simp only [Lk.cells]; clear hrg3)
        | (go_at_call 104; (with_reducible refine HIH.out.mono ?_); rintro e w6 ⟨a6, n6, c6, rfl, hb6, hn6, hx6⟩; clear hcb3; have hq := fun j => cell_of_row w6 w.heap.size j _ _ _ (hx6.heap' hbx); have hE6 := hE5.trans' hx6; have hl6 : ct.length = n6 := hb6.len; have hdr := HDR.out; rw [hl6] at hdr; have HD6 := Lib.hid hdr; clear hdr)
        | (go_at_call 47; (with_reducible refine (Decode_any (n6 : Int) xa xn xc xl _ (HKB.out.ext hE6) hkn HD6.out).mono ?_); rintro e w7 ⟨a7, n7, c7, L7, rfl, hO7, hD7, -, hx7⟩; clear hq; have hap := HAP.out; rw [← hD7] at hap; have HA7 := Lib.hid hap; have hn7 : n7 ≤ 4096 := (by rw [← hO7.len, ← List.length_map (f := Od.d), hD7]; exact hfew); clear hap)
        | (go_at_call 34; (with_reducible refine (Apply_any a6 n6 c6 ct a7 n7 c7 L7 _ (hb6.ext hx7) hO7.ops hn6 (by omega) HA7.out).mono ?_); rintro e w8 ⟨a8, n8, c8, rfl, ho8, hx8⟩)
        | fail)
      go_ret
      have h8 := own_len ho8
      rw [hD7] at ho8 h8
      have h9 : (appD ct os).length ≤ 1048576 := hsz.1
      exact ⟨a8, n8, c8, rfl, Bytes.of_own ho8, by omega, (hE6.trans' hx7).trans' hx8⟩

set_option maxRecDepth 100000 in
set_option maxHeartbeats 2000000 in
theorem content_any (a : Option Addr) (n c : Nat) (L : List Lk) (S : List (List UInt8 × Nat)) (i : Nat) (y : List UInt8 × Nat) (w : World) (hV : Val (L.map Lk.d) S) (hL : Links w a n c L) (hy : S[i]? = some y) :
    Calls Try.prog 91 #[.slice a n c, .int .i64 i] w (NewBytes w y.1) := by
  have hx1 := Ext.alloc' w (.cells #[.slice a n c] 59)
  have hb1 := heap_alloc_new w (.cells #[.slice a n c] 59)
  have hs1 := World.size_alloc w (.cells #[.slice a n c] 59)
  obtain ⟨w1, e1⟩ : ∃ w1, w1 = w.alloc (.cells #[.slice a n c] 59) := ⟨_, rfl⟩
  rw [← e1] at hx1 hb1 hs1
  obtain ⟨F, hF⟩ : ∃ F : Value, F = .func (.func 104) #[] #[.pointer (some ⟨w.heap.size, 0, none⟩), .pointer (some ⟨w.heap.size + 1, 0, none⟩)] := ⟨_, rfl⟩
  have hbn := heap_alloc_new w1 (.cells #[.nilFunc] 136)
  rw [hs1] at hbn
  have hb2 := heap_alloc_new w1 (.cells #[F] 136)
  rw [hs1] at hb2
  have hx2 := Ext.alloc' w1 (.cells #[F] 136)
  have hth : (w1.alloc (.cells #[.nilFunc] 136)).there (w.heap.size + 1) 0 1 := there_box hbn (by simp)
  rw [hF] at hb2 hx2
  have hof := of_any a n c L S w.heap.size _ hV (hL.ext (hx1.trans' hx2)) (hx2.heap' hb1) hb2 (i + 1) i _ y (Nat.lt_succ_self _) (Below.refl _ _) hy
  have hE := hx1.trans' hx2
  rw [e1] at hof hE hth
  have HOF := Lib.hid hof
  clear hof hx1 hx2 hb1 hb2 hs1 e1 hbn hF
  go_enter Try.func91, Try.ntmps91
  go_wp2_with (first
    | ((with_reducible refine atStore 5 ?_); refine wpList_of_wp rfl (owp_st1 (o := ⟨none, _, _, _, _, _⟩) 136 _ _ rfl (w.heap.size + 1) 0 _ rfl rfl rfl hth (by kernel_rfl) rfl ?_))
    | (go_at_call 104; (with_reducible refine HOF.out.mono ?_); rintro e w3 ⟨a3, n3, c3, rfl, hb3, hn3, hx3⟩)
    | (go_at_call 92; (with_reducible refine (Clone_any a3 n3 c3 _ _ hb3 hn3).mono ?_); rintro e w4 ⟨a4, n4, c4, rfl, ho4, hx4⟩)
    | fail)
  go_ret
  have hE3 := hE.trans' hx3
  exact ⟨a4, n4, c4, rfl, own_base ho4 hE3.size, hE3.trans' hx4⟩

set_option maxRecDepth 100000 in
set_option maxHeartbeats 2000000 in
theorem chCheck_any (a : Option Addr) (n c : Nat) (L : List Lk) (w : World) (hL : Links w a n c L) (hn : n ≤ 140737488355328) {S : List (List UInt8 × Nat)} {er : Int} (hr : stC (L.map Lk.d) = (S, er)) :
    Calls Try.prog 66 #[.slice a n c] w (NewNone (.int .i64 er) w) := by
  have HM := Lib.hid (measure_any a n c L w hL hn hr)
  go_enter Try.func66, Try.ntmps66
  go_wp2_with (first
    | (go_at_call 89; (with_reducible refine HM.out.mono ?_); rintro e w2 ⟨X, rfl, hX, -, hx2⟩)
    | ((with_reducible refine atStore 3 ?_); refine wpList_store_mid rfl 121 _ _ rfl w2.heap.size 0 (ints X) rfl rfl ((Arr.new w2).there hX) (ints_size hX) (ints_one _) ?_)
    | fail)
  go_ret
  exact ⟨rfl, (hx2.al _).sts hx2.size _ _⟩
end Go.Proofs.Ytcljlglmnagodaa
