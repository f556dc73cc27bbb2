/-
  Caches: Copy.
-/
import Derived.Test.YtpiodpljiklfkaaCacK
import Derived.Test.YtpiodpljiklfkaaCacH
namespace Go.Proofs.Ytpiodpljiklfkaa
open Go.RowKit Go.WideMaps
theorem Ca.lower {w : World} {B B' c m e room : Nat} {N : Nat → Nd} {L : List Nat} (h : Ca w B c m e room N L) (hB : B' ≤ B) : Ca w B' c m e room N L :=
  { h with data := fun k hk => own_base (h.data k hk) hB, base := fun k hk => Nat.le_trans hB (h.base k hk) }
/-- What Copy answers: a cache with the same chunks, all in new memory but for the bytes. -/
def CopyO (w : World) (B room : Nat) (E : List En) (en : Ending) (w' : World) : Prop :=
  ∃ c F, en = .returned (.pointer (some ⟨c, 0, none⟩)) ∧ Cac w' B c room E F ∧ (∀ k ∈ F, w.heap.size ≤ k) ∧ Ext w w'
def CpRel (w : World) (B c2 m2 e2 room : Nat) (N : Nat → Nd) (e : Nat) (L : List Nat) (q : Nat) (p : Value) (wr : World) : Prop :=
  ∃ (A D : List Nat) (x : Nat) (N2 : Nat → Nd) (L2 : List Nat), L = A ++ D ∧ q = D.length ∧ x = (D ++ [e]).headD 0 ∧ p = .pointer (some ⟨x, 0, none⟩) ∧ Ca wr B c2 m2 e2 room N2 L2 ∧ ents N2 L2 = ents N A ∧ (∀ k ∈ L2, w.heap.size ≤ k) ∧ Ext w wr
theorem ext_of_chg {w wr w' : World} {F : List Nat} (hw : Ext w wr) (hc : Chg F wr w') (hF : ∀ k ∈ F, w.heap.size ≤ k) : Ext w w' :=
  ⟨hc.os.trans hw.os, hc.tape.trans hw.tape, hc.output.trans hw.output, Nat.le_trans hw.size hc.size, fun k hk => (hc.block k (Nat.lt_of_lt_of_le hk hw.size) fun hm => by have := hF k hm; omega).trans (hw.block k hk)⟩

set_option maxRecDepth 100000 in
set_option maxHeartbeats 4000000 in
theorem Copy38_any (B c room : Nat) (E : List En) (F : List Nat) (w : World) (h : Cac w B c room E F) :
    Calls Try.prog 36 #[.pointer (some ⟨c, 0, none⟩)] w (CopyO w B room E) := by
  have hBw := h.below
  obtain ⟨m, e, N, L, hC, rfl, rfl⟩ := h
  have hcr := hC.box.room
  have HC := Lib.hid hC
  have hrm := hC.max
  clear hC
  go_enter Try.func36, Try.ntmps36
  go_upto_region 2 with (first
    | (go_at_call 37; (with_reducible refine (empty38_any room _ hrm).mono ?_); rintro en w1 ⟨c2, F2, rfl, hC2, hx1⟩)
    | fail)
  obtain ⟨m2, e2, N2, L2, hC2, hE2, rfl⟩ := hC2
  have hL2 : L2 = [] := by
    cases L2 with
    | nil => rfl
    | cons k L2 => simp [ents] at hE2
  subst hL2
  have hbase := hC2.base
  have hb := (HC.out.ext hx1).box.ends
  have he := ((HC.out.ext hx1).nodes e (by simp)).next
  rw [HC.out.ring.head] at he
  obtain ⟨x0, hx0⟩ : ∃ x0, x0 = (L ++ [e]).headD 0 := ⟨_, rfl⟩
  rw [← hx0] at he
  have HX0 := Lib.hid hx0
  have HC2 := Lib.hid (hC2.lower hBw)
  have HBS := Lib.hid hbase
  have HX1 := Lib.hid hx1
  clear hC2 hE2 hbase hx0 hx1 hcr
  go_wp2
  go_loopg [4] L.length (CpRel w B c2 m2 e2 room N e L)
  case atStart => exact ⟨[], L, x0, N2, [], rfl, rfl, HX0.out, rfl, HC2.out, rfl, (fun k hk => by cases hk), HX1.out⟩
  case round =>
    obtain ⟨A, D, x, N3, L3, hAD, hq, hxe, rfl, hC3, hE3, hL3, hx⟩ := hrel
    rename World => w3
    have hb3 := (HC.out.ext hx).box.ends
    have HQ := Lib.hid hq
    have HAD := Lib.hid hAD
    have HC3 := Lib.hid hC3
    have HE3 := Lib.hid hE3
    have HL3 := Lib.hid hL3
    clear hq hAD hC3 hE3 hL3 hb he
    cases D with
    | nil =>
      obtain rfl : x = e := by simpa using hxe
      clear hxe
      have HF := Lib.hid (show A = L by have := HAD.out; simpa using this.symm)
      have hnn := ((HC.out.ext hx).nodes x (by simp))
      have hne := Try.neq_node hnn hnn
      rw [decide_eq_false (by simp)] at hne
      clear hnn
      go_wp2
      go_ret
      refine ⟨c2, _, rfl, ⟨m2, e2, N3, L3, HC3.out, by rw [HE3.out, HF.out], rfl⟩, fun k hk => ?_, hx⟩
      have hbs := HBS.out
      simp only [List.mem_cons] at hk hbs
      rcases hk with h | h | h | h
      · exact hbs k (.inl h)
      · exact hbs k (.inr (.inl h))
      · exact hbs k (.inr (.inr (.inl h)))
      · exact HL3.out k h
    | cons y D =>
      obtain rfl : x = y := by simpa using hxe
      clear hxe
      have hxe : x ≠ e := by
        rintro rfl
        have := HC.out.nodup
        rw [HAD.out] at this
        simp at this
      have hnx := (HC.out.ext hx).nodes x (by rw [HAD.out]; simp)
      have hne := Try.neq_node hnx ((HC.out.ext hx).nodes e (by simp))
      rw [decide_eq_true hxe] at hne
      have hn1 : (N x).next = (D ++ [e]).headD 0 := by
        have h := HC.out.ring
        rw [HAD.out] at h
        exact h.at_
      obtain ⟨y, hy⟩ : ∃ y, y = (D ++ [e]).headD 0 := ⟨_, rfl⟩
      have HY := Lib.hid hy
      have HN1 := Lib.hid (show (N x).next = y by rw [hn1, hy])
      have HNX := Lib.hid hnx
      have hxL : x ∈ L := by rw [HAD.out]; simp
      have HD := Lib.hid (HC.out.data x hxL)
      have hok : OkE room (ents N3 L3 ++ [enOf (N x)]) := by
        rw [HE3.out, show ents N A ++ [enOf (N x)] = ents N (A ++ [x]) by simp [ents]]
        refine HC.out.ok.sub ?_
        rw [HAD.out, show A ++ x :: D = (A ++ [x]) ++ D by simp]
        simp only [ents, List.map_append]
        exact List.sublist_append_left _ _
      have HOK := Lib.hid hok
      clear hn1 hxe hy hnx hok
      go_wp2
      have E3 := Ext.drew' w3
      refine wp_region_u (fun w' => Ext w3 w') E3 [15] (.qs [0, 1, 2, 3, 4, 5, 6, 7, 8, 9, 10, 11, 12, 13] (.l 14 (.l 15 .nil))) (by kernel_rfl) (by kernel_rfl) ?_
      iterate 4 ((refine wpZ_q rfl rfl _ (fun w' hx' => by go_simp; try rfl) ?_; go_simp))
      refine wpZ_ld rfl rfl (.tmp 30) rfl x 2 rfl [.int .u64 (N x).s, .int .i64 (N x).z] _ (fun w' hh => NodeAt.id (Ext.heap' hh HNX.out)) Try.underlying45 rfl (by kernel_rfl) ?_
      go_simp
      iterate 3 ((refine wpZ_q rfl rfl _ (fun w' hx' => by go_simp; try rfl) ?_; go_simp))
      refine wpZ_q rfl rfl (.slice (N x).a (N x).n (N x).c) (fun w' hx' => by have hb' := NodeAt.bytes (Ext.heap' hx' HNX.out); go_simp; try rfl) ?_
      go_simp
      iterate 3 ((refine wpZ_q rfl rfl _ (fun w' hx' => by go_simp; try rfl) ?_; go_simp))
      refine wpZ_q rfl rfl (.int .i64 (N x).pins) (fun w' hx' => by have hb' := NodeAt.pins (Ext.heap' hx' HNX.out); go_simp; try rfl) ?_
      go_simp
      ((refine wpZ_q rfl rfl _ (fun w' hx' => by go_simp; try rfl) ?_; go_simp))
      refine wpZ_l rfl rfl ?_
      go_simp
      have hx6 : RawAt (w3.alloc (.cells #[.pointer none, .pointer none, .int .u64 (N x).s, .int .i64 (N x).z, .slice (N x).a (N x).n (N x).c, .int .i64 (N x).pins] 81)).drew w3.heap.size (.pointer none) (.pointer none) (N x) := heap_alloc_new w3 _
      have E6 : Ext w3 (w3.alloc (.cells #[.pointer none, .pointer none, .int .u64 (N x).s, .int .i64 (N x).z, .slice (N x).a (N x).n (N x).c, .int .i64 (N x).pins] 81)).drew := (Ext.alloc' w3 _).trans' (Ext.drew' _)
      refine ⟨E6, ?_⟩
      generalize (w3.alloc (.cells #[.pointer none, .pointer none, .int .u64 (N x).s, .int .i64 (N x).z, .slice (N x).a (N x).n (N x).c, .int .i64 (N x).pins] 81)).drew = w6 at hx6 E6 ⊢
      have hC6 := HC3.out.ext E6
      have hz3 : w.heap.size ≤ w3.heap.size := hx.size
      have hxn : w3.heap.size ∉ e2 :: L3 := fun hm => by
        have := (Array.getElem?_eq_some_iff.1 (HC3.out.nodes _ hm)).1
        omega
      have hw6 : Ext w w6 := hx.trans' E6
      refine wpZ_l rfl rfl ?_
      go_simp
      refine (add38_any B c2 m2 e2 room w3.heap.size N3 L3 (.pointer none) (.pointer none) (N x) w6 hC6 hx6 hxn (by omega) (own_ext HD.out hw6) HOK.out).mono ?_
      rintro en w7 ⟨rfl, N7, hC7, hE7, hc7, -⟩
      have hbs := HBS.out
      have hw7 : Ext w w7 := ext_of_chg hw6 hc7 (fun k hk => by
        simp only [List.mem_cons] at hk hbs
        rcases hk with h | h | h | h | h
        · omega
        · exact hbs k (.inl h)
        · exact hbs k (.inr (.inl h))
        · exact hbs k (.inr (.inr (.inl h)))
        · exact HL3.out k h)
      have hL7 : ∀ k ∈ L3 ++ [w3.heap.size], w.heap.size ≤ k := fun k hk => by
        rcases List.mem_append.1 hk with h | h
        · exact HL3.out k h
        · rw [List.mem_singleton.1 h]; omega
      have HC7 := Lib.hid hC7
      have HE7 := Lib.hid hE7
      have HW7 := Lib.hid hw7
      have HL7 := Lib.hid hL7
      have hcn := ((HC.out.ext hw7).nodes x (by rw [HAD.out]; simp)).next
      rw [HN1.out] at hcn
      clear hC7 hE7 hw7 hL7 hc7 hxn hC6 hx6 E6 hw6 hbs
      refine wpZ_nil ?_
      go_wp2
      go_roundg D.length
      case measure => have := HQ.out; simp at this; omega
      case rel => exact ⟨A ++ [x], D, y, N7, _, by rw [HAD.out]; simp, rfl, HY.out, rfl, HC7.out, by rw [HE7.out, HE3.out]; simp [ents], HL7.out, HW7.out⟩
end Go.Proofs.Ytpiodpljiklfkaa
