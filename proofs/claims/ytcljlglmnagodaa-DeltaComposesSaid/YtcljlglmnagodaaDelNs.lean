/-
  newSource: the parts of a delta and where each begins.
-/
import Derived.Test.YtcljlglmnagodaaMathL
import Derived.Test.YtcljlglmnagodaaDelBs
import Derived.Test.YtcljlglmnagodaaDelK
import Derived.Test.YtcljlglmnagodaaDelSz
import Derived.Test.YtcljlglmnagodaaOrd1
namespace Go.Proofs.Ytcljlglmnagodaa
open Go.RowKit

theorem Try.elP : Elem Try.prog 103 94 1 16 .nilIface := ⟨Try.underlying103, by kernel_rfl, rfl, by decide⟩
theorem partV_one (k : Od) : (partV k).oneCell' = true := by
  unfold partV; split
  · rfl
  · split <;> rfl
/-- A source's box and its two rows, while they are made. -/
structure NsW (w0 : World) (g : Nat) (bx : Array Value) (pa : Option Addr) (pn pc : Nat) (xs : List Value) (ba : Option Addr) (bn bc : Nat) (ys : List Value) (w : World) : Prop where
  ext : Ext w0 w
  gm : w0.heap.size ≤ g
  box : w.heap[g]? = some (.cells bx 105 (0, 0))
  ps : w.ownsRow w0.heap.size 94 1 (.slice pa pn pc) pn xs
  bs : w.ownsRow w0.heap.size 3 1 (.slice ba bn bc) bn ys
section
variable {w0 w w' : World} {g pn pc bn bc : Nat} {bx : Array Value} {pa ba : Option Addr} {xs ys : List Value}
theorem NsW.al (h : NsW w0 g bx pa pn pc xs ba bn bc ys w) (hx : Ext w w') : NsW w0 g bx pa pn pc xs ba bn bc ys w' :=
  ⟨h.ext.trans' hx, h.gm, hx.heap' h.box, own_ext h.ps hx, own_ext h.bs hx⟩
theorem NsW.sz (h : NsW w0 g bx pa pn pc xs ba bn bc ys w) : w0.heap.size ≤ w.heap.size := h.ext.size
theorem own_notin {B e s n c t n' c' B' : Nat} {a a' : Option Addr} {zs zs' : List Value} (h : w.ownsRow B e s (.slice a n c) n zs) (h' : w.ownsRow B' t 1 (.slice a' n' c') n' zs') (ht : e ≠ t) (hg : w.grownBy w' (blockOf a')) : w'.ownsRow B e s (.slice a n c) n zs := by
  cases hb : blockOf a' with
  | none => rw [hb] at hg; exact own_ext h (Ext.of_grown hg)
  | some b =>
    rw [hb] at hg
    obtain ⟨cur, hcur⟩ := own_heap h' hb
    exact own_other h hg (fun e => own_apart h hcur (Ne.symm ht) e.symm)
theorem box_notin {k t n' c' B' e : Nat} {a' : Option Addr} {cs : Array Value} {zs' : List Value} (h : w.heap[k]? = some (.cells cs t (0, 0))) (h' : w.ownsRow B' e 1 (.slice a' n' c') n' zs') (ht : t ≠ e) (hg : w.grownBy w' (blockOf a')) : w'.heap[k]? = some (.cells cs t (0, 0)) := by
  rw [hg.block k (Array.getElem?_eq_some_iff.1 h).1 (own_apart h' h ht)]; exact h
theorem NsW.p (h : NsW w0 g bx pa pn pc xs ba bn bc ys w) {pa' : Option Addr} {pn' pc' : Nat} {xs' : List Value} (hg : w.grownBy w' (blockOf pa)) (ho : w'.ownsRow w0.heap.size 94 1 (.slice pa' pn' pc') pn' xs') : NsW w0 g bx pa' pn' pc' xs' ba bn bc ys w' :=
  ⟨below_app h.ext h.ps hg h.ext.size, h.gm, box_notin h.box h.ps (by decide) hg, ho, own_notin h.bs h.ps (by decide) hg⟩
theorem NsW.i (h : NsW w0 g bx pa pn pc xs ba bn bc ys w) {ba' : Option Addr} {bn' bc' : Nat} {ys' : List Value} (hg : w.grownBy w' (blockOf ba)) (ho : w'.ownsRow w0.heap.size 3 1 (.slice ba' bn' bc') bn' ys') : NsW w0 g bx pa pn pc xs ba' bn' bc' ys' w' :=
  ⟨below_app h.ext h.bs hg h.ext.size, h.gm, box_notin h.box h.bs (by decide) hg, own_notin h.ps h.bs (by decide) hg, ho⟩
theorem NsW.set (h : NsW w0 g bx pa pn pc xs ba bn bc ys w) {j : Nat} {v : Value} {bx' : Array Value} (hb : (w.setCell ⟨g, j, none⟩ v).heap[g]? = some (.cells bx' 105 (0, 0))) : NsW w0 g bx' pa pn pc xs ba bn bc ys (w.setCell ⟨g, j, none⟩ v) := by
  have hg := grown_setCell' w g j v
  exact ⟨h.ext.grown hg h.ext.size (fun k hk => by cases hk; exact h.gm), h.gm, hb, own_other h.ps hg (fun e => own_apart h.ps h.box (by decide) e.symm), own_other h.bs hg (fun e => own_apart h.bs h.box (by decide) e.symm)⟩
end
theorem heap_set2 {w : World} {g : Nat} {x y v : Value} {t : TypeId} (h : w.heap[g]? = some (.cells #[x, y] t (0, 0))) : (w.setCell ⟨g, 0, none⟩ v).heap[g]? = some (.cells #[v, y] t (0, 0)) := by
  simp [World.setCell, Array.getElem?_modify, h]
def NewSrc (w0 : World) (n : Nat) (xs ys : List Value) (e : Ending) (w' : World) : Prop :=
  ∃ (pa ba : Option Addr) (pc bc : Nat), e = .returned (.agg #[.slice pa n pc, .slice ba n bc]) ∧ Ext w0 w' ∧ w'.ownsRow w0.heap.size 94 1 (.slice pa n pc) n xs ∧ w'.ownsRow w0.heap.size 3 1 (.slice ba n bc) n ys
def NsMid (w0 : World) (g n : Nat) (xs ys : List Value) (_ : Nat → Value) (w : World) : Prop :=
  ∃ (pa ba : Option Addr) (pc bc : Nat), NsW w0 g #[.slice pa n pc, .slice ba n bc] pa n pc xs ba n bc ys w
def NsRel (w0 : World) (g : Nat) (L : List Od) (s i : Value) (wr : World) : Prop :=
  ∃ (j pc bc : Nat) (pa ba : Option Addr), i = .int .i64 j ∧ s = .int .i64 (sizeD ((L.map Od.d).take j) : Nat) ∧ j ≤ L.length ∧
    NsW w0 g #[.slice pa j pc, .slice ba j bc] pa j pc ((L.take j).map partV) ba j bc ((begD (L.map Od.d) j).map (Value.int .i64)) wr

set_option maxRecDepth 100000 in
set_option maxHeartbeats 4000000 in
theorem newSource_any (a : Option Addr) (n c : Nat) (L : List Od) (w : World) (hL : Ops w a n c L) (hn : n ≤ 4096) (hr : ∀ k ∈ L, k.d.copies = true ∨ k.d.literal = true) (hs : sizeD (L.map Od.d) ≤ 1048576) :
    Calls Try.prog 79 #[.slice a n c] w (NewSrc w n (L.map partV) ((begD (L.map Od.d) n).map (Value.int .i64))) := by
  have HLN := Lib.hid hL.1
  have HR := Lib.hid hr
  have HS := Lib.hid hs
  have hrow := hL.2.1
  clear hr hs
  have mc := Try.mc
  have ml := Try.ml
  go_enter Try.func79, Try.ntmps79
  go_wp2
  obtain ⟨w1, hw1⟩ : ∃ w1, w1 = w.alloc (.cells #[.slice none 0 0, .slice none 0 0] 105) := ⟨_, rfl⟩
  have hx1 : Ext w w1 := by rw [hw1]; exact Ext.alloc' w _
  have hs1 : w1.heap.size = w.heap.size + 1 := by rw [hw1, World.size_alloc]
  have hb1 : w1.heap[w.heap.size]? = some (.cells #[.slice none 0 0, .slice none 0 0] 105 (0, 0)) := by rw [hw1]; exact heap_alloc_new w _
  rw [← hw1]
  have HW1 := Lib.hid hw1
  clear hw1
  go_loopw [4, 10] (NsRel w1 (w.heap.size + 1) L) (fun _ i _ => n - (intOf i).toNat)
  case atStart =>
    refine ⟨0, 0, 0, none, none, rfl, rfl, Nat.zero_le _, Ext.alloc' _ _, Nat.le_of_eq hs1, ?_, own_nil _ _ _ _, own_nil _ _ _ _⟩
    rw [← hs1]; exact heap_alloc_new w1 _
  case round =>
    obtain ⟨j, pc, bc, pa, ba, rfl, rfl, hj, hN⟩ := hrel
    rename World => w3
    have hjn' : j ≤ n := by have := HLN.out; omega
    by_cases hjn : j < n
    rotate_left
    · obtain rfl : j = n := by omega
      have hbc := fun i => cell_of_row w3 (w.heap.size + 1) i _ _ _ hN.box
      have hb3 := hN.ext.heap' hb1
      have hbd := fun i => cell_of_row w3 w.heap.size i _ _ _ hb3
      have hfd := fun i => frozen_none hb3 i
      have hl1 : L.take j = L := List.take_of_length_le (by have := HLN.out; omega)
      have HL1 := Lib.hid hl1
      have HN := Lib.hid hN
      have HB3 := Lib.hid hb3
      clear hl1 hN hb3
      go_wp2
      have hb4 : ((w3.setCell ⟨w.heap.size, 0, none⟩ (.slice pa j pc)).setCell ⟨w.heap.size, 1, none⟩ (.slice ba j bc)).heap[w.heap.size]? = some (.cells #[.slice pa j pc, .slice ba j bc] 105 (0, 0)) := heap_set1 (heap_set2 HB3.out)
      (try simp only [Exit.inBlock, Exit.then]); refine bodyPost_ret (results_cells rfl _ w.heap.size [.slice pa j pc, .slice ba j bc] _ rfl (fun i v hi => by rw [cell_of_row _ _ i _ _ _ hb4]; simpa using hi) Try.underlying105 rfl (by kernel_rfl)) rfl ?_
      have hg1 := grown_setCell' w3 w.heap.size 0 (.slice pa j pc)
      have hg2 := grown_setCell' (w3.setCell ⟨w.heap.size, 0, none⟩ (.slice pa j pc)) w.heap.size 1 (.slice ba j bc)
      have hgg := grown_trans' hg1 hg2
      have hnp : blockOf pa ≠ some w.heap.size := fun e => own_apart HN.out.ps HB3.out (by decide) e.symm
      have hnb : blockOf ba ≠ some w.heap.size := fun e => own_apart HN.out.bs HB3.out (by decide) e.symm
      refine ⟨pa, ba, pc, bc, rfl, (hx1.trans' HN.out.ext).grown hgg (hx1.trans' HN.out.ext).size (fun k hk => by cases hk; exact Nat.le_refl _), ?_, ?_⟩
      · have := own_other (own_base HN.out.ps hx1.size) hgg hnp
        rwa [HL1.out] at this
      · exact own_other (own_base HN.out.bs hx1.size) hgg hnb
    obtain ⟨k, hk⟩ : ∃ k, L[j]? = some k := ⟨_, List.getElem?_eq_getElem (by have := HLN.out; omega)⟩
    have hkl := (hL.2.2 k (List.mem_of_getElem? hk)).1.len
    have hr1 := hrow.ext (hx1.trans' hN.ext)
    have HK := Lib.hid hk
    have HKL := Lib.hid hkl
    obtain ⟨pt, pq, hpv⟩ : ∃ pt pq, Value.iface pt pq = partV k := by
      unfold partV; split
      · exact ⟨_, _, rfl⟩
      · split <;> exact ⟨_, _, rfl⟩
    have hpc := partOf_any k
    rw [← hpv] at hpc
    have HPV := Lib.hid hpv
    have HPC := Lib.hid hpc
    have HN := Lib.hid hN
    clear hpc hpv hk hkl hN
    go_wp2_with (first
      | ((with_reducible refine atSlot 12 ?_); refine wpList_of_wp rfl (owp_ix (o := ⟨some 12, _, _, _, _, _⟩) _ _ rfl Try.elO rfl hr1 j rfl rfl hjn ?_); intro b3 o3 hc3; have hrg3 := od_range HK.out hc3; clear hc3)
      | ((with_reducible refine atSlot 13 ?_); refine wpList_of_wp rfl (wp_load_mid (op := ⟨some 13, _, _, _, _, _⟩) 39 _ rfl b3 o3 rfl k.cells _ hrg3 Try.underlying39 rfl (by kernel_rfl) ?_); simp only [Od.cells])
      | (go_at_call 74; (with_reducible refine (HPC.out _ HKL.out).mono ?_); rintro e w4 ⟨rfl, hx4⟩; clear hrg3; have hN4 := HN.out.al ((Ext.alloc' w3 (.cells #[.int .i64 k.f, .int .i64 k.z, .slice k.a k.n k.c] 39)).trans' hx4))
      | fail)
    clear hr1
    have HN4 := Lib.hid hN4
    have hp1 := partV_one k
    rw [← HPV.out] at hp1
    have HP1 := Lib.hid hp1
    clear hp1
    have E5 := hN4.al (Ext.drew' _)
    have hbk : ∀ (w' : World) (i : Nat), w'.heap[w.heap.size + 1]? = some (.cells #[.slice pa j pc, .slice ba j bc] 105 (0, 0)) → w'.cell? ⟨w.heap.size + 1, i, none⟩ = #[.slice pa j pc, .slice ba j bc][i]? := fun w' i h => cell_of_row _ _ i _ _ _ h
    obtain ⟨XS, hXS⟩ : ∃ XS, XS = ((L.take j).map partV) ++ [.iface pt pq] := ⟨_, rfl⟩
    obtain ⟨YS, hYS⟩ : ∃ YS, YS = ((begD (L.map Od.d) j).map (Value.int .i64)) ++ [.int .i64 (sizeD ((L.map Od.d).take j) : Nat)] := ⟨_, rfl⟩
    have HXS := Lib.hid hXS
    have HYS := Lib.hid hYS
    clear hXS hYS
    refine wp_region_t (fun w' => w'.heap[w.heap.size + 1]? = some (.cells #[.slice pa j pc, .slice ba j bc] 105 (0, 0))) E5.box [11, 12, 13] (.qs [0, 1, 2, 5, 6, 7] (.alt 3 (.alt 4 (.qs [10] (.l 8 (.l 9 (.l 11 (.l 12 (.l 13 .nil)))))) (.alt 8 (.l 4 (.qs [10] (.l 9 (.l 11 (.l 12 (.l 13 .nil)))))) .stop)) (.alt 8 (.l 3 (.l 4 (.qs [10] (.l 9 (.l 11 (.l 12 (.l 13 .nil))))))) .stop))) (by kernel_rfl) (by kernel_rfl) ?_
    refine wpZ_midA (Meets [16, 17, 18, 19, 20, 21, 22, 23, 24, 25, 26, 27] (NsMid w1 (w.heap.size + 1) (j + 1) XS YS)) ?_ ?_
    · iterate 6 ((refine wpZ_q rfl rfl _ (fun w' hx' => by go_simp; try rfl) ?_; go_simp))
      have N5 := HN4.out.al (Ext.drew' w4)
      generalize w4.drew = w5 at N5 E5 ⊢
      refine wpZ_alt rfl rfl ?_ (wpZ_alt rfl rfl ?_ wpZ_stop)
      · go_simp
        have hoP : (w5.alloc (.cells #[.iface pt pq] 94)).ownsRow w1.heap.size 94 1 (.slice (some ⟨w5.heap.size, 0, none⟩) 1 1) 1 [.iface pt pq] := own_lit w5 #[.iface pt pq] w1.heap.size 94 1 1 N5.sz (by decide) rfl
        have hxP := Ext.alloc' w5 (.cells #[.iface pt pq] 94)
        have N6 := N5.al hxP
        refine ⟨N6.box, ?_⟩
        generalize w5.alloc (.cells #[.iface pt pq] 94) = w6 at hoP hxP N6  ⊢
        refine wpZ_alt rfl rfl ?_ (wpZ_alt rfl rfl ?_ wpZ_stop)
        · refine owp_app _ _ rfl Try.elP rfl N6.ps rfl (Row.of_own hoP) (fun u hu => by rw [List.mem_singleton] at hu; subst hu; exact HP1.out) (by omega) (by unfold maxLen; omega) N6.sz ?_
          intro a7 c7 w7 ho7 hg7
          have N7 := N6.p hg7 ho7
          refine ⟨fun _ => N7.box, ?_⟩
          go_simp
          ((refine wpZ_q rfl rfl _ (fun w' hx' => by go_simp; try rfl) ?_; go_simp))
          refine wpZ_l rfl rfl ?_
          go_simp
          have hoI : (w7.alloc (.cells #[.int .i64 (sizeD ((L.map Od.d).take j) : Nat)] 3)).ownsRow w1.heap.size 3 1 (.slice (some ⟨w7.heap.size, 0, none⟩) 1 1) 1 [.int .i64 (sizeD ((L.map Od.d).take j) : Nat)] := own_lit w7 #[.int .i64 (sizeD ((L.map Od.d).take j) : Nat)] w1.heap.size 3 1 1 N7.sz (by decide) rfl
          have hxI := Ext.alloc' w7 (.cells #[.int .i64 (sizeD ((L.map Od.d).take j) : Nat)] 3)
          have N8 := N7.al hxI
          refine ⟨N8.box, ?_⟩
          generalize w7.alloc (.cells #[.int .i64 (sizeD ((L.map Od.d).take j) : Nat)] 3) = w8 at hoI hxI N8  ⊢
          refine wpZ_l rfl rfl (owp_app _ _ rfl Try.elI rfl N8.bs rfl (Row.of_own hoI) (fun u hu => by rw [List.mem_singleton] at hu; subst hu; rfl) (by omega) (by unfold maxLen; omega) N8.sz ?_)
          intro a9 c9 w9 ho9 hg9
          have N9 := N8.i hg9 ho9
          refine ⟨fun _ => N9.box, ?_⟩
          go_simp
          refine wpZ_l rfl rfl (owp_st1 103 _ _ rfl (w.heap.size + 1) 0 (.slice a7 (j + 1) c7) rfl rfl rfl (there_one (v := .slice pa j pc) (by rw [cell_of_row _ _ 0 _ _ _ N9.box]; rfl) (frozen_none N9.box 0)) (by kernel_rfl) rfl ?_)
          have M1 := N9.set (heap_set2 (v := .slice a7 (j + 1) c7) N9.box)
          refine ⟨(fun h => by cases h), ?_⟩
          go_simp
          refine wpZ_l rfl rfl ?_
          go_simp
          refine wpZ_l rfl rfl (owp_st1 22 _ _ rfl (w.heap.size + 1) 1 (.slice a9 (j + 1) c9) rfl rfl rfl (there_one (v := .slice ba j bc) (by rw [cell_of_row _ _ 1 _ _ _ M1.box]; rfl) (frozen_none M1.box 1)) (by kernel_rfl) rfl ?_)
          have M2 := M1.set (heap_set1 (v := .slice a9 (j + 1) c9) M1.box)
          refine ⟨(fun h => by cases h), wpZ_nil (Meets.mk (by kernel_rfl) ⟨_, _, _, _, by rw [HXS.out, HYS.out]; exact M2⟩)⟩
        · go_simp
          have hoI : (w6.alloc (.cells #[.int .i64 (sizeD ((L.map Od.d).take j) : Nat)] 3)).ownsRow w1.heap.size 3 1 (.slice (some ⟨w6.heap.size, 0, none⟩) 1 1) 1 [.int .i64 (sizeD ((L.map Od.d).take j) : Nat)] := own_lit w6 #[.int .i64 (sizeD ((L.map Od.d).take j) : Nat)] w1.heap.size 3 1 1 N6.sz (by decide) rfl
          have hxI := Ext.alloc' w6 (.cells #[.int .i64 (sizeD ((L.map Od.d).take j) : Nat)] 3)
          have N7 := N6.al hxI
          have hoP := own_ext hoP hxI
          refine ⟨N7.box, ?_⟩
          generalize w6.alloc (.cells #[.int .i64 (sizeD ((L.map Od.d).take j) : Nat)] 3) = w7 at hoI hxI N7 hoP ⊢
          refine wpZ_l rfl rfl (owp_app _ _ rfl Try.elP rfl N7.ps rfl (Row.of_own hoP) (fun u hu => by rw [List.mem_singleton] at hu; subst hu; exact HP1.out) (by omega) (by unfold maxLen; omega) N7.sz ?_)
          intro a7 c7 w8 ho7 hg7
          have N8 := N7.p hg7 ho7
          have hoI := own_notin hoI N7.ps (by decide) hg7
          refine ⟨fun _ => N8.box, ?_⟩
          go_simp
          ((refine wpZ_q rfl rfl _ (fun w' hx' => by go_simp; try rfl) ?_; go_simp))
          refine wpZ_l rfl rfl (owp_app _ _ rfl Try.elI rfl N8.bs rfl (Row.of_own hoI) (fun u hu => by rw [List.mem_singleton] at hu; subst hu; rfl) (by omega) (by unfold maxLen; omega) N8.sz ?_)
          intro a9 c9 w9 ho9 hg9
          have N9 := N8.i hg9 ho9
          refine ⟨fun _ => N9.box, ?_⟩
          go_simp
          refine wpZ_l rfl rfl (owp_st1 103 _ _ rfl (w.heap.size + 1) 0 (.slice a7 (j + 1) c7) rfl rfl rfl (there_one (v := .slice pa j pc) (by rw [cell_of_row _ _ 0 _ _ _ N9.box]; rfl) (frozen_none N9.box 0)) (by kernel_rfl) rfl ?_)
          have M1 := N9.set (heap_set2 (v := .slice a7 (j + 1) c7) N9.box)
          refine ⟨(fun h => by cases h), ?_⟩
          go_simp
          refine wpZ_l rfl rfl ?_
          go_simp
          refine wpZ_l rfl rfl (owp_st1 22 _ _ rfl (w.heap.size + 1) 1 (.slice a9 (j + 1) c9) rfl rfl rfl (there_one (v := .slice ba j bc) (by rw [cell_of_row _ _ 1 _ _ _ M1.box]; rfl) (frozen_none M1.box 1)) (by kernel_rfl) rfl ?_)
          have M2 := M1.set (heap_set1 (v := .slice a9 (j + 1) c9) M1.box)
          refine ⟨(fun h => by cases h), wpZ_nil (Meets.mk (by kernel_rfl) ⟨_, _, _, _, by rw [HXS.out, HYS.out]; exact M2⟩)⟩
      · go_simp
        have hoI : (w5.alloc (.cells #[.int .i64 (sizeD ((L.map Od.d).take j) : Nat)] 3)).ownsRow w1.heap.size 3 1 (.slice (some ⟨w5.heap.size, 0, none⟩) 1 1) 1 [.int .i64 (sizeD ((L.map Od.d).take j) : Nat)] := own_lit w5 #[.int .i64 (sizeD ((L.map Od.d).take j) : Nat)] w1.heap.size 3 1 1 N5.sz (by decide) rfl
        have hxI := Ext.alloc' w5 (.cells #[.int .i64 (sizeD ((L.map Od.d).take j) : Nat)] 3)
        have N6 := N5.al hxI
        refine ⟨N6.box, ?_⟩
        generalize w5.alloc (.cells #[.int .i64 (sizeD ((L.map Od.d).take j) : Nat)] 3) = w6 at hoI hxI N6  ⊢
        refine wpZ_l rfl rfl ?_
        go_simp
        have hoP : (w6.alloc (.cells #[.iface pt pq] 94)).ownsRow w1.heap.size 94 1 (.slice (some ⟨w6.heap.size, 0, none⟩) 1 1) 1 [.iface pt pq] := own_lit w6 #[.iface pt pq] w1.heap.size 94 1 1 N6.sz (by decide) rfl
        have hxP := Ext.alloc' w6 (.cells #[.iface pt pq] 94)
        have N7 := N6.al hxP
        have hoI := own_ext hoI hxP
        refine ⟨N7.box, ?_⟩
        generalize w6.alloc (.cells #[.iface pt pq] 94) = w7 at hoP hxP N7 hoI ⊢
        refine wpZ_l rfl rfl (owp_app _ _ rfl Try.elP rfl N7.ps rfl (Row.of_own hoP) (fun u hu => by rw [List.mem_singleton] at hu; subst hu; exact HP1.out) (by omega) (by unfold maxLen; omega) N7.sz ?_)
        intro a7 c7 w8 ho7 hg7
        have N8 := N7.p hg7 ho7
        have hoI := own_notin hoI N7.ps (by decide) hg7
        refine ⟨fun _ => N8.box, ?_⟩
        go_simp
        ((refine wpZ_q rfl rfl _ (fun w' hx' => by go_simp; try rfl) ?_; go_simp))
        refine wpZ_l rfl rfl (owp_app _ _ rfl Try.elI rfl N8.bs rfl (Row.of_own hoI) (fun u hu => by rw [List.mem_singleton] at hu; subst hu; rfl) (by omega) (by unfold maxLen; omega) N8.sz ?_)
        intro a9 c9 w9 ho9 hg9
        have N9 := N8.i hg9 ho9
        refine ⟨fun _ => N9.box, ?_⟩
        go_simp
        refine wpZ_l rfl rfl (owp_st1 103 _ _ rfl (w.heap.size + 1) 0 (.slice a7 (j + 1) c7) rfl rfl rfl (there_one (v := .slice pa j pc) (by rw [cell_of_row _ _ 0 _ _ _ N9.box]; rfl) (frozen_none N9.box 0)) (by kernel_rfl) rfl ?_)
        have M1 := N9.set (heap_set2 (v := .slice a7 (j + 1) c7) N9.box)
        refine ⟨(fun h => by cases h), ?_⟩
        go_simp
        refine wpZ_l rfl rfl ?_
        go_simp
        refine wpZ_l rfl rfl (owp_st1 22 _ _ rfl (w.heap.size + 1) 1 (.slice a9 (j + 1) c9) rfl rfl rfl (there_one (v := .slice ba j bc) (by rw [cell_of_row _ _ 1 _ _ _ M1.box]; rfl) (frozen_none M1.box 1)) (by kernel_rfl) rfl ?_)
        have M2 := M1.set (heap_set1 (v := .slice a9 (j + 1) c9) M1.box)
        refine ⟨(fun h => by cases h), wpZ_nil (Meets.mk (by kernel_rfl) ⟨_, _, _, _, by rw [HXS.out, HYS.out]; exact M2⟩)⟩
    · rintro f4 w10 ⟨v, rfl, pa2, ba2, pc2, bc2, hN2⟩
      simp only [fill]
      go_simp
      clear hbk E5
      have hst := sizeD_take_succ (D := L.map Od.d) (j := j) (o := k.d) (by rw [List.getElem?_map, HK.out]; rfl)
      have hle := sizeD_take_le (L.map Od.d) (j + 1)
      have hS := HS.out
      have hkr := HR.out k (List.mem_of_getElem? HK.out)
      obtain ⟨T, hT⟩ : ∃ T, T = sizeD ((L.map Od.d).take j) := ⟨_, rfl⟩
      rw [← hT] at hst ⊢
      have hTs : T + k.d.size ≤ 1048576 := by omega
      have hxs : ((L.take (j + 1)).map partV) = XS := by rw [HXS.out, List.take_add_one, HK.out, List.map_append, HPV.out]; rfl
      have hys : ((begD (L.map Od.d) (j + 1)).map (Value.int .i64)) = YS := by rw [HYS.out, begD_succ, List.map_append]; rfl
      have HST := Lib.hid hst
      have HXE := Lib.hid hxs
      have HYE := Lib.hid hys
      clear hst hle hS hT hxs hys HXS HYS
      rcases od_cases k HKL.out with ⟨c1, c2, h1, h2⟩ | ⟨c1, c2, h1, h2, h3⟩ | ⟨c1, c2, -, -⟩
      · have hpv := HPV.out
        unfold partV at hpv
        rw [if_pos c1] at hpv
        cases hpv
        have hks : k.d.size = k.z.toNat := by unfold Dp.size; rw [c1]; rfl
        have u1 : IntKind.i64.wrap ((T : Int) + k.z) = (T : Int) + k.z := by rw [IntKind.wrap_i64]; omega
        clear c1 c2 h2 hkr
        go_wp2_with (first
          | (go_at_call 130; (with_reducible refine (copiedSize_any _ _ _).mono ?_); rintro e w11 ⟨rfl, hx11⟩)
          | fail)
        go_roundw
        case rel => exact ⟨j + 1, pc2, bc2, pa2, ba2, by go_num, congrArg (Value.int IntKind.i64) (by rw [HST.out]; omega), by have := HLN.out; omega, by rw [HXE.out, HYE.out]; exact hN2.al hx11⟩
        case measure => simp [intOf]; omega
      · have hpv := HPV.out
        unfold partV at hpv
        rw [if_neg (by rw [c1]; decide), if_pos c2] at hpv
        cases hpv
        have hks : k.d.size = k.n := by unfold Dp.size; rw [c1]; exact HKL.out
        have u1 : IntKind.i64.wrap ((T : Int) + (k.n : Int)) = (T : Int) + (k.n : Int) := by rw [IntKind.wrap_i64]; omega
        clear c1 c2 h2 hkr
        go_wp2_with (first
          | (go_at_call 131; (with_reducible refine (literalSize_any _ _ _ _).mono ?_); rintro e w11 ⟨rfl, hx11⟩)
          | fail)
        go_roundw
        case rel => exact ⟨j + 1, pc2, bc2, pa2, ba2, by go_num, congrArg (Value.int IntKind.i64) (by rw [HST.out]; omega), by have := HLN.out; omega, by rw [HXE.out, HYE.out]; exact hN2.al hx11⟩
        case measure => simp [intOf]; omega
      · rw [c1, c2] at hkr
        simp at hkr
end Go.Proofs.Ytcljlglmnagodaa
