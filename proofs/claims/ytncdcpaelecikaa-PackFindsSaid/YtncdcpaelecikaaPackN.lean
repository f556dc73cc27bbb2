/-
  The reader's frame.
-/
import Derived.Test.YtncdcpaelecikaaPackM
import Derived.Test.YtncdcpaelecikaaPackH
import Derived.Test.YtncdcpaelecikaaOrdZ
namespace Go.Proofs.Ytncdcpaelecikaa
open Go.RowKit

theorem OwnCks.rd {w w' : World} {B g n c : Nat} {a : Option Addr} {L : List Ck} {V C : Value} {x y : Int} (h : OwnCks w B a n c L) (hR : Rd w g V x C y) (hg : w.grownBy w' (some g)) : OwnCks w' B a n c L :=
  ⟨own_other h.1 hg (Ne.symm (own_apart h.1 hR (by decide))), fun k hk => ⟨own_other (h.2 k hk).1 hg (Ne.symm (own_apart (h.2 k hk).1 hR (by decide))), (h.2 k hk).2⟩⟩
theorem Ext.rd {w0 w w' : World} {g : Nat} (h : Ext w0 w) (hg : w.grownBy w' (some g)) (hB : w0.heap.size ≤ g) : Ext w0 w' := h.grown hg h.size (fun k hk => by cases hk; exact hB)
theorem behind_d (p : Option Ck) (x : Ck) : behindB (p.map Ck.d) x.d = behindB p x := by cases p <;> rfl
theorem Bytes.lt {w : World} {a : Option Addr} {n c : Nat} {l : List UInt8} (h : Bytes w a n c l) (hn : 0 < n) : ∀ p, a = some p → p.block < w.heap.size := fun p hp => by
  have h0 := h.2.cell p hp 0 (u8 (l[0]'(by have := h.1; omega))) (by rw [List.getElem?_map, List.getElem?_eq_getElem (by have := h.1; omega)]; rfl)
  have := World.block_lt_of_cell? w _ h0
  have hb : (p.add 0).block = p.block := by unfold Addr.add; split <;> rfl
  rw [hb] at this
  exact this

theorem grown_drewO (w : World) (o : Option Nat) : w.grownBy w.drew o := ⟨rfl, rfl, rfl, Nat.le_refl _, fun _ _ _ => rfl⟩
theorem own_heap {w : World} {B e s n c b : Nat} {a : Option Addr} {xs : List Value} (h : w.ownsRow B e s (.slice a n c) n xs) (hb : blockOf a = some b) : ∃ cur, w.heap[b]? = some (.cells cur e (0, 0)) := by
  rcases h.2 with ⟨hv, _⟩ | ⟨g, cap, cur, hv, hB, hg, _⟩
  · simp only [Value.slice.injEq] at hv
    rw [hv.1] at hb; cases hb
  · simp only [Value.slice.injEq] at hv
    rw [hv.1] at hb
    simp only [blockOf, Option.some.injEq] at hb
    exact ⟨cur, by rw [← hb]; exact hg⟩
def FrErr (w0 : World) (g : Nat) (V : Value) (ca : Option Addr) (cn cc : Nat) (good : Int) (L : List Ck) (er : Int) (e : Ending) (w' : World) : Prop :=
  e = .returned (.int .i64 er) ∧ (∃ at' : Int, Rd w' g V at' (.slice ca cn cc) good) ∧ OwnCks w' w0.heap.size ca cn cc L ∧ Ext w0 w'
def FrOk (w0 : World) (g : Nat) (V : Value) (cn : Nat) (L : List Ck) (k : Ck) (nx : Nat) (e : Ending) (w' : World) : Prop :=
  e = .returned (.int .i64 0) ∧ ∃ (c' : Nat) (a' : Option Addr) (k' : Ck), k'.d = k ∧ Rd w' g V nx (.slice a' (cn + 1) c') nx ∧ OwnCks w' w0.heap.size a' (cn + 1) c' (L ++ [k']) ∧ Ext w0 w'
/-- What frame answers. -/
def FrPost (w0 : World) (g : Nat) (V : Value) (ca : Option Addr) (cn cc : Nat) (good : Int) (L : List Ck) (r : Except Int (Ck × Nat)) (e : Ending) (w' : World) : Prop :=
  match r with
  | .error er => FrErr w0 g V ca cn cc good L er e w'
  | .ok (k, nx) => FrOk w0 g V cn L k nx e w'

set_option maxRecDepth 100000 in
set_option maxHeartbeats 4000000 in
theorem frame_any (g : Nat) (a : Option Addr) (n c : Nat) (ca : Option Addr) (cn cc : Nat) (at_ : Nat) (good : Int) (l : List UInt8) (L : List Ck) (w0 w : World) (hx : Ext w0 w) (hg0 : w0.heap.size ≤ g) (hb : Bytes w0 a n c l)
    (hn : n ≤ 100000000000000) (hR : Rd w g (.slice a n c) at_ (.slice ca cn cc) good) (hO : OwnCks w w0.heap.size ca cn cc L) (hcn : cn ≤ 100000000) :
    Calls Try.prog 64 #[.pointer (some ⟨g, 0, none⟩)] w (FrPost w0 g (.slice a n c) ca cn cc good L (frameAt l at_ (L.map Ck.d).getLast?)) := by
  have hbl := hb.len
  rcases uint_cases l at_ with ⟨z, a1, u1, r1, h1, h2, h3, hz⟩ | ⟨u1, er, r1, he⟩
  rotate_left
  · have e0 : frameAt l at_ (L.map Ck.d).getLast? = .error 293 := by unfold frameAt; rw [u1]
    have he0 : (er == 0) = false := by rcases he with rfl | rfl | rfl <;> decide
    rw [e0]
    clear e0 he u1
    have R1 := Lib.hid r1
    clear r1
    go_enter Try.func64, Try.ntmps64
    go_wp2_with (go_at_call 65; (with_reducible refine (posUint_no g a n c _ at_ good l er _ hR (hb.ext hx) R1.out he0 (by omega)).mono ?_); rintro e w1 ⟨rfl, hR1, hg1⟩)
    go_ret
    exact ⟨rfl, ⟨_, hR1⟩, hO.rd hR hg1, hx.rd hg1 hg0⟩
  have hne : ∀ p, a = some p → p.block ≠ g := fun p hp => by have := hb.lt (by omega) p hp; omega
  rcases uint_cases l a1 with ⟨s, a2, u2, r2, h4, h5, h6, hs⟩ | ⟨u2, er, r2, he⟩
  rotate_left
  · have e0 : frameAt l at_ (L.map Ck.d).getLast? = .error 293 := by unfold frameAt; rw [u1]; simp only [u2]
    have he0 : (er == 0) = false := by rcases he with rfl | rfl | rfl <;> decide
    rw [e0]
    clear e0 he u1 u2
    have R1 := Lib.hid r1
    have R2 := Lib.hid r2
    clear r1 r2
    have t1 : True := trivial
    go_enter Try.func64, Try.ntmps64
    go_wp2_with (first
      | (go_at_call 65; have _t := t1; (with_reducible refine (posUint_ok g a n c _ at_ good l z a1 _ hR (hb.ext hx) R1.out (by omega)).mono ?_); rintro e w1 ⟨rfl, hR1, hg1⟩; clear t1)
      | (go_at_call 65; (with_reducible refine (posUint_no g a n c _ a1 good l er _ hR1 (hb.ext (hx.rd hg1 hg0)) R2.out he0 (by omega)).mono ?_); rintro e w2 ⟨rfl, hR2, hg2⟩))
    go_ret
    exact ⟨rfl, ⟨_, hR2⟩, (hO.rd hR hg1).rd hR1 hg2, (hx.rd hg1 hg0).rd hg2 hg0⟩
  have R1 := Lib.hid r1
  have R2 := Lib.hid r2
  have e1 : frameAt l at_ (L.map Ck.d).getLast? = (if z < 1 ∨ 8192 < z ∨ l.length < a2 + z then .error 293
      else if rightB s z ((l.drop a2).take z) = false then .error 290
      else if behindB (L.map Ck.d).getLast? (dk s z ((l.drop a2).take z)) = false then .error 291
      else .ok (dk s z ((l.drop a2).take z), a2 + z)) := by unfold frameAt; rw [u1]; simp only [u2]
  rw [e1]
  clear r1 r2 u1 u2 e1
  by_cases hz0 : z < 1 ∨ 8192 < z
  · rw [if_pos (by omega)]
    have t1 : True := trivial
    rcases hz0 with hz0 | hz0
    all_goals
      go_enter Try.func64, Try.ntmps64
      go_wp2_with (first
        | (go_at_call 65; have _t := t1; (with_reducible refine (posUint_ok g a n c _ at_ good l z a1 _ hR (hb.ext hx) R1.out (by omega)).mono ?_); rintro e w1 ⟨rfl, hR1, hg1⟩; clear t1)
        | (go_at_call 65; (with_reducible refine (posUint_ok g a n c _ a1 good l s a2 _ hR1 (hb.ext (hx.rd hg1 hg0)) R2.out (by omega)).mono ?_); rintro e w2 ⟨rfl, hR2, hg2⟩))
      go_ret
      exact ⟨rfl, ⟨_, hR2⟩, (hO.rd hR hg1).rd hR1 hg2, (hx.rd hg1 hg0).rd hg2 hg0⟩
  have hz1 : 1 ≤ z := by omega
  have hz2 : z ≤ 8192 := by omega
  clear hz0
  by_cases hlen : l.length < a2 + z
  · rw [if_pos (by omega)]
    have t1 : True := trivial
    go_enter Try.func64, Try.ntmps64
    go_wp2_with (first
      | (go_at_call 65; have _t := t1; (with_reducible refine (posUint_ok g a n c _ at_ good l z a1 _ hR (hb.ext hx) R1.out (by omega)).mono ?_); rintro e w1 ⟨rfl, hR1, hg1⟩; clear t1)
      | (go_at_call 65; (with_reducible refine (posUint_ok g a n c _ a1 good l s a2 _ hR1 (hb.ext (hx.rd hg1 hg0)) R2.out (by omega)).mono ?_); rintro e w2 ⟨rfl, hR2, hg2⟩)
      | (go_at_call 71; (with_reducible refine (posBytes_no g a n c _ a2 z good _ hR2 (by omega) (by omega) (by omega)).mono ?_); rintro e w3 ⟨rfl, hR3, hg3⟩))
    go_ret
    exact ⟨rfl, ⟨_, hR3⟩, ((hO.rd hR hg1).rd hR1 hg2).rd hR2 hg3, ((hx.rd hg1 hg0).rd hg2 hg0).rd hg3 hg0⟩
  · rw [if_neg (by omega)]
    obtain ⟨bb, hbb⟩ : ∃ bb, bb = (l.drop a2).take z := ⟨_, rfl⟩
    have hbbl : bb.length = z := by rw [hbb, List.length_take, List.length_drop]; omega
    rw [← hbb]
    obtain ⟨r, hrr⟩ : ∃ r : Except Int (Ck × Nat), r = (if rightB s z bb = false then .error 290 else if behindB (L.map Ck.d).getLast? (dk s z bb) = false then .error 291 else .ok (dk s z bb, a2 + z)) := ⟨_, rfl⟩
    rw [← hrr]
    have HRES := Lib.hid hrr
    clear hrr
    have HBB := Lib.hid hbb
    have HBL := Lib.hid hbbl
    clear hbb hbbl
    have t1 : True := trivial
    go_enter Try.func64, Try.ntmps64
    go_wp2_with (first
      | (go_at_call 65; have _t := t1; (with_reducible refine (posUint_ok g a n c _ at_ good l z a1 _ hR (hb.ext hx) R1.out (by omega)).mono ?_); rintro e w1 ⟨rfl, hR1, hg1⟩; clear t1)
      | (go_at_call 65; (with_reducible refine (posUint_ok g a n c _ a1 good l s a2 _ hR1 (hb.ext (hx.rd hg1 hg0)) R2.out (by omega)).mono ?_); rintro e w2 ⟨rfl, hR2, hg2⟩)
      | (go_at_call 71; have hb2 := hb.ext ((hx.rd hg1 hg0).rd hg2 hg0); (with_reducible refine (posBytes_ok g a n c _ a2 z good l _ hR2 hb2 hne (by omega) (by omega)).mono ?_); rintro e w3 ⟨c3, a3, rfl, ho3, hR3, hg3⟩; rw [← HBB.out] at ho3; have hO3 := ((hO.rd hR hg1).rd hR1 hg2).rd hR2 hg3; have hx3 := ((hx.rd hg1 hg0).rd hg2 hg0).rd hg3 hg0; have hxx2 := (hx.rd hg1 hg0).rd hg2 hg0; refine Stop.of ?_))
    have hb3 := Bytes.of_own ho3
    by_cases hr : rightB s (z : Int) bb = true
    rotate_left
    · have hr' := Bool.eq_false_iff.2 hr
      have e290 : r = .error 290 := by rw [HRES.out, if_pos hr']
      have HRr := Lib.hid hr'
      clear hr hr'
      refine Stop.out ?_
      go_wp2_with (go_at_call 31; (with_reducible refine (right_any s z a3 z c3 bb _ (hb3.ext (Ext.alloc' _ _)) (by omega)).mono ?_); rw [HRr.out]; rintro e w5 ⟨rfl, hx5⟩)
      go_ret
      have hx35 := (Ext.alloc' w3 _).trans' hx5
      rw [e290]
      exact ⟨rfl, ⟨_, hR3.ext hx35⟩, hO3.ext hx35, hx3.trans' hx35⟩
    have e2 : r = (if behindB (L.map Ck.d).getLast? (dk s z bb) = false then .error 291 else .ok (dk s z bb, a2 + z)) := by rw [HRES.out, if_neg (by rw [hr]; decide)]
    have HRES2 := Lib.hid e2
    have HRr := Lib.hid hr
    clear hr e2 HRES
    obtain ⟨x, hxd⟩ : ∃ x : Ck, x = ⟨s, z, a3, z, c3, bb⟩ := ⟨_, rfl⟩
    have hxK : OwnK w3 w0.heap.size x := by rw [hxd]; exact ⟨own_base ho3 hxx2.size, hz2, (by show (s : Int) ≤ _; omega), by show ((z : Nat) : Int) ≤ _; omega⟩
    have hxD : x.d = dk s z bb := by rw [hxd]; rfl
    have hLl : L.length = cn := hO.len
    have HLl := Lib.hid hLl
    have HxD := Lib.hid hxD
    have HX := Lib.hid hxd
    clear hLl hxD hxd hR hR1 hR2 hg1 hg2 hb hb2 hO
    refine Stop.out ?_
    go_wp2_with (go_at_call 31; (with_reducible refine (right_any s z a3 z c3 bb _ (hb3.ext (Ext.alloc' _ _)) (by omega)).mono ?_); rw [HRr.out]; rintro e w5 ⟨rfl, hx5⟩; have hx35 := (Ext.alloc' w3 _).trans' hx5; have hR5 := hR3.ext hx35; have hc5 := fun j => hR5.cells w5 j (Below.refl _ _); have hbox5 := hx5.heap' (heap_alloc_new w3 _))
    clear hc5
    have hO5 := hO3.ext hx35
    have hrow5 := Row.of_own hO5.1
    have hA5 := hR5.cells
    have hBx5 : ∀ w' j, Ext w5 w' → w'.cell? ⟨w3.heap.size, j, none⟩ = #[.int .u64 s, .int .i64 z, .slice a3 z c3][j]? := fun w' j hx => cell_of_row _ _ _ _ _ _ (hx.heap' hbox5)
    by_cases hc0 : 0 < cn
    focus
      obtain ⟨y, hy⟩ : ∃ y, L[cn - 1]? = some y := ⟨_, List.getElem?_eq_getElem (by have := HLl.out; omega)⟩
      have hlast : (L.map Ck.d).getLast? = some y.d := by
        rw [List.getLast?_eq_getElem?, List.length_map, HLl.out, List.getElem?_map, hy]; rfl
      have HY := Lib.hid hy
      have ebh : behindB (L.map Ck.d).getLast? (dk s z bb) = lessB y x := by rw [hlast, ← HxD.out]; rfl
      have HBH := Lib.hid ebh
      have ecl : decide (0 ≤ orI (cmpI y.s s) (cmpI y.z z)) = !lessB y x := by rw [← cmp_less y x, HX.out]
      clear hy hlast ebh
      refine wp_region_e [] (.qs [0, 1, 2, 3, 4, 5, 6, 7, 8, 9, 10, 11, 12, 13] (.l 14 (.qs [15, 16] .nil))) (by kernel_rfl) (by kernel_rfl) ?_
      have hwr : IntKind.i64.wrap ((cn : Int) - 1) = (cn : Int) - 1 := by rw [IntKind.wrap_i64]; omega
      iterate 9 ((refine wpY_q rfl rfl _ (fun w' hx' => by go_simp; try rfl) ?_; go_simp))
      clear hwr
      refine wpY_ix rfl rfl (.tmp 66) (.tmp 68) rfl Try.elC rfl (fun w' h => hrow5.ext h) (cn - 1) rfl (by omega) (by omega) ?_
      intro b6 o6 hc6
      have hi6 := range_id HY.out hc6
      ((refine wpY_q rfl rfl _ (fun w' hx' => by go_simp; try rfl) ?_; go_simp))
      refine wpY_ld rfl rfl (.tmp 70) rfl b6 o6 rfl [.int .u64 y.s, .int .i64 y.z] _ hi6 Try.underlying44 rfl (by kernel_rfl) ?_
      ((refine wpY_q rfl rfl _ (fun w' hx' => by go_simp; try rfl) ?_; go_simp))
      refine wpY_ld rfl rfl (.tmp 72) rfl w3.heap.size 0 rfl [.int .u64 s, .int .i64 z] _ (box_id hBx5) Try.underlying44 rfl (by kernel_rfl) ?_
      refine wpY_l rfl rfl ?_
      go_simp
      refine (compareIDs_any y.s s y.z z _).mono ?_
      rintro e w6 ⟨rfl, hx6⟩
      have E6 := (Ext.drew' w5).trans' hx6
      refine ⟨E6, ?_⟩
      by_cases hless : lessB y x = true
      rotate_left
      · have hless' := Bool.eq_false_iff.2 hless
        rw [hless', Bool.not_false] at ecl
        have e291 : r = .error 291 := by rw [HRES2.out, HBH.out, if_pos hless']
        have H291 := Lib.hid e291
        clear hless hless' e291
        go_simp
        iterate 2 ((refine wpY_q rfl rfl _ (fun w' hx' => by go_simp; try rfl) ?_; go_simp))
        refine wpY_nil ?_
        clear hA5 hBx5 hc6 hi6
        go_wp2
        go_ret
        have hx36 := hx35.trans' E6
        rw [H291.out]
        exact ⟨rfl, ⟨_, hR3.ext hx36⟩, hO3.ext hx36, hx3.trans' hx36⟩
      have eok : r = .ok (dk s z bb, a2 + z) := by rw [HRES2.out, HBH.out, if_neg (by rw [hless]; decide)]
      have HOK := Lib.hid eok
      rw [hless, Bool.not_true] at ecl
      clear eok
      clear hless
      go_simp
      iterate 2 ((refine wpY_q rfl rfl _ (fun w' hx' => by go_simp; try rfl) ?_; go_simp))
      refine wpY_nil ?_
      clear hc6 hi6 ecl HBH HY
    rotate_left
    focus
      have hd0 : decide (0 < cn) = false := by simp; omega
      have hL0 : L = [] := List.eq_nil_of_length_eq_zero (by have := HLl.out; omega)
      have ebh : behindB (L.map Ck.d).getLast? (dk s z bb) = true := by rw [hL0]; rfl
      have eok : r = .ok (dk s z bb, a2 + z) := by rw [HRES2.out, ebh, if_neg (by decide)]
      have HOK := Lib.hid eok
      clear ebh hL0 eok
      refine wp_region_e [] (.qs [0, 1, 2, 3, 4, 5, 6, 7, 8, 9, 10, 11, 12, 13] (.l 14 (.qs [15, 16] .nil))) (by kernel_rfl) (by kernel_rfl) ?_
      iterate 14 (first | ((refine wpY_q rfl rfl _ (fun w' hx' => by go_simp; try rfl) ?_; go_simp)) | ((refine wpY_skip rfl rfl ?_; go_simp)))
      refine wpY_lskip rfl rfl ?_
      go_simp
      iterate 2 (first | ((refine wpY_q rfl rfl _ (fun w' hx' => by go_simp; try rfl) ?_; go_simp)) | ((refine wpY_skip rfl rfl ?_; go_simp)))
      refine wpY_nil ?_
      clear hd0
      have E6 := Ext.drew' w5
      generalize w5.drew = w6 at E6 ⊢
    all_goals
      clear hA5 hBx5
      have hR6 := hR5.ext E6
      have hO6 := hO5.ext E6
      have hbox6 := E6.heap' hbox5
      have hx6' := (hx3.trans' hx35).trans' E6
      have hxK6 := hxK.ext (hx35.trans' E6)
      have hgb : some g ≠ blockOf ca := own_apart hO6.1 hR6 (by decide)
      have hbb6 : some w3.heap.size ≠ blockOf ca := fun h => Nat.lt_irrefl _ (own_block hO3.1 _ h.symm).2
      go_wp2
      refine wp_region_z (fun w' => w6.grownBy w' (blockOf ca)) (grown_drewO w6 _) [8, 9, 10] (.qs [0, 1, 2, 3, 4, 5] (.l 6 (.l 7 (.l 8 (.l 9 (.l 10 .nil)))))) (by kernel_rfl) (by kernel_rfl) ?_
      have hA6 : ∀ w' j, w6.grownBy w' (blockOf ca) → w'.cell? ⟨g, j, none⟩ = #[.slice a n c, .int .i64 ((a2 : Int) + z), .slice ca cn cc, .int .i64 good][j]? := fun w' j h => cell_of_row _ _ _ _ _ _ ((h.block g (Array.getElem?_eq_some_iff.1 hR6).1 hgb).trans hR6)
      have hB6 : ∀ w', w6.grownBy w' (blockOf ca) → w'.rangeAt w3.heap.size 0 x.cells := fun w' h => by
        have h1 := (h.block w3.heap.size (Array.getElem?_eq_some_iff.1 hbox6).1 hbb6).trans hbox6
        intro j v hj
        rw [Nat.zero_add, cell_of_row _ _ _ _ _ _ h1, ← hj, HX.out]
        simp [Ck.cells]
      iterate 5 ((refine wpZ_q rfl rfl _ (fun w' hx' => by go_simp; try rfl) ?_; go_simp))
      refine wpZ_ld rfl rfl (.tmp 7) rfl w3.heap.size 0 rfl x.cells _ hB6 Try.underlying46 rfl (by kernel_rfl) ?_
      refine wpZ_l rfl rfl ?_
      go_simp
      have hgw : w6.grownBy (w6.drew.alloc (.cells #[.int .u64 x.s, .int .i64 x.z, .slice x.a x.n x.c] 46)) (blockOf ca) := grown_trans' (grown_drewO w6 _) (World.grownBy_alloc _ _ _)
      have hOw := own_ext (own_ext hO6.1 (Ext.drew' w6)) (Ext.alloc' w6.drew (.cells #[.int .u64 x.s, .int .i64 x.z, .slice x.a x.n x.c] 46))
      refine ⟨hgw, ?_⟩
      refine wpZ_l rfl rfl (owp_app _ _ rfl Try.elC rfl hOw rfl (Row.new w6.drew #[.int .u64 x.s, .int .i64 x.z, .slice x.a x.n x.c] 46 1 3 rfl (by decide)) (oneCell_ck x) (by omega) (by unfold maxLen; omega) (Nat.le_trans hx6'.size hgw.size) ?_)
      intro a7 c7 w7 ho7 hg7
      have hg67 := grown_trans' hgw hg7
      refine ⟨fun _ => hg67, ?_⟩
      clear hA6 hB6
      have hR7 : Rd w7 g (.slice a n c) ((a2 : Int) + z) (.slice ca cn cc) good := (hg67.block g (Array.getElem?_eq_some_iff.1 hR6).1 hgb).trans hR6
      have hx7 : Ext w0 w7 := hx6'.grown hg67 hx6'.size (fun k hk => (own_block hO6.1 k hk).1)
      have hK7 : ∀ k, OwnK w6 w0.heap.size k → OwnK w7 w0.heap.size k := fun k hk => by
        refine ⟨hk.1.kept hg67 ?_, hk.2⟩
        rw [ownBlock_slice]
        cases hca : blockOf ca with
        | none => cases blockOf k.a <;> simp
        | some b =>
          obtain ⟨cur, hcur⟩ := own_heap hO6.1 hca
          have := own_apart hk.1 hcur (by decide)
          cases hka : blockOf k.a with
          | none => simp
          | some b' => rw [hka] at this; simpa using Ne.symm this
      have hO7 : OwnCks w7 w0.heap.size a7 (cn + 1) c7 (L ++ [x]) := ⟨by rw [List.flatMap_append, List.flatMap_cons, List.flatMap_nil, List.append_nil]; exact ho7, fun k hk => by
        rcases List.mem_append.1 hk with h | h
        · exact hK7 k (hO6.2 k h)
        · obtain rfl : k = x := by simpa using h
          exact hK7 _ hxK6⟩
      have hc7 := fun j => hR7.cells w7 j (Below.refl _ _)
      have hf7 := fun j => hR7.free w7 j (Below.refl _ _)
      clear hgw hOw hg7 hg67 ho7 hK7
      go_simp
      refine wpZ_l rfl rfl ?_
      go_simp
      refine wpZ_l rfl rfl ?_
      go_simp
      refine wpZ_l rfl rfl ?_
      go_simp
      refine wpZ_nil ?_
      have hR8 : Rd (w7.setCell ⟨g, 2, none⟩ (.slice a7 (cn + 1) c7)) g (.slice a n c) ((a2 : Int) + z) (.slice a7 (cn + 1) c7) good := hR7.set2
      have hg8 := grown_setCell' w7 g 2 (.slice a7 (cn + 1) c7)
      have hO8 := hO7.rd hR7 hg8
      have hx8 := hx7.rd hg8 hg0
      clear hc7 hf7 hR7 hO7 hx7 hg8
      generalize w7.setCell ⟨g, 2, none⟩ (.slice a7 (cn + 1) c7) = w8 at hR8 hO8 hx8 ⊢
      have hc8 := fun j => hR8.cells w8 j (Below.refl _ _)
      have hf8 := fun j => hR8.free w8 j (Below.refl _ _)
      go_wp2
      go_ret
      rw [HOK.out]
      have hg9 := grown_setCell' w8 g 3 (.int .i64 ((a2 : Int) + z))
      refine ⟨rfl, c7, a7, x, HxD.out, ?_, hO8.rd hR8 hg9, hx8.rd hg9 hg0⟩
      exact hR8.set3
end Go.Proofs.Ytncdcpaelecikaa
