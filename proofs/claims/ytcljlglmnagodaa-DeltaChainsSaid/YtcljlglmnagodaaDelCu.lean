/-
  The closure of Compose, and cut: the pieces of a source are added to a builder.
-/
import Derived.Test.YtcljlglmnagodaaDelNs
import Derived.Test.YtcljlglmnagodaaDelV
import Derived.Deep.CutRange
import Derived.Deep.CutBlock
namespace Go.Proofs.Ytcljlglmnagodaa
open Go.RowKit

/-- A part as a value, and the op that it adds. -/
def Piece (b : Nat) (w : World) (v : Value) (d : Dp) : Prop :=
  (∃ f z : Int, v = .iface 85 (.agg #[.int .i64 f, .int .i64 z]) ∧ d = ⟨f, z, []⟩ ∧ 0 ≤ f ∧ 1 ≤ z ∧ f + z ≤ b) ∨
  (∃ (la : Option Addr) (ln lc : Nat) (l : List UInt8), v = .iface 89 (.agg #[.slice la ln lc]) ∧ d = ⟨0, 0, l⟩ ∧ Bytes w la ln lc l ∧ 0 < ln ∧ ln ≤ 1048576)
theorem addPiece_any (g : Nat) (a : Option Addr) (n c : Nat) (L : List Od) (m b s : Nat) (v : Value) (d : Dp) (w : World) (hB : Bld w g a n c L m) (hW : Way b s (L.map Od.d)) (hs : s ≤ 1048576) (hb : b ≤ 1048576) (hp : Piece b w v d) :
    Calls Try.prog 71 #[.pointer (some ⟨g, 0, none⟩), v] w (BldR w g (addD (L.map Od.d) d)) := by
  have hWB := hW.bounds hB.ops
  have hfew : n ≤ 1048576 := by have := hWB.few; have := hB.len; omega
  have hshort : ∀ y ∈ L, y.n ≤ 1000000000000 := fun y hy => by have := hWB.short y hy; omega
  have hsum : ∀ y ∈ L, y.f + y.z ≤ 1000000000000 := fun y hy => by have := hWB.sum y hy; omega
  rcases hp with ⟨f, z, rfl, rfl, h1, h2, h3⟩ | ⟨la, ln, lc, l, rfl, rfl, h1, h2, h3⟩
  · exact addCopy_any g a n c L m f z w hB (by omega) hWB.fine hsum h1 h2 (by omega)
  · exact addLit_any g a n c L m la ln lc l w hB (by omega) hWB.fine hshort h1 h2 (by omega)
def TakeR (w0 : World) (g : Nat) (D : List Dp) (e : Ending) (w : World) : Prop :=
  e = .returned (.bool (decide (D.length ≤ 4096))) ∧ Below g w0 w ∧ KeepB w0 w ∧ ∃ a n c L m, Bld w g a n c L m ∧ L.map Od.d = D

set_option maxRecDepth 100000 in
set_option maxHeartbeats 4000000 in
theorem take_any (g : Nat) (a : Option Addr) (n c : Nat) (L : List Od) (m b s : Nat) (v : Value) (d : Dp) (w : World) (hB : Bld w g a n c L m) (hW : Way b s (L.map Od.d)) (hs : s ≤ 1048576) (hb : b ≤ 1048576) (hp : Piece b w v d) :
    Calls Try.prog 80 #[v, .pointer (some ⟨g, 0, none⟩)] w (TakeR w g (addD (L.map Od.d) d)) := by
  obtain ⟨D, hD⟩ : ∃ D, D = addD (L.map Od.d) d := ⟨_, rfl⟩
  have hadd := addPiece_any g a n c L m b s v d w hB hW hs hb hp
  rw [← hD] at hadd ⊢
  clear hD hp hW
  by_cases hlen : D.length ≤ 4096
  · have hd : decide (D.length ≤ 4096) = true := decide_eq_true hlen
    have HD := Lib.hid hd
    clear hd
    go_enter Try.func80, Try.ntmps80
    go_wp2_with (first
      | (go_at_call 71; (with_reducible refine hadd.mono ?_); rintro e w5 ⟨rfl, hbel, hkeep, a6, n6, c6, L6, m6, hB6, hD6⟩; clear hadd; have hbc := fun i => cell_of_row w5 g i _ _ _ hB6.box; have hlen6 : n6 ≤ 4096 := (by have h0 := hB6.len; have h1 := congrArg List.length hD6; rw [List.length_map] at h1; omega); have hdd : decide ((n6 : Int) ≤ 4096) = true := decide_eq_true (by omega))
      | fail)
    go_ret
    exact ⟨by rw [HD.out]; rfl, hbel, hkeep, a6, n6, c6, L6, m6, hB6, hD6⟩
  · have hd : decide (D.length ≤ 4096) = false := decide_eq_false hlen
    have HD := Lib.hid hd
    clear hd
    go_enter Try.func80, Try.ntmps80
    go_wp2_with (first
      | (go_at_call 71; (with_reducible refine hadd.mono ?_); rintro e w5 ⟨rfl, hbel, hkeep, a6, n6, c6, L6, m6, hB6, hD6⟩; clear hadd; have hbc := fun i => cell_of_row w5 g i _ _ _ hB6.box; have hlen6 : ¬ n6 ≤ 4096 := (by have h0 := hB6.len; have h1 := congrArg List.length hD6; rw [List.length_map] at h1; omega); have hdd : decide ((n6 : Int) ≤ 4096) = false := decide_eq_false (by omega))
      | fail)
    go_ret
    exact ⟨by rw [HD.out]; rfl, hbel, hkeep, a6, n6, c6, L6, m6, hB6, hD6⟩

/-! ### cut -/
theorem Way.addAll {n : Nat} : ∀ {os : List Dp} {m : Nat} {D : List Dp}, Way n m D → (∀ o ∈ os, o.ok n) → Way n (m + sizeD os) (os.foldl addD D)
  | [], m, D, h, _ => by simpa [sizeD] using h
  | o :: os, m, D, h, ho => by
    have := (h.add (ho o (List.mem_cons_self ..))).addAll (fun x hx => ho x (List.mem_cons_of_mem _ hx))
    rw [sizeD_cons, ← Nat.add_assoc]
    exact this
def CutR (w0 : World) (g : Nat) (D : List Dp) (e : Ending) (w : World) : Prop :=
  e = .returned (.bool (decide (D.length ≤ 4096))) ∧ Below g w0 w ∧ KeepB w0 w ∧ (D.length ≤ 4096 → ∃ a n c L m, Bld w g a n c L m ∧ L.map Od.d = D)
theorem KeepB.trans {a b c : World} (h : KeepB a b) (h2 : KeepB b c) : KeepB a c := fun k cs t fr ht hk => h2 k cs t fr ht (h k cs t fr ht hk)
def CuRel (w0 wS : World) (bs : Nat) (bx : Array Value) (b t M0 s0 : Nat) (D : List Dp) (R : List Dp) (from_ i : Value) (wr : World) : Prop :=
  ∃ (s j : Nat) (a : Option Addr) (n c : Nat) (L' : List Od) (m : Nat), from_ = .int .i64 s ∧ i = .int .i64 j ∧ s0 ≤ s ∧ s ≤ t ∧ j ≤ D.length ∧ (s = t ∨ (s < t ∧ Holds D j s)) ∧
    Bld wr wS.heap.size a n c L' m ∧ Way b (M0 + (s - s0)) (L'.map Od.d) ∧ (L'.map Od.d).length ≤ 4096 ∧ R = (leftF D j s t).foldl addD (L'.map Od.d) ∧ Ext wS wr ∧ Below wS.heap.size w0 wr ∧ KeepB w0 wr ∧
    wr.heap[bs]? = some (.cells bx 105 (0, 0))

set_option maxRecDepth 100000 in
set_option maxHeartbeats 8000000 in
theorem cut_any (wS : World) (a : Option Addr) (n c : Nat) (L' : List Od) (m b M s t : Nat) (pa ba : Option Addr) (N pc bc : Nat) (L : List Od) (w : World) (hx : Ext wS w) (hB : Bld w wS.heap.size a n c L' m) (hW : Way b M (L'.map Od.d))
    (hP : Row wS pa N pc 1 (L.map partV)) (hI : Row wS ba N bc 1 ((begD (L.map Od.d) N).map (Value.int .i64))) (hN : L.length = N) (hL : ∀ k ∈ L, k.In wS) (hok : ∀ k ∈ L, k.d.ok b) (hst : s < t) (ht : t ≤ sizeD (L.map Od.d)) (hS : sizeD (L.map Od.d) ≤ 1048576)
    (hM : M + (t - s) ≤ 1048576) (hb : b ≤ 1048576) (hN4 : N ≤ 4096) (hl4 : (L'.map Od.d).length ≤ 4096) :
    Calls Try.prog 81 #[.agg #[.slice pa N pc, .slice ba N bc], .int .i64 s, .int .i64 t, .func (.func 80) #[] #[.pointer (some ⟨wS.heap.size, 0, none⟩)]] w (CutR w wS.heap.size ((partF s t 0 (L.map Od.d)).foldl addD (L'.map Od.d))) := by
  obtain ⟨D, hD⟩ : ∃ D, D = L.map Od.d := ⟨_, rfl⟩
  obtain ⟨R, hR⟩ : ∃ R, R = (partF s t 0 (L.map Od.d)).foldl addD (L'.map Od.d) := ⟨_, rfl⟩
  rw [← hR]
  rw [← hD] at hR ht hS hI
  have hDl : D.length = N := by rw [hD, List.length_map, hN]
  have hfine : ∀ o ∈ D, o.fine := fun o ho => by rw [hD] at ho; obtain ⟨k, hk, rfl⟩ := List.mem_map.1 ho; exact (hok k hk).fine
  have hsz : ∀ o ∈ D, 1 ≤ o.size := fun o ho => by have := (nice_size (hfine o ho).nice).1; omega
  obtain ⟨bx, hbx⟩ : ∃ bx : Array Value, bx = #[.slice pa N pc, .slice ba N bc] := ⟨_, rfl⟩
  have hw1 := Ext.alloc' w (.cells #[.slice pa N pc, .slice ba N bc] 105)
  have hbx1 := heap_alloc_new w (.cells #[.slice pa N pc, .slice ba N bc] 105)
  obtain ⟨w1, hw1e⟩ : ∃ w1, w1 = w.alloc (.cells #[.slice pa N pc, .slice ba N bc] 105) := ⟨_, rfl⟩
  have hBS := BinarySearch_any ba N bc (begD D N) s w1 (hI.ext (by rw [hw1e]; exact hx.trans' hw1)) (begD_length _ _) (by omega) (begD_mono D N)
  rw [← hw1e] at hw1 hbx1
  have hbk1 : ∀ i, w1.cell? ⟨w.heap.size, i, none⟩ = #[.slice pa N pc, .slice ba N bc][i]? := fun i => cell_of_row _ _ i _ _ _ hbx1
  have hgw : wS.heap.size ≤ w.heap.size := hx.size
  have HR := Lib.hid hR
  have HD := Lib.hid hD
  have HDL := Lib.hid hDl
  have HF := Lib.hid hfine
  have HZ := Lib.hid hsz
  have HL := Lib.hid hL
  have HOK := Lib.hid hok
  have HNL := Lib.hid hN
  have HW1 := Lib.hid hw1e
  have HT := Lib.hid ht
  have HS := Lib.hid hS
  clear hR hD hDl hfine hsz hL hok hN ht hS hw1e
  have tcc := Try.ta.cc
  have tll := Try.ta.ll
  have tlc := Try.ta.lc
  have mc := Try.mc
  have ml := Try.ml
  go_enter Try.func81, Try.ntmps81
  go_upto_region 1 with fail
  rw [← HW1.out]
  go_upto_if 24 with (first
    | (go_at_call 97; (with_reducible refine hBS.mono ?_); rintro e w2 ⟨p, hp, hlo, hhi, he, rfl⟩; obtain ⟨f, hf⟩ : ∃ f : Bool, f = decide ((begD D N)[p]? = some (s : Int)) := ⟨_, rfl⟩; rw [← hf] at he; subst he; have HFF := Lib.hid hf; clear hf)
    | fail)
  have hsk := seek (D := D) (p := p) (s := s) (by have := HDL.out; rw [begD_length] at hp; omega) (by have := HT.out; omega) HZ.out (by rw [HDL.out]; exact hlo) (by rw [HDL.out]; exact hhi)
  rw [HDL.out] at hsk
  rw [begD_length] at hp
  clear hlo hhi hBS
  go_cut [9] from 17 (fun s9 w' => ∃ i : Nat, s9 = .int .i64 i ∧ Holds D i s ∧ w' = w1)
  case first =>
    cases f with
    | true =>
      have hH := hsk.1 (of_decide_eq_true HFF.out.symm)
      have HH := Lib.hid hH
      clear hH hsk
      go_wp2
      go_meet
      exact ⟨p, rfl, HH.out, rfl⟩
    | false =>
      obtain ⟨hp1, hH⟩ := hsk.2 (of_decide_eq_false HFF.out.symm)
      have hwp : IntKind.i64.wrap ((p : Int) - 1) = ((p - 1 : Nat) : Int) := by rw [IntKind.wrap_i64]; omega
      have HH := Lib.hid hH
      clear hH hsk
      go_wp2
      go_meet
      exact ⟨p - 1, rfl, HH.out, rfl⟩
  case rest =>
    obtain ⟨i0, rfl, hH0, rfl⟩ := hcut
    rename World => w1
    have HH0 := Lib.hid hH0
    have HB0 := hB.ext (hw1)
    clear hsk hH0
    go_wp2
    go_loopw [1, 9] (CuRel w wS w.heap.size #[.slice pa N pc, .slice ba N bc] b t M s D R) (fun fr _ _ => t - (intOf fr).toNat)
    case atStart => exact ⟨s, i0, a, n, c, L', m, rfl, rfl, Nat.le_refl _, Nat.le_of_lt hst, Nat.le_of_lt HH0.out.1, .inr ⟨hst, HH0.out⟩, HB0, by rw [Nat.sub_self, Nat.add_zero]; exact hW, hl4, by rw [leftF_start HH0.out]; exact HR.out, hx.trans' hw1, hw1.mono hgw, KeepB.of_ext hw1, hbx1⟩
    case round =>
      obtain ⟨s', j, a', n', c', L2, m', rfl, rfl, hs0, hst', hjl, hcase, hB2, hW2, hl2, hR2, hx2, hbl2, hk2, hbx2⟩ := hrel
      rename World => w2
      rcases hcase with rfl | ⟨hlt, hH⟩
      · have hdone : R = L2.map Od.d := by rw [hR2, leftF_done]; rfl
        have hdl : decide (R.length ≤ 4096) = true := decide_eq_true (by rw [hdone]; exact hl2)
        have HDN := Lib.hid hdone
        have HDC := Lib.hid hdl
        clear hR2 hdone hdl hW2 hbx2
        go_wp2
        go_ret
        exact ⟨by rw [HDC.out]; rfl, hbl2, hk2, fun _ => ⟨a', n', c', L2, m', hB2, HDN.out.symm⟩⟩
      have hjn : j < N := by have := HDL.out; have := hH.1; omega
      obtain ⟨k, hk⟩ : ∃ k, L[j]? = some k := ⟨_, List.getElem?_eq_getElem (by have := HNL.out; omega)⟩
      have hkD : D[j]? = some k.d := by rw [HD.out, List.getElem?_map, hk]; rfl
      have hkm := List.mem_of_getElem? hk
      have hkI := HL.out k hkm
      have hkok := HOK.out k hkm
      have hsz := sizeD_take_succ hkD
      have hT := HT.out
      have hS := HS.out
      obtain ⟨hH1, hH2, hH3⟩ := hH
      have hH : Holds D j s' := ⟨hH1, hH2, hH3⟩
      have hnx := holds_next hkD hT HZ.out
      have hls := leftF_step hH hkD hlt
      have hB1 : sizeD (D.take (j + 1)) ≤ sizeD D := sizeD_take_le D (j + 1)
      obtain ⟨B, hBe⟩ : ∃ B, B = sizeD (D.take j) := ⟨_, rfl⟩
      rw [← hBe] at hsz hH2 hnx hls
      rw [hsz] at hH3 hB1
      obtain ⟨E, hE⟩ : ∃ E, E = min t (B + k.d.size) := ⟨_, rfl⟩
      rw [← hE] at hnx hls
      have hE1 : s' < E := by rw [hE]; omega
      have hE2 : E ≤ t := by rw [hE]; exact Nat.min_le_left _ _
      have hE3 : E ≤ B + k.d.size := by rw [hE]; exact Nat.min_le_right _ _
      obtain ⟨pd, hpd⟩ : ∃ pd, pd = cutD k.d (s' - B) (E - B) := ⟨_, rfl⟩
      rw [← hpd] at hls
      have hpok : pd.ok b := by rw [hpd]; exact cutD_ok hkok (by omega) (by omega)
      have hpsz : pd.size = E - s' := by rw [hpd, cutD_size hkok.fine (by omega) (by omega)]; omega
      rw [hls, List.foldl_cons] at hR2
      have hBj : (begD D N)[j]? = some (B : Int) := by rw [begD_at D hjn, hBe]
      have hrI := hI.ext hx2
      have hrP := hP.ext hx2
      have hbk : ∀ i, w2.cell? ⟨w.heap.size, i, none⟩ = #[.slice pa N pc, .slice ba N bc][i]? := fun i => cell_of_row _ _ i _ _ _ hbx2
      have HK := Lib.hid hk
      have HKI := Lib.hid hkI
      have HNX := Lib.hid hnx
      have HPD := Lib.hid hpd
      have HPOK := Lib.hid hpok
      have HPS := Lib.hid hpsz
      have HR2 := Lib.hid hR2
      have HBJ := Lib.hid hBj
      have HW2 := Lib.hid hW2
      have HKOK := Lib.hid hkok
      have HEE := Lib.hid hE
      clear hk hkD hkm hkI hkok hsz hH hnx hls hBe hE hpd hpok hpsz hR2 hBj hW2
      go_upto_region 7 with (first
        | ((with_reducible refine atSlot 35 ?_); refine wpList_of_wp rfl (owp_ix (o := ⟨some 35, _, _, _, _, _⟩) _ _ rfl Try.elI rfl hrI j rfl rfl hjn ?_); intro b3 o3 hc3; have hd3 : w2.cell? ⟨b3, o3, none⟩ = some (.int .i64 B) := (by have h0 := hc3 0 (by decide); rw [Nat.add_zero, Nat.mul_one, Nat.add_zero] at h0; rw [h0, List.getElem?_map, HBJ.out]; rfl); clear hc3)
        | fail)
      clear hd3 hrI
      go_cut [12] from 37 to 46 (fun s12 w' => s12 = .int .i64 E ∧ Ext w2 w')
      case first =>
        have hpg : ∀ (b4 o4 : Nat), (∀ i, i < 1 → w2.cell? ⟨b4, o4 + i, none⟩ = (L.map partV)[j * 1 + i]?) → w2.cell? ⟨b4, o4, none⟩ = some (partV k) := fun b4 o4 h => by
          have h0 := h 0 (by decide)
          rw [Nat.add_zero, Nat.mul_one, Nat.add_zero] at h0
          rw [h0, List.getElem?_map, HK.out]; rfl
        have HPG := Lib.hid hpg
        have hEE := HEE.out
        have hkl := HKI.out.1.len
        have hS := HS.out
        clear hpg
        rcases od_cases k hkl with ⟨c1, c2, h1, h2⟩ | ⟨c1, c2, h1, h2, h3⟩ | ⟨c1, c2, -, -⟩
        · obtain ⟨zn, hzn⟩ := Int.eq_ofNat_of_zero_le (show 0 ≤ k.z by omega)
          have hks : k.d.size = zn := by unfold Dp.size; rw [c1]; show k.z.toNat = zn; omega
          rw [hks] at hEE hH3 hB1 hE3
          have hpv : partV k = .iface 85 (.agg #[.int .i64 k.f, .int .i64 zn]) := by unfold partV; rw [if_pos c1, hzn]
          have HPV := Lib.hid hpv
          have u1 : IntKind.i64.wrap ((B : Int) + (zn : Int)) = (B : Int) + (zn : Int) := by rw [IntKind.wrap_i64]; omega
          clear hzn hks hpv c1 c2 h1 h2
          by_cases hm : B + zn < t
          · have hE' : E = B + zn := by rw [hEE]; exact Nat.min_eq_right (by omega)
            have HE' := Lib.hid hE'
            clear hEE hE'
            go_wp2_with (first
              | ((with_reducible refine atSlot 42 ?_); refine wpList_of_wp rfl (owp_ix (o := ⟨some 42, _, _, _, _, _⟩) _ _ rfl Try.elP rfl hrP j rfl rfl hjn ?_); intro b4 o4 hc4; have hd4 := HPG.out b4 o4 hc4; rw [HPV.out] at hd4; clear hc4)
              | (go_at_call 130; (with_reducible refine (copiedSize_any _ _ _).mono ?_); rintro e w7 ⟨rfl, hx7⟩)
              | fail)
            go_meet
            exact ⟨by rw [HE'.out]; rfl, hx7⟩
          · have hE' : E = t := by rw [hEE]; exact Nat.min_eq_left (by omega)
            have HE' := Lib.hid hE'
            clear hEE hE'
            go_wp2_with (first
              | ((with_reducible refine atSlot 42 ?_); refine wpList_of_wp rfl (owp_ix (o := ⟨some 42, _, _, _, _, _⟩) _ _ rfl Try.elP rfl hrP j rfl rfl hjn ?_); intro b4 o4 hc4; have hd4 := HPG.out b4 o4 hc4; rw [HPV.out] at hd4; clear hc4)
              | (go_at_call 130; (with_reducible refine (copiedSize_any _ _ _).mono ?_); rintro e w7 ⟨rfl, hx7⟩)
              | fail)
            go_meet
            exact ⟨by rw [HE'.out], hx7⟩
        · have hks : k.d.size = k.n := by unfold Dp.size; rw [c1]; exact hkl
          rw [hks] at hEE hH3 hB1 hE3
          have hpv : partV k = .iface 89 (.agg #[.slice k.a k.n k.c]) := by unfold partV; rw [if_neg (by rw [c1]; decide), if_pos c2]
          have HPV := Lib.hid hpv
          have u1 : IntKind.i64.wrap ((B : Int) + (k.n : Int)) = (B : Int) + (k.n : Int) := by rw [IntKind.wrap_i64]; omega
          clear hks hpv c1 c2 h1 h2 h3
          by_cases hm : B + k.n < t
          · have hE' : E = B + k.n := by rw [hEE]; exact Nat.min_eq_right (by omega)
            have HE' := Lib.hid hE'
            clear hEE hE'
            go_wp2_with (first
              | ((with_reducible refine atSlot 42 ?_); refine wpList_of_wp rfl (owp_ix (o := ⟨some 42, _, _, _, _, _⟩) _ _ rfl Try.elP rfl hrP j rfl rfl hjn ?_); intro b4 o4 hc4; have hd4 := HPG.out b4 o4 hc4; rw [HPV.out] at hd4; clear hc4)
              | (go_at_call 131; (with_reducible refine (literalSize_any _ _ _ _).mono ?_); rintro e w7 ⟨rfl, hx7⟩)
              | fail)
            go_meet
            exact ⟨by rw [HE'.out]; rfl, hx7⟩
          · have hE' : E = t := by rw [hEE]; exact Nat.min_eq_left (by omega)
            have HE' := Lib.hid hE'
            clear hEE hE'
            go_wp2_with (first
              | ((with_reducible refine atSlot 42 ?_); refine wpList_of_wp rfl (owp_ix (o := ⟨some 42, _, _, _, _, _⟩) _ _ rfl Try.elP rfl hrP j rfl rfl hjn ?_); intro b4 o4 hc4; have hd4 := HPG.out b4 o4 hc4; rw [HPV.out] at hd4; clear hc4)
              | (go_at_call 131; (with_reducible refine (literalSize_any _ _ _ _).mono ?_); rintro e w7 ⟨rfl, hx7⟩)
              | fail)
            go_meet
            exact ⟨by rw [HE'.out], hx7⟩
        · exfalso
          rcases HKOK.out with h | h
          · rw [c1] at h; cases h.1
          · rw [c2] at h; cases h
      case rest =>
        obtain ⟨rfl, hx7⟩ := hcut
        rename World => w7
        have hbk7 : ∀ i, w7.cell? ⟨w.heap.size, i, none⟩ = #[.slice pa N pc, .slice ba N bc][i]? := fun i => cell_of_row _ _ i _ _ _ (hx7.heap' hbx2)
        have hrP7 := hrP.ext hx7
        have hpg : ∀ (b4 o4 : Nat), (∀ i, i < 1 → w7.cell? ⟨b4, o4 + i, none⟩ = (L.map partV)[j * 1 + i]?) → w7.cell? ⟨b4, o4, none⟩ = some (partV k) := fun b4 o4 h => by
          have h0 := h 0 (by decide)
          rw [Nat.add_zero, Nat.mul_one, Nat.add_zero] at h0
          rw [h0, List.getElem?_map, HK.out]; rfl
        have HPG := Lib.hid hpg
        clear hbk hrP hpg
        go_upto_block 2 with (first
          | ((with_reducible refine atSlot 50 ?_); refine wpList_of_wp rfl (owp_ix (o := ⟨some 50, _, _, _, _, _⟩) _ _ rfl Try.elP rfl hrP7 j rfl rfl hjn ?_); intro b5 o5 hc5; have hd5 := HPG.out b5 o5 hc5; clear hc5)
          | fail)
        clear hd5 hbk7 hrP7
        go_cut [13] from 51 to 79 (fun s13 w' => Piece b w' s13 pd ∧ Ext w7 w')
        case first =>
          have hkl := HKI.out.1.len
          have hS := HS.out
          rcases od_cases k hkl with ⟨c1, c2, h1, h2⟩ | ⟨c1, c2, h1, h2, h3⟩ | ⟨c1, c2, -, -⟩
          · have hpv : partV k = .iface 85 (.agg #[.int .i64 k.f, .int .i64 k.z]) := by unfold partV; rw [if_pos c1]
            have hk3 : 0 ≤ k.f ∧ k.f + k.z ≤ b := by
              rcases HKOK.out with h | h
              · exact h.2
              · rw [c2] at h; cases h
            obtain ⟨hk3, hk4⟩ := hk3
            have hpe : pd = ⟨k.f + ((s' - B : Nat) : Int), ((E - s' : Nat) : Int), []⟩ := by
              rw [HPD.out]; unfold cutD; rw [c1, if_pos rfl, show E - B - (s' - B) = E - s' by omega]; rfl
            have hks : k.d.size = k.z.toNat := by unfold Dp.size; rw [c1]; rfl
            rw [hks] at hE3 hH3 hB1
            have u1 : IntKind.i64.wrap (k.f + (s' : Int)) = k.f + (s' : Int) := by rw [IntKind.wrap_i64]; omega
            have u2 : IntKind.i64.wrap (k.f + (s' : Int) - (B : Int)) = k.f + ((s' - B : Nat) : Int) := by rw [IntKind.wrap_i64]; omega
            have u3 : IntKind.i64.wrap ((E : Int) - (s' : Int)) = ((E - s' : Nat) : Int) := by rw [IntKind.wrap_i64]; omega
            have hf : k.f + ((s' - B : Nat) : Int) + ((E - s' : Nat) : Int) ≤ b := by omega
            have HPE := Lib.hid hpe
            have HF3 := Lib.hid hf
            rw [hpv]
            clear hpv hpe hks c1 c2 h2 hkl hf
            go_wp2
            go_meet
            exact ⟨.inl ⟨_, _, rfl, HPE.out, by omega, by omega, HF3.out⟩, Ext.alloc' w7 _⟩
          · have hpv : partV k = .iface 89 (.agg #[.slice k.a k.n k.c]) := by unfold partV; rw [if_neg (by rw [c1]; decide), if_pos c2]
            have hpe : pd = ⟨0, 0, (k.l.drop (s' - B)).take (E - s')⟩ := by
              rw [HPD.out]; unfold cutD; rw [c1, if_neg (by decide), show E - B - (s' - B) = E - s' by omega]; rfl
            have hks : k.d.size = k.n := by unfold Dp.size; rw [c1]; exact hkl
            rw [hks] at hE3 hH3 hB1
            have u1 : IntKind.i64.wrap ((s' : Int) - (B : Int)) = ((s' - B : Nat) : Int) := by rw [IntKind.wrap_i64]; omega
            have u2 : IntKind.i64.wrap ((E : Int) - (B : Int)) = ((s' - B : Nat) : Int) + ((E - s' : Nat) : Int) := by rw [IntKind.wrap_i64]; omega
            have HPE := Lib.hid hpe
            have hsl : s' - B + (E - s') ≤ k.n := by omega
            rw [hpv]
            clear hpv hpe hks c1 c2 h1 h2 hkl
            go_wp2_with (first
              | ((with_reducible refine atSlot 77 ?_); refine wpList_of_wp rfl (owp_sl_lh (o := ⟨some 77, _, _, _, _, _⟩) _ _ _ rfl Try.elB rfl ((HKI.out.1.ext (hx2.trans' (hx7.trans' (Ext.alloc' w7 _)))).row) (s' - B) (E - s') rfl rfl rfl rfl hsl ?_); intro a7 hr7)
              | fail)
            go_meet
            exact ⟨.inr ⟨_, _, _, _, rfl, HPE.out, Bytes.sub hr7, by omega, by omega⟩, Ext.alloc' w7 _⟩
          · exfalso
            rcases HKOK.out with h | h
            · rw [c1] at h; cases h.1
            · rw [c2] at h; cases h
        case rest =>
          obtain ⟨hpc, hx8⟩ := hcut
          rename World => w8
          have E8 := hx7.trans' hx8
          have hB8 := hB2.ext E8
          have htk := take_any wS.heap.size a' n' c' L2 m' b (M + (s' - s)) u13 pd w8 hB8 HW2.out (by omega) hb hpc
          obtain ⟨D2, hD2⟩ : ∃ D2, D2 = addD (L2.map Od.d) pd := ⟨_, rfl⟩
          have HR3 := HR2.out
          have hWn := HW2.out.add HPOK.out
          rw [← hD2] at htk HR3 hWn
          rw [HPS.out, show M + (s' - s) + (E - s') = M + (E - s) by omega] at hWn
          have HWN := Lib.hid hWn
          have HTK := Lib.hid htk
          have HR3 := Lib.hid HR3
          clear hD2 htk hWn hpc hB8
          have hgw2 : wS.heap.size ≤ w2.heap.size := hx2.size
          by_cases hlen : D2.length ≤ 4096
          · have hd : decide (D2.length ≤ 4096) = true := decide_eq_true hlen
            have HLEN := Lib.hid hlen
            clear hlen
            go_wp2_with (first
              | (go_at_call 80; (with_reducible refine HTK.out.mono ?_); rintro e w9 ⟨rfl, hbel9, hkeep9, a9, n9, c9, L9, m9, hB9, hD9⟩; have HD9 := Lib.hid hD9; clear hD9)
              | fail)
            go_roundw
            case rel =>
              refine ⟨E, j + 1, a9, n9, c9, L9, m9, rfl, by go_num, by omega, hE2, ?_, ?_, hB9, by rw [HD9.out]; exact HWN.out, by rw [HD9.out]; exact HLEN.out, by rw [HD9.out]; exact HR3.out, ?_, ?_, ?_, ?_⟩
              · omega
              · rcases HNX.out with h | h
                · exact .inl h
                · exact .inr h
              · exact (hx2.trans' E8).trans hbel9
              · exact (hbl2.trans (E8.mono hgw2)).trans hbel9
              · exact (hk2.trans (KeepB.of_ext E8)).trans hkeep9
              · exact hkeep9 _ _ _ _ (by unfold tyB; decide) (E8.heap' hbx2)
            case measure => simp [intOf]; omega
          · have hd : decide (D2.length ≤ 4096) = false := decide_eq_false hlen
            have hRl : decide (R.length ≤ 4096) = false := decide_eq_false (by have := normD_length_ge (leftF D (j + 1) E t) D2; rw [← HR3.out] at this; omega)
            have HRL := Lib.hid hRl
            clear hRl
            go_wp2_with (first
              | (go_at_call 80; (with_reducible refine HTK.out.mono ?_); rintro e w9 ⟨rfl, hbel9, hkeep9, -⟩)
              | fail)
            go_ret
            exact ⟨by rw [HRL.out]; rfl, (hbl2.trans (E8.mono hgw2)).trans hbel9, (hk2.trans (KeepB.of_ext E8)).trans hkeep9, fun h => absurd h (of_decide_eq_false HRL.out)⟩
end Go.Proofs.Ytcljlglmnagodaa
