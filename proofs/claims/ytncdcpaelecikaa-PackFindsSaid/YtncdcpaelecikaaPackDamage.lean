/-
  The law PackDamage.
-/
import Derived.Test.YtncdcpaelecikaaPackU
import Derived.Test.YtncdcpaelecikaaMathR
import Derived.Laws.BitsAllLaws
namespace Go.Proofs.Ytncdcpaelecikaa
open Go.RowKit

/-! ### A store elsewhere keeps chunks -/
theorem Row.apart {w w' : World} {a : Option Addr} {n c s g : Nat} {xs : List Value} (h : Row w a n c s xs) (hg : w.grownBy w' (some g)) (hne : ∀ p, a = some p → p.block ≠ g) : Row w' a n c s xs :=
  ⟨h.len, h.le, h.max, h.nil, h.at_, fun p hp j u hj => by
    have hc := h.cell p hp j u hj
    have hlt := World.block_lt_of_cell? w _ hc
    have hb : (p.add j).block = p.block := by unfold Addr.add; split <;> rfl
    rw [World.cell?_of_block (hg.block _ hlt (by rw [hb]; intro h; exact hne p hp (by simpa using h)))]
    exact hc⟩
/-- All blocks of a list of chunks lie below B. -/
def Under (B : Nat) (a : Option Addr) (L : List Ck) : Prop := (∀ p, a = some p → p.block < B) ∧ ∀ k ∈ L, ∀ p, k.a = some p → p.block < B
theorem Chunks.apart {w w' : World} {a : Option Addr} {n c g B : Nat} {L : List Ck} (h : Chunks w a n c L) (hU : Under B a L) (hg : w.grownBy w' (some g)) (hB : B ≤ g) : Chunks w' a n c L :=
  ⟨h.1, h.2.1.apart hg (fun p hp => by have := hU.1 p hp; omega), fun k hk => ⟨(h.2.2 k hk).1.apart hg (fun p hp => by have := hU.2 k hk p hp; omega), (h.2.2 k hk).2⟩⟩
theorem OwnCks.under {w : World} {B n c : Nat} {a : Option Addr} {L : List Ck} (h : OwnCks w B a n c L) : Under w.heap.size a L :=
  ⟨fun p hp => (own_block (k := p.block) h.1 (by rw [hp]; rfl)).2, fun k hk p hp => (own_block (k := p.block) (h.2 k hk).1 (by rw [hp]; rfl)).2⟩
theorem set_u8 (l : List UInt8) (i : Nat) (y : UInt8) : (l.map u8).set i (u8 y) = (l.set i y).map u8 := by rw [List.map_set]
theorem xor_u8 (x by_ : UInt8) : Value.int .u8 (bits .xor .u8 (x.toNat : Int) (by_.toNat : Int)) = u8 (x ^^^ by_) := by
  rw [u8_xor_nat _ _ x.toNat_lt by_.toNat_lt]
  simp [u8]
theorem xor_ne {x b : UInt8} (hb : b ≠ 0) : x ^^^ b ≠ x := fun h => hb (by
  have h2 : x ^^^ (x ^^^ b) = x ^^^ x := by rw [h]
  simpa [← UInt8.xor_assoc] using h2)

def DamRel (w : World) (M : List Ck) (kk : Nat) (e i : Value) (wr : World) : Prop := ∃ j : Nat, i = .int .i64 j ∧ e = .int .i64 (offs M j) ∧ j ≤ kk + 1 ∧ Ext w wr

set_option maxRecDepth 100000 in
set_option maxHeartbeats 4000000 in
theorem PackDamage_walk (a1 : Option Addr) (n1 c1 : Nat) (L1 : List Int) (by_ : Nat) (w : World)
    (hl : Row w a1 n1 c1 1 (L1.map (Value.int .i64))) (hli : ∀ x ∈ L1, -9223372036854775808 ≤ x ∧ x ≤ 9223372036854775807) (ha1 : ∀ p, a1 = some p → 0 < n1 → p.block < w.heap.size) (hby : (by_ : Int) ≤ 255) :
    Calls Try.prog 7 #[.slice a1 n1 c1, .int .u8 by_] w (LawPost w) := by
  obtain ⟨bu, rfl⟩ : ∃ bu : UInt8, by_ = bu.toNat := ⟨UInt8.ofNat by_, by simp; omega⟩
  have ht : Tape (w.alloc (.cells #[.slice a1 n1 c1, .int .i64 0] 26)) w.heap.size 0 :=
    ⟨a1, n1, c1, L1, heap_alloc_new w _, hl.ext (Ext.alloc' _ _), ha1, hli⟩
  have hx1 : Ext w (w.alloc (.cells #[.slice a1 n1 c1, .int .i64 0] 26)) := Ext.alloc' _ _
  have HT := Lib.hid ht
  clear ht
  go_enter Try.func7, Try.ntmps7
  go_wp2_with (first
    | (go_at_call 19; (with_reducible refine (made_any w.heap.size 0 _ HT.out (by omega)).mono ?_); rintro e w2 ⟨a2, m, c2, k2, M, rfl, hO2, hm, hA, ht2, hk2, hg2⟩; have hE := asc_enc hA (by have := hO2.len; omega); have hx2 := hx1.rd hg2 (Nat.le_refl _); have hEn := (Encode_any a2 m c2 M _ hO2.chunks (by omega) (hO2.frames_le (by omega))); refine Stop.of ?_))
  have hs : ∀ k ∈ M, k.s ≤ 18446744073709551615 := fun k hk => by have := (hO2.2 k hk).2.2.1; omega
  have hmL := hO2.len
  have hun := hO2.under
  obtain ⟨P, hP⟩ : ∃ P, P = packB M := ⟨_, rfl⟩
  have hE1 : encRes M = (P, 0) := by rw [hP]; exact hE.1
  have hP5 : P.length ≤ 1048576 := by rw [hP]; exact hE.2.2
  have hoff : ∀ i, offs M i ≤ P.length := fun i => by
    have h1 := offs_le (L := M) i
    rw [hP, pack_split]
    have : magicB.length = 4 := rfl
    simp only [List.length_append]
    omega
  have HP := Lib.hid hP
  have HE1 := Lib.hid hE1
  have HEn := Lib.hid hEn
  have HA := Lib.hid hA
  have HSS := Lib.hid hs
  have HML := Lib.hid hmL
  have HOF := Lib.hid hoff
  have HUN := Lib.hid hun
  have HE5 := Lib.hid hE.2.2
  clear hP hE hE1 hEn hA hs hmL HT hoff hun
  refine Stop.out ?_
  go_wp2_with (first
    | (go_at_call 12; (with_reducible refine HEn.out.mono ?_); rintro e w3 hp3; obtain ⟨a3, n3, c3, rfl, ho3, hx3⟩ := hp3.is HE1.out; have hl3 := own_len ho3)
    | (go_at_call 14; (with_reducible refine (known_any _).mono ?_); rintro e w4 ⟨rfl, hx4⟩; refine Stop.of ?_))
  have ht4 := (ht2.ext hx3).ext hx4
  have ho4 := own_ext ho3 hx4
  have hM4 := (hO2.ext hx3).ext hx4
  have hx04 := (hx2.trans' hx3).trans' hx4
  by_cases hm0 : m = 0
  · obtain ⟨q0, q1⟩ := eqI (x := (m : Int)) (y := 0) (by omega)
    refine Stop.out ?_
    go_wp2
    go_ret
    exact ⟨rfl, hx04⟩
  obtain ⟨q0, q1⟩ := neI (x := (m : Int)) (y := 0) (by omega)
  by_cases hb0 : bu.toNat = 0
  · obtain ⟨q2, q3⟩ := eqI (x := (bu.toNat : Int)) (y := 0) (by omega)
    refine Stop.out ?_
    go_wp2
    go_ret
    exact ⟨rfl, hx04⟩
  obtain ⟨q2, q3⟩ := neI (x := (bu.toNat : Int)) (y := 0) (by omega)
  have hlt2 := ht2.lt
  clear ht2 hg2 hx2 hx3 hx4 hp3
  refine Stop.out ?_
  go_wp2_with (go_at_call 20; (with_reducible refine (Next_any w.heap.size k2 m _ ht4 (by omega) (by omega)).mono ?_); rintro e w5 ⟨u, rfl, hu, ht5, hg5⟩; have hum : u < m := (by unfold Below1 at hu; omega); refine Stop.of ?_)
  have hM5 := hM4.kept hg5 (alloc_gt w _)
  have ho5 := own_kept ho4 hg5 hlt2
  have hx5 := hx04.rd hg5 (Nat.le_refl _)
  have hr5 := Row.of_own hM5.1
  obtain ⟨y, hy⟩ : ∃ y, M[u]? = some y := ⟨_, List.getElem?_eq_getElem (by have := HML.out; omega)⟩
  have hyl : y.l.length = y.n := ((hM5.2 y (List.mem_of_getElem? hy)).in.1.len)
  have hyR := HA.out.1 y (List.mem_of_getElem? hy)
  have hy1 : 1 ≤ y.n ∧ y.n ≤ 8192 := by simp only [rightB, Bool.and_eq_true, decide_eq_true_eq] at hyR; omega
  have hyo : y.n + 3 ≤ offs M (u + 1) := by
    have h1 := offs_succ hy
    have h2 := enc_pos y.z.toNat
    have h3 := enc_pos y.s
    simp only [frameB, List.length_cons, List.length_append] at h1
    omega
  have hou := HOF.out (u + 1)
  have HY := Lib.hid hy
  have HYL := Lib.hid hyl
  clear hy hyl hyR hM4 ho4 hx04 ht4 hg5 hu
  refine Stop.out ?_
  go_wp2
  go_loopw [10, 11] (DamRel w5 M u) (fun _ i _ => u + 1 - (intOf i).toNat)
  case atStart => exact ⟨0, rfl, by simp [offs, frames], by omega, Below.refl _ _⟩
  case round =>
    obtain ⟨j, rfl, rfl, hj, hx⟩ := hrel
    rename World => w6
    have hr6 := hr5.ext hx
    by_cases hjn : j ≤ u
    · have hjm : j < m := by omega
      obtain ⟨z, hz⟩ : ∃ z, M[j]? = some z := ⟨_, List.getElem?_eq_getElem (by have := HML.out; omega)⟩
      have hzR := Lib.hid (HA.out.1 z (List.mem_of_getElem? hz))
      have hzI := (hM5.ext hx).chunks.2.2 z (List.mem_of_getElem? hz)
      have hos := offs_succ hz
      have hfl := frame_le hzR.out (HSS.out z (List.mem_of_getElem? hz))
      have hoj := HOF.out j
      have HZ := Lib.hid hz
      clear hz
      go_wp2_with (first
        | ((with_reducible refine atSlot 51 ?_); refine wpList_of_wp rfl (owp_ix (o := ⟨some 51, _, _, _, _, _⟩) _ _ rfl Try.elC rfl hr6 j rfl rfl hjm ?_); intro b9 o9 hc9; have hrg9 := range_get HZ.out hc9; clear hc9)
        | ((with_reducible refine atSlot 52 ?_); refine wpList_of_wp rfl (wp_load_mid (op := ⟨some 52, _, _, _, _, _⟩) 46 _ rfl b9 o9 rfl z.cells _ hrg9 Try.underlying46 rfl (by kernel_rfl) ?_); simp only [Ck.cells])
        | (go_at_call 21; go_loud (refine (Frame_at z.s z.z z.a z.n z.c z.l _ hzI.1 hzR.out hzI.2.2).mono ?_); rintro e w9 ⟨a9, n9, c9, rfl, ho9, hx9⟩; have hl9 := own_len ho9; have hn9 : n9 ≤ 8213 := (by omega)))
      go_roundw
      case rel => exact ⟨j + 1, by go_num, by rw [show ((offs M (j + 1) : Nat) : Int) = (offs M j : Int) + n9 by omega], by omega, hx.trans' hx9⟩
      case measure => simp [intOf]; omega
    · obtain rfl : j = u + 1 := by omega
      have hd : decide (((u + 1 : Nat) : Int) ≤ u) = false := by simp; omega
      have ho6 := own_ext ho5 hx
      have hM6 := hM5.ext hx
      have ht6 := ht5.ext hx
      have hx06 := hx5.trans' hx
      clear hr5 ho5 hM5 ht5 hx5 hx
      go_wp2_with (first
        | ((with_reducible refine atSlot 60 ?_); refine wpList_of_wp rfl (owp_ix (o := ⟨some 60, _, _, _, _, _⟩) _ _ rfl Try.elC rfl hr6 u rfl rfl hum ?_); intro b9 o9 hc9; have hd9 : w6.cell? ⟨b9, o9 + 2, none⟩ = some (.slice y.a y.n y.c) := (hc9 2 (by omega)).trans (cells_get HY.out 2 (by omega)); clear hc9)
        | (go_at_call 20; (with_reducible refine (Next_any w.heap.size (k2 + 1) y.n _ ht6 (by omega) (by omega)).mono ?_); rintro e w7 ⟨v, rfl, hv, ht7, hg7⟩; have hvn : v < y.n := (by unfold Below1 at hv; omega); refine Stop.of ?_))
      have hM7 := hM6.kept hg7 (alloc_gt w _)
      have ho7 := own_kept ho6 hg7 hlt2
      have hx07 := hx06.rd hg7 (Nat.le_refl _)
      have hC7 := hM7.chunks
      obtain ⟨idx, hidx⟩ : ∃ idx, idx = offs M (u + 1) - y.l.length + (y.n - 1 - v) := ⟨_, rfl⟩
      have hyl := HYL.out
      have hie : (offs M (u + 1) : Int) - (1 + (v : Int)) = (idx : Int) := by omega
      have hin : idx < n3 := by omega
      have hdi : decide ((n3 : Int) ≤ idx) = false := by simp; omega
      obtain ⟨x, hx⟩ : ∃ x, y.l[y.n - 1 - v]? = some x := ⟨_, List.getElem?_eq_getElem (by omega)⟩
      obtain ⟨hp1, hp2, hp3, hp4⟩ := pack_damage (y := x ^^^ bu) HA.out HSS.out HE5.out HY.out (u := y.n - 1 - v) (by omega) hx (xor_ne fun h => hb0 (by rw [h]; rfl))
      rw [← HP.out, ← hidx] at hp1 hp2 hp3 hp4
      have hp5 : pkSalv (P.set idx (x ^^^ bu)) = ((M.take u).map Ck.d, offs M u) := by unfold pkSalv; rw [if_pos hp3, hp2]
      obtain ⟨g, cur, rfl, hBg, hhg, hnc, hcur⟩ := own_some ho7 (by omega)
      have hcx : w7.cell? ⟨g, idx, none⟩ = some (.int .u8 (x.toNat : Int)) := by
        rw [cell_of_row w7 g idx _ _ _ hhg, hcur idx (by omega), List.getElem?_map, hp1]; rfl
      have hfx : w7.frozen? ⟨g, idx, none⟩ = false := frozen_none hhg _
      have HD := Lib.hid hp4
      have HV := Lib.hid hp5
      clear hx hp1 hp2 hp3 hp4 hp5 hM6 ho6 ht6 hx06 hg7 hhg hcur hyl hidx hv ht7 hr6 hM7
      refine Stop.out ?_
      go_wp2_with (go_at_call 22; refine Stop.of ?_)
      rw [xor_u8]
      have h8 := own_setCell (j := idx) (v := u8 (x ^^^ bu)) ho7 (by omega)
      rw [set_u8] at h8
      have hg8 := grown_setCell' w7 g idx (u8 (x ^^^ bu))
      have hC8 := hC7.apart HUN.out hg8 hBg
      have hx08 : Ext w (w7.setCell ⟨g, idx, none⟩ (u8 (x ^^^ bu))) := hx07.rd hg8 (by omega)
      have hb8 := Bytes.of_own h8
      clear hcx hfx ho7 hC7 hx07 h8 hg8
      generalize w7.setCell ⟨g, idx, none⟩ (u8 (x ^^^ bu)) = w8 at hC8 hx08 hb8 ⊢
      refine Stop.out ?_
      refine (Decode_any _ n3 c3 (P.set idx (x ^^^ bu)) _ hb8 (by omega)).mono ?_
      rintro e w9 hp9
      obtain ⟨n9, c9, a9, L9, rfl, hO9, hL9, hx9, hn9⟩ := hp9.is HD.out
      have hb9 := hb8.ext hx9
      have hC9 := hC8.ext hx9
      have hr9 := hC9.2.1
      have hum' : u ≤ m := by omega
      have hlt : (M.take u).length = u := by rw [List.length_take]; have := HML.out; omega
      have HLT := Lib.hid hlt
      have hbl9 := hb9.len
      clear hlt
      go_wp2_with (first
        | (go_at_call 16; (with_reducible refine (Salvage_any _ n3 c3 (P.set idx (x ^^^ bu)) _ hb9 (by omega)).mono ?_); rintro e w10 hp10; obtain ⟨n10, c10, a10, L10, rfl, hO10, hL10, hx10, hn10⟩ := hp10.is HV.out; have hr10 := hr9.ext hx10; have hC10 := hC9.ext hx10)
        | ((with_reducible refine atSlot 94 ?_); refine wpList_of_wp rfl (owp_sl_hi (o := ⟨some 94, _, _, _, _, _⟩) _ _ rfl Try.elC rfl hr10 u rfl rfl hum' ?_); intro a11 hr11; rw [cells_take] at hr11)
        | (go_at_call 18; refine (Same_any a10 n10 c10 a11 u _ L10 (M.take u) _ hO10.chunks ⟨HLT.out, hr11, fun k hk => hC10.2.2 k (List.mem_of_mem_take hk)⟩ hL10 (by omega)).mono ?_; rintro e w12 ⟨rfl, hx12⟩))
      go_ret
      exact ⟨rfl, ((hx08.trans' hx9).trans' hx10).trans' hx12⟩
end Go.Proofs.Ytncdcpaelecikaa
