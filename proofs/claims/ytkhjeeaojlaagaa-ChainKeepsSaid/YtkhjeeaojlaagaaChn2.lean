/-
  Several texts in one: ChaK, ChaL, ChaM, ChaO, ChaP.
-/
import Derived.Test.YtkhjeeaojlaagaaChn1
import Derived.Test.YtkhjeeaojlaagaaOrdU
import Derived.Test.YtkhjeeaojlaagaaBts
import Derived.Test.YtkhjeeaojlaagaaDelDd
import Derived.Test.YtkhjeeaojlaagaaDelT
/-
  Chains, the reference's: the contents and depths of the links, or the error.
-/
namespace Go.Proofs.Ytkhjeeaojlaagaa
open Go.RowKit

def deps (S : List (List UInt8 × Nat)) : List Value := S.map fun y => .int .i64 (y.2 : Int)
def StR (w : World) (S : List (List UInt8 × Nat)) (er : Int) (e : Ending) (w' : World) : Prop :=
  ∃ (a a' : Option Addr) (n c c' : Nat) (BL : List Bt), e = .returned (.tuple #[.slice a n c, .slice a' n c', .int .i64 er]) ∧ OwnBts w' w.heap.size a n c BL ∧ BL.map Bt.l = S.map Prod.fst ∧ w'.ownsRow w.heap.size 3 1 (.slice a' n c') n (deps S) ∧ Ext w w'
def SaRel (w : World) (L : List Ln) (cs ds i : Value) (wr : World) : Prop :=
  ∃ (j c c' : Nat) (a a' : Option Addr) (BL : List Bt) (S : List (List UInt8 × Nat)), i = .int .i64 j ∧ cs = .slice a j c ∧ ds = .slice a' j c' ∧ j ≤ L.length ∧ Val (L.take j) S ∧ OwnBts wr w.heap.size a j c BL ∧ BL.map Bt.l = S.map Prod.fst ∧ wr.ownsRow w.heap.size 3 1 (.slice a' j c') j (deps S) ∧ Ext w wr
theorem deps_one (S : List (List UInt8 × Nat)) : ∀ u ∈ deps S, u.oneCell' = true := by
  intro u hu
  obtain ⟨k, -, rfl⟩ := List.mem_map.1 hu
  rfl
theorem bt_of {BL : List Bt} {S : List (List UInt8 × Nat)} {i : Nat} {ct : List UInt8} {dt : Nat} (h : BL.map Bt.l = S.map Prod.fst) (hi : S[i]? = some (ct, dt)) : ∃ k, BL[i]? = some k ∧ k.l = ct := by
  have h1 := congrArg (fun l => l[i]?) h
  simp only [List.getElem?_map, hi, Option.map_some] at h1
  cases hk : BL[i]? with
  | none => rw [hk] at h1; cases h1
  | some k => rw [hk] at h1; exact ⟨k, rfl, by simpa using h1⟩

theorem dp_cell {w : World} {b o i : Nat} {T : List (List UInt8 × Nat)} {v : Value} (hk : (deps T)[i]? = some v) (hc : ∀ j, j < 1 → w.cell? ⟨b, o + j, none⟩ = (deps T)[i * 1 + j]?) : w.cell? ⟨b, o, none⟩ = some v := by
  have h := hc 0 (by decide)
  rw [Nat.add_zero, Nat.mul_one, Nat.add_zero, hk] at h
  exact h
def Sx (w wr : World) (ca : Option Addr) (n1 cc : Nat) (BL : List Bt) (da : Option Addr) (n2 dc : Nat) (T : List (List UInt8 × Nat)) : Prop :=
  OwnBts wr w.heap.size ca n1 cc BL ∧ wr.ownsRow w.heap.size 3 1 (.slice da n2 dc) n2 (deps T) ∧ Ext w wr
section
variable {w wr w' : World} {ca da : Option Addr} {n1 cc n2 dc : Nat} {BL : List Bt} {T : List (List UInt8 × Nat)}
theorem Sx.al (h : Sx w wr ca n1 cc BL da n2 dc T) (hx : Ext wr w') : Sx w w' ca n1 cc BL da n2 dc T := ⟨h.1.ext hx, own_ext h.2.1 hx, h.2.2.trans' hx⟩
theorem Sx.cs (h : Sx w wr ca n1 cc BL da n2 dc T) {y : Bt} (hd : wr.ownsRow w.heap.size 5 1 (.slice y.a y.n y.c) y.n (y.l.map u8)) (hb : y.n ≤ 140737488355328) (hg : wr.grownBy w' (blockOf ca)) {a' : Option Addr} {c' : Nat}
    (ho : w'.ownsRow w.heap.size 28 1 (.slice a' (n1 + 1) c') (n1 + 1) (BL.map Bt.v ++ [y.v])) : Sx w w' a' (n1 + 1) c' (BL ++ [y]) da n2 dc T :=
  ⟨h.1.push hg ho hd hb, own_app_other h.2.1 h.1.own (by decide) hg, below_app h.2.2 h.1.own hg h.2.2.size⟩
theorem Sx.ds (h : Sx w wr ca n1 cc BL da n2 dc T) (l : List UInt8) {d : Nat} (hg : wr.grownBy w' (blockOf da)) {a' : Option Addr} {c' : Nat}
    (ho : w'.ownsRow w.heap.size 3 1 (.slice a' (n2 + 1) c') (n2 + 1) (deps T ++ [.int .i64 (d : Int)])) : Sx w w' ca n1 cc BL a' (n2 + 1) c' (T ++ [(l, d)]) := by
  refine ⟨⟨h.1.len, own_app_other h.1.own h.2.1 (by decide) hg, fun y hy => ⟨own_app_other (h.1.dat y hy).1 h.2.1 (by decide) hg, (h.1.dat y hy).2⟩⟩, ?_, below_app h.2.2 h.2.1 hg h.2.2.size⟩
  unfold deps at ho ⊢
  rw [List.map_append]
  exact ho
/-- The content's row, over an append to the depths. -/
theorem Sx.row (h : Sx w wr ca n1 cc BL da n2 dc T) {B n c : Nat} {a : Option Addr} {xs : List Value} (hd : wr.ownsRow B 5 1 (.slice a n c) n xs) (hg : wr.grownBy w' (blockOf da)) : w'.ownsRow B 5 1 (.slice a n c) n xs :=
  own_app_other hd h.2.1 (by decide) hg
end

def SaMid (w : World) (j : Nat) (BL : List Bt) (T : List (List UInt8 × Nat)) (v : Nat → Value) (w' : World) : Prop :=
  ∃ (a7 a9 : Option Addr) (c7 c9 : Nat), v 5 = .slice a7 (j + 1) c7 ∧ v 6 = .slice a9 (j + 1) c9 ∧ Sx w w' a7 (j + 1) c7 BL a9 (j + 1) c9 T
def RS (w : World) (da : Option Addr) (j dc : Nat) (T : List (List UInt8 × Nat)) (bx : Nat) (cs : Array Value) (w' : World) : Prop :=
  w'.ownsRow w.heap.size 3 1 (.slice da j dc) j (deps T) ∧ w'.heap[bx]? = some (.cells cs 45 (0, 0))
section
variable {w wa wb : World} {da ca : Option Addr} {j dc cc n : Nat} {T : List (List UInt8 × Nat)} {bx : Nat} {cs : Array Value}
theorem RS.ext (h : RS w da j dc T bx cs wa) (hx : Ext wa wb) : RS w da j dc T bx cs wb := ⟨own_ext h.1 hx, hx.heap' h.2⟩
theorem RS.grow (h : RS w da j dc T bx cs wa) {xs : List Value} (hO : wa.ownsRow w.heap.size 28 1 (.slice ca n cc) n xs) (hg : wa.grownBy wb (blockOf ca)) (hb : ∀ b, blockOf ca = some b → b ≠ bx) : RS w da j dc T bx cs wb := by
  refine ⟨own_app_other h.1 hO (by decide) hg, ?_⟩
  cases hk : blockOf ca with
  | none => rw [hk] at hg; exact (Ext.of_grown hg).heap' h.2
  | some b => rw [hk] at hg; exact heap_kept h.2 hg (fun e => hb b hk e.symm)
theorem RS.at_ (h : RS w da j dc T bx cs wa) (k : Nat) : wa.cell? ⟨bx, k, none⟩ = cs[k]? := cell_of_row wa bx k _ _ _ h.2
end

set_option maxRecDepth 100000 in
set_option maxHeartbeats 8000000 in
theorem state_any (a : Option Addr) (n c : Nat) (L : List Lk) (w : World) (hL : Links w a n c L) (hn : n ≤ 140737488355328) {S : List (List UInt8 × Nat)} {er : Int} (hr : stC (L.map Lk.d) = (S, er)) :
    Calls Try.prog 34 #[.slice a n c] w (StR w S er) := by
  have HLN := Lib.hid hL.1
  have HR := Lib.hid hr
  have hrow := hL.2.1
  clear hr
  by_cases hbig : 256 < n
  · have hd : decide ((256 : Int) < n) = true := decide_eq_true (by omega)
    have hr := HR.out
    unfold stC at hr
    rw [if_pos (by rw [List.length_map, HLN.out]; exact hbig)] at hr
    cases hr
    go_enter Try.func34, Try.ntmps34
    go_wp2
    go_ret3
    exact ⟨none, none, 0, 0, 0, [], rfl, OwnBts.nil _ _, rfl, own_nil _ _ _ _, Below.refl _ _⟩
  have hn256 : n ≤ 256 := by omega
  go_enter Try.func34, Try.ntmps34
  go_wp2
  go_loopw [5, 6, 7] (SaRel w (L.map Lk.d)) (fun _ _ i _ => n - (intOf i).toNat)
  case atStart => exact ⟨0, 0, 0, none, none, [], [], rfl, rfl, rfl, Nat.zero_le _, Val.nil, OwnBts.nil _ _, rfl, own_nil _ _ _ _, Below.refl _ _⟩
  case round =>
    obtain ⟨j, cc, dc, ca, da, BL, T, rfl, rfl, rfl, hj, hV, hB, hBT, hD, hx4⟩ := hrel
    rename World => w4
    rw [List.length_map, HLN.out] at hj
    by_cases hjn : j < n
    rotate_left
    · obtain rfl : j = n := by omega
      rw [List.take_of_length_le (by rw [List.length_map, HLN.out]; exact Nat.le_refl _)] at hV
      have hr := HR.out
      rw [hV.st (by rw [List.length_map, HLN.out]; exact hn256)] at hr
      cases hr
      have HB := Lib.hid hB
      have HD := Lib.hid hD
      clear hV hB hD
      go_wp2
      go_ret3
      exact ⟨ca, da, j, cc, dc, BL, rfl, HB.out, hBT, HD.out, hx4⟩
    obtain ⟨k, hk⟩ : ∃ k, L[j]? = some k := ⟨_, List.getElem?_eq_getElem (by have := HLN.out; omega)⟩
    have hkI := (hL.2.2 k (List.mem_of_getElem? hk)).ext hx4
    have hkd : (L.map Lk.d)[j]? = some k.d := by rw [List.getElem?_map, hk]; rfl
    have hr4 := hrow.ext hx4
    obtain ⟨hkb, hkn, hki⟩ := hkI
    have hki' : -9223372036854775808 ≤ k.b ∧ k.b ≤ 9223372036854775807 := hki
    have hTl : T.length = j := by rw [hV.1, List.length_take, List.length_map, HLN.out]; omega
    have HK := Lib.hid hk
    have hkl := hkb.len
    have hstop : ∀ e, (lnS T k.d).2 = e → e ≠ 0 → S = [] ∧ er = e := fun e h1 h2 => by
      have h3 := stC_stop (by rw [List.length_map, HLN.out]; exact hn256) hV hkd h1 h2
      have hr := HR.out
      rw [h3] at hr
      cases hr; exact ⟨rfl, rfl⟩
    have hnext : ∀ y, lnS T k.d = (y, 0) → Val ((L.map Lk.d).take (j + 1)) (T ++ [y]) := fun y h => val_next hV hkd h
    have HST := Lib.hid hstop
    have HNX := Lib.hid hnext
    have HBT := Lib.hid hBT
    have HS := Lib.hid (show Sx w w4 ca j cc BL da j dc T from ⟨hB, hD, hx4⟩)
    have HKB := Lib.hid hkb
    have HTL := Lib.hid hTl
    have HVT := Lib.hid hV
    clear hk hkd hstop hnext hBT hB hD hkb hTl hki hV
    obtain ⟨kb, ka, kn, kc, kl⟩ := k
    have hcs := lnS_cases T ⟨kb, kl⟩
    have HCS := Lib.hid hcs
    clear hcs
    simp only at hkn hki' hkl
    have hE5 := Ext.alloc' w4 (.cells #[.int .i64 kb, .slice ka kn kc] 45)
    have hbx := heap_alloc_new w4 (.cells #[.int .i64 kb, .slice ka kn kc] 45)
    rcases HCS.out with ⟨h1, h2⟩ | ⟨h1, h2, h3⟩ | ⟨h1, h2, h3⟩ | ⟨jj, ct, dt, h1, h2, h3, h4⟩
    · -- a base out of reach
      obtain ⟨rfl, rfl⟩ := HST.out 270 (by show (lnS T ⟨kb, kl⟩).2 = 270; rw [h2]) (by decide)
      rw [HTL.out] at h1
      have h1' : kb < -1 ∨ (j : Int) ≤ kb := h1
      clear h1 h2 hbx
      rcases h1' with h1 | h1
      · have hd : decide (kb < -1) = true := decide_eq_true h1
        go_wp2_with (first
          | ((with_reducible refine atSlot 24 ?_); refine wpList_of_wp rfl (owp_ix (o := ⟨some 24, _, _, _, _, _⟩) _ _ rfl Try.elLk rfl hr4 j rfl rfl hjn ?_); intro b3 o3 hc3; have hrg3 := lk_range HK.out hc3; clear hc3)
          | ((with_reducible refine atSlot 25 ?_); refine wpList_of_wp rfl (wp_load_mid (op := ⟨some 25, _, _, _, _, _⟩) 45 _ rfl b3 o3 rfl _ _ hrg3 Try.underlying45 rfl (by kernel_rfl) ?_); simp only [Lk.cells]; clear hrg3)
          | fail)
        go_ret3
        exact ⟨none, none, 0, 0, 0, [], rfl, OwnBts.nil _ _, rfl, own_nil _ _ _ _, hx4.trans' hE5⟩
      · have hd : decide (kb < -1) = false := decide_eq_false (by omega)
        have hd2 : decide ((j : Int) ≤ kb) = true := decide_eq_true h1
        go_wp2_with (first
          | ((with_reducible refine atSlot 24 ?_); refine wpList_of_wp rfl (owp_ix (o := ⟨some 24, _, _, _, _, _⟩) _ _ rfl Try.elLk rfl hr4 j rfl rfl hjn ?_); intro b3 o3 hc3; have hrg3 := lk_range HK.out hc3; clear hc3)
          | ((with_reducible refine atSlot 25 ?_); refine wpList_of_wp rfl (wp_load_mid (op := ⟨some 25, _, _, _, _, _⟩) 45 _ rfl b3 o3 rfl _ _ hrg3 Try.underlying45 rfl (by kernel_rfl) ?_); simp only [Lk.cells]; clear hrg3)
          | fail)
        go_ret3
        exact ⟨none, none, 0, 0, 0, [], rfl, OwnBts.nil _ _, rfl, own_nil _ _ _ _, hx4.trans' hE5⟩
    · obtain ⟨rfl, rfl⟩ := HST.out 274 (by show (lnS T ⟨kb, kl⟩).2 = 274; rw [h3]) (by decide)
      obtain rfl : kb = -1 := h1
      have h2' : 1048576 < kn := by rw [← hkl]; exact h2
      have hd5 : decide ((1048576 : Int) < kn) = true := decide_eq_true (by omega)
      clear h2 h3 hbx
      go_wp2_with (first
        | ((with_reducible refine atSlot 24 ?_); refine wpList_of_wp rfl (owp_ix (o := ⟨some 24, _, _, _, _, _⟩) _ _ rfl Try.elLk rfl hr4 j rfl rfl hjn ?_); intro b3 o3 hc3; have hrg3 := lk_range HK.out hc3; clear hc3)
        | ((with_reducible refine atSlot 25 ?_); refine wpList_of_wp rfl (wp_load_mid (op := ⟨some 25, _, _, _, _, _⟩) 45 _ rfl b3 o3 rfl _ _ hrg3 Try.underlying45 rfl (by kernel_rfl) ?_); simp only [Lk.cells]; clear hrg3)
        | fail)
      go_ret3
      exact ⟨none, none, 0, 0, 0, [], rfl, OwnBts.nil _ _, rfl, own_nil _ _ _ _, hx4.trans' hE5⟩
    · obtain rfl : kb = -1 := h1
      have h2' : kn ≤ 1048576 := by rw [← hkl]; exact h2
      have hd5 : decide ((1048576 : Int) < kn) = false := decide_eq_false (by omega)
      have HV := Lib.hid (HNX.out _ h3)
      have hw4 := hx4.size
      clear h2 h3 HST HNX HCS hbx hE5
      have hE5 := Ext.alloc' w4 (.cells #[.int .i64 (-1), .slice ka kn kc] 45)
      have S5 := HS.out.al hE5
      have HB5 := Lib.hid (HKB.out.ext hE5)
      go_upto_region 14 with (first
        | ((with_reducible refine atSlot 24 ?_); refine wpList_of_wp rfl (owp_ix (o := ⟨some 24, _, _, _, _, _⟩) _ _ rfl Try.elLk rfl hr4 j rfl rfl hjn ?_); intro b3 o3 hc3; have hrg3 := lk_range HK.out hc3; clear hc3)
        | ((with_reducible refine atSlot 25 ?_); refine wpList_of_wp rfl (wp_load_mid (op := ⟨some 25, _, _, _, _, _⟩) 45 _ rfl b3 o3 rfl _ _ hrg3 Try.underlying45 rfl (by kernel_rfl) ?_); simp only [Lk.cells]; clear hrg3)
        | fail)
      have hbx := fun j => cell_of_row (w4.alloc (.cells #[.int .i64 (-1), .slice ka kn kc] 45)) w4.heap.size j _ _ _ (heap_alloc_new w4 (.cells #[.int .i64 (-1), .slice ka kn kc] 45))
      clear hE5
      generalize w4.heap.size = bx at hbx ⊢
      generalize w4.alloc (.cells #[.int .i64 (-1), .slice ka kn kc] 45) = w5 at hbx S5 HB5 ⊢
      have HS5 := Lib.hid S5
      clear S5 hr4 hx4
      go_wp2_with (first
        | ((with_reducible refine atSlot 45 ?_); refine wpList_of_wp rfl (owp_clone (o := ⟨some 45, _, _, _, _, _⟩) _ _ rfl Try.elB rfl rfl HB5.out.row (u8_oneCell _) (by omega) ?_); intro a6 c6 w6 ho6 hx6; have HS6 := Lib.hid (HS5.out.al (hx6.trans' (Ext.alloc' w6 (.cells #[.slice a6 kn c6] 28)))); have HY6 := Lib.hid (own_ext (own_base ho6 HS5.out.2.2.size) (Ext.alloc' w6 (.cells #[.slice a6 kn c6] 28))); clear hbx ho6)
        | ((with_reducible refine atSlot 47 ?_); refine wpList_of_wp rfl (owp_app (o := ⟨some 47, _, _, _, _, _⟩) _ _ rfl Try.elBs rfl HS6.out.1.own rfl (Row.one w6 (.slice a6 kn c6) 28) (fun q hq => bt_oneCell [⟨a6, kn, c6, []⟩] q (by simpa [Bt.v] using hq)) (by omega) (by unfold maxLen; omega) HS6.out.2.2.size ?_); intro a7 c7 w7 ho7 hg7; have HS7 := Lib.hid ((HS6.out.cs (y := ⟨a6, kn, c6, kl⟩) HY6.out (by show kn ≤ _; omega) hg7 ho7).al (Ext.alloc' w7 (.cells #[.int .i64 0] 3))); clear ho7 hg7)
        | ((with_reducible refine atSlot 50 ?_); refine wpList_of_wp rfl (owp_app (o := ⟨some 50, _, _, _, _, _⟩) _ _ rfl Try.elI rfl HS7.out.2.1 rfl (Row.one w7 (.int .i64 0) 3) (fun q hq => by simp at hq; subst hq; rfl) (by omega) (by unfold maxLen; omega) HS7.out.2.2.size ?_); intro a8 c8 w8 ho8 hg8; have HS8 := Lib.hid (HS7.out.ds kl (d := 0) hg8 ho8); clear ho8 hg8)
        | fail)
      go_roundw
      case rel => exact ⟨j + 1, c7, c8, a7, a8, _, _, by go_num, rfl, rfl, by rw [List.length_map, HLN.out]; omega, HV.out, HS8.out.1, by rw [List.map_append, List.map_append, HBT.out]; rfl, HS8.out.2.1, HS8.out.2.2⟩
      case measure => simp [intOf]; omega
    · obtain rfl : kb = (jj : Int) := h1
      rw [HTL.out] at h2
      have hjT : jj < T.length := by rw [HTL.out]; exact h2
      have hct : ct.length ≤ 1048576 ∧ dt ≤ 8 := HVT.out.size (List.mem_of_getElem? h3)
      obtain ⟨hct, hdt⟩ := hct
      obtain ⟨k2, hk2, hkl2⟩ := bt_of HBT.out h3
      have hbI := HS.out.1.bts.2.2 k2 (List.mem_of_getElem? hk2)
      obtain ⟨a2, n2, c2, l2⟩ := k2
      obtain rfl : l2 = ct := hkl2
      obtain ⟨hb2, hn2⟩ := hbI
      simp only at hn2
      have hl2 : l2.length = n2 := hb2.len
      have hdd : (deps T)[jj]? = some (.int .i64 (dt : Int)) := by unfold deps; rw [List.getElem?_map, h3]; rfl
      obtain ⟨D, e0, hdr⟩ : ∃ D e0, decDRes (n2 : Int) kl = (D, e0) := ⟨_, _, rfl⟩
      have hfew := decD_few (n2 : Int) kl
      rw [hdr] at hfew
      have S5 := HS.out.al hE5
      have HB5 := Lib.hid (HKB.out.ext hE5)
      have HB2 := Lib.hid (hb2.ext hE5)
      have HDR := Lib.hid hdr
      have HK2 := Lib.hid hk2
      have HDD := Lib.hid hdd
      have H4 := Lib.hid h4
      have hd1 : decide ((jj : Int) < -1) = false := decide_eq_false (by omega)
      have hd2 : decide ((j : Int) ≤ (jj : Int)) = false := decide_eq_false (by omega)
      obtain ⟨p1, p2⟩ := neI (x := (jj : Int)) (y := -1) (by omega)
      clear h3 h4 hb2 hdr hk2 hdd HCS
      go_wp2_with (first
        | ((with_reducible refine atSlot 24 ?_); refine wpList_of_wp rfl (owp_ix (o := ⟨some 24, _, _, _, _, _⟩) _ _ rfl Try.elLk rfl hr4 j rfl rfl hjn ?_); intro b3 o3 hc3; have hrg3 := lk_range HK.out hc3; clear hc3)
        | ((with_reducible refine atSlot 25 ?_); refine wpList_of_wp rfl (wp_load_mid (op := ⟨some 25, _, _, _, _, _⟩) 45 _ rfl b3 o3 rfl _ _ hrg3 Try.underlying45 rfl (by kernel_rfl) ?_); simp only [Lk.cells]; clear hrg3)
        | fail)
      have hbc : ∀ b, blockOf ca = some b → b ≠ w4.heap.size := fun b hb => Nat.ne_of_lt (own_block HS.out.1.own b hb).2
      have hcx : ∀ w', Ext (w4.alloc (.cells #[.int .i64 (jj : Int), .slice ka kn kc] 45)) w' → ∀ j, w'.cell? ⟨w4.heap.size, j, none⟩ = #[.int .i64 (jj : Int), .slice ka kn kc][j]? := fun w' h j => cell_of_row w' w4.heap.size j _ _ _ (h.heap' hbx)
      clear hE5 p1 p2 hd1 hd2
      generalize w4.heap.size = bx at hcx hbx hbc ⊢
      generalize w4.alloc (.cells #[.int .i64 (jj : Int), .slice ka kn kc] 45) = w5 at hcx hbx S5 HB5 HB2 ⊢
      have HBX := Lib.hid hbx
      have HBC := Lib.hid hbc
      clear hbx hbc
      have HS5 := Lib.hid S5
      have HCX := Lib.hid hcx
      clear S5 hr4 hx4 hcx
      have E5 := Ext.drew' w5
      refine wp_region_e [] (.qs [0, 1, 2, 3, 4, 5, 6, 7] (.l 8 (.qs [9, 10, 11, 12, 13] .nil))) (by kernel_rfl) (by kernel_rfl) ?_
      iterate 2 ((refine wpY_q rfl rfl _ (fun w' hx' => by go_simp; try rfl) ?_; go_simp))
      refine wpY_q rfl rfl (.int .i64 (jj : Int)) (fun w' hx' => by have hb' := HCX.out w' hx' 0; go_simp; try rfl) ?_
      go_simp
      refine wpY_ix rfl rfl (.tmp 52) (.tmp 54) rfl Try.elBs rfl (fun w' h => (HS5.out.1.ext h).bts.2.1) jj rfl rfl (by omega) ?_
      intro b6 o6 hc6
      have hd6 : ∀ w', Ext w5 w' → w'.cell? ⟨b6, o6, none⟩ = some (.slice a2 n2 c2) := fun w' h => bt_cell HK2.out (fun j hj => hc6 j hj w' h)
      clear hc6
      refine wpY_q rfl rfl (.slice a2 n2 c2) (fun w' hx' => by have hb' := hd6 w' hx'; go_simp; try rfl) ?_
      go_simp
      iterate 2 ((refine wpY_q rfl rfl _ (fun w' hx' => by go_simp; try rfl) ?_; go_simp))
      refine wpY_q rfl rfl (.slice ka kn kc) (fun w' hx' => by have hb' := HCX.out w' hx' 1; go_simp; try rfl) ?_
      go_simp
      clear hd6
      refine wpY_l rfl rfl ?_
      go_simp
      refine (refDecode_any (n2 : Int) ka kn kc kl _ (HB5.out.ext E5) hkn HDR.out).mono ?_
      rintro e w6 ⟨a6, n6, c6, L6, rfl, hO6, hD6, -, hx6⟩
      have E6 := E5.trans' hx6
      refine ⟨E6, ?_⟩
      iterate 5 ((refine wpY_q rfl rfl _ (fun w' hx' => by go_simp; try rfl) ?_; go_simp))
      refine wpY_nil ?_
      go_simp
      have hq := HCX.out w6 E6
      have HS6 := Lib.hid (HS5.out.al E6)
      have HO6 := Lib.hid hO6.ops
      have HD6 := Lib.hid hD6
      have hn6 : n6 ≤ 4096 := by rw [← hO6.len, ← List.length_map (f := Od.d), hD6]; exact hfew
      have HB6 := Lib.hid (HB2.out.ext E6)
      clear hO6 hD6 hfew HB5 HB2 E5 hx6
      rcases H4.out with ⟨g1, g2⟩ | ⟨os, g1, g2, g3⟩ | ⟨os, g1, g2, g3⟩
      · obtain ⟨rfl, rfl⟩ := HST.out 270 (by show (lnS T ⟨(jj : Int), kl⟩).2 = 270; rw [g2]) (by decide)
        have hdr := HDR.out
        rw [hl2] at g1
        unfold decDRes at hdr
        rw [g1] at hdr
        cases hdr
        clear g1 g2
        go_wp2
        go_ret3
        exact ⟨none, none, 0, 0, 0, [], rfl, OwnBts.nil _ _, rfl, own_nil _ _ _ _, HS6.out.2.2⟩
      · obtain ⟨rfl, rfl⟩ := HST.out 271 (by show (lnS T ⟨(jj : Int), kl⟩).2 = 271; rw [g3]) (by decide)
        have hdr := HDR.out
        rw [hl2] at g1
        unfold decDRes at hdr
        rw [g1] at hdr
        cases hdr
        have hd8 : decide ((8 : Int) ≤ (dt : Int)) = true := decide_eq_true (by omega)
        have hri := Row.of_own HS6.out.2.1
        clear g1 g2 g3
        go_wp2_with (first
          | ((with_reducible refine atSlot 68 ?_); refine wpList_of_wp rfl (owp_ix (o := ⟨some 68, _, _, _, _, _⟩) _ _ rfl Try.elI rfl hri jj rfl rfl (by omega) ?_); intro b7 o7 hc7; have hd7 := dp_cell HDD.out hc7; clear hc7)
          | fail)
        go_ret3
        exact ⟨none, none, 0, 0, 0, [], rfl, OwnBts.nil _ _, rfl, own_nil _ _ _ _, HS6.out.2.2⟩
      · have hdr := HDR.out
        have HV := Lib.hid (HNX.out _ g3)
        rw [hl2] at g1
        have hck := decD_ck g1
        unfold decDRes at hdr
        rw [g1] at hdr
        cases hdr
        have hap : apRes l2 (L6.map Od.d) = (appD l2 (L6.map Od.d), 0) := by rw [HD6.out]; unfold apRes; rw [hl2, hck.1]; rfl
        have HAP := Lib.hid hap
        have hal : (appD l2 (L6.map Od.d)).length ≤ 1048576 := by rw [HD6.out, appD_length (by rw [hl2]; exact hck.2.2)]; exact hck.2.1
        have hd8 : decide ((8 : Int) ≤ (dt : Int)) = false := decide_eq_false (by omega)
        have hri := Row.of_own HS6.out.2.1
        have hrb := HS6.out.1.bts.2.1
        clear g1 g3 hck hap HST HNX
        go_wp2_with (first
          | ((with_reducible refine atSlot 68 ?_); refine wpList_of_wp rfl (owp_ix (o := ⟨some 68, _, _, _, _, _⟩) _ _ rfl Try.elI rfl hri jj rfl rfl (by omega) ?_); intro b7 o7 hc7; have hd7 := dp_cell HDD.out hc7; clear hc7)
          | ((with_reducible refine atSlot 75 ?_); refine wpList_of_wp rfl (owp_ix (o := ⟨some 75, _, _, _, _, _⟩) _ _ rfl Try.elBs rfl hrb jj rfl rfl (by omega) ?_); intro b8 o8 hc8; have hd9 := bt_cell HK2.out hc8; clear hc8)
          | (go_at_call 53; (with_reducible refine (refApply_any a2 n2 c2 l2 a6 n6 c6 L6 _ HB6.out HO6.out hn2 (by omega) HAP.out).mono ?_); rintro e w8 ⟨a8, n8, c8, rfl, ho8, hx8⟩)
          | fail)
        have HS8 := Lib.hid (HS6.out.al hx8)
        have hl8 := own_len ho8
        have hY8 : w8.ownsRow w.heap.size 5 1 (.slice a8 n8 c8) n8 ((appD l2 (L6.map Od.d)).map Proofs.Ytkhjeeaojlaagaa.u8) := own_base ho8 HS6.out.2.2.size
        have hn8 : n8 ≤ 1048576 := by omega
        obtain ⟨yl, hyl⟩ : ∃ yl, yl = appD l2 (L6.map Od.d) := ⟨_, rfl⟩
        rw [← hyl] at hY8
        obtain ⟨d1, hd1⟩ : ∃ d1, d1 = dt + 1 := ⟨_, rfl⟩
        have hV1 := HV.out
        rw [← HD6.out, ← hyl, ← hd1] at hV1
        have HV1 := Lib.hid hV1
        have hwd : IntKind.i64.wrap ((dt : Int) + 1) = (d1 : Int) := by rw [IntKind.wrap_i64]; omega
        have E8 := Ext.drew' w8
        have R8 := Lib.hid (show RS w da j dc T bx #[.int .i64 (jj : Int), .slice ka kn kc] w8.drew from ⟨own_ext HS8.out.2.1 E8, E8.heap' (hx8.heap' (E6.heap' HBX.out))⟩)
        have T8 := Lib.hid (HS8.out.al E8)
        have F8 := Lib.hid (own_ext hY8 E8)
        clear ho8 hal hl8 hri hrb hq hyl HAP hY8 hV1 HV hd1 HS8 E8 E6 hx8 HB6 HO6 HD6 HDR
        go_wp2
        refine wp_region_u (RS w da j dc T bx #[.int .i64 (jj : Int), .slice ka kn kc]) R8.out [12, 13, 14] (.qs [0, 1, 4, 5, 6, 7, 8, 9, 10] (.alt 2 (.alt 3 (.l 11 (.l 12 (.l 13 (.l 14 .nil)))) (.alt 11 (.l 3 (.l 12 (.l 13 (.l 14 .nil)))) .stop)) (.alt 11 (.l 2 (.l 3 (.l 12 (.l 13 (.l 14 .nil))))) .stop))) (by kernel_rfl) (by kernel_rfl) ?_
        refine wpZ_midA (Meets [5, 6, 81, 82, 83, 84, 85, 86, 87, 88, 89, 90, 91, 92, 93] (SaMid w j (BL ++ [⟨a8, n8, c8, yl⟩]) (T ++ [(yl, d1)]))) ?_ ?_
        · iterate 5 ((refine wpZ_q rfl rfl _ (fun w' hx' => by go_simp; try rfl) ?_; go_simp))
          refine wpZ_q rfl rfl (.int .i64 (jj : Int)) (fun w' hx' => by have hb' := hx'.at_ 0; go_simp; try rfl) ?_
          go_simp
          refine wpZ_ix rfl rfl (.tmp 86) (.tmp 88) rfl Try.elI rfl (fun w' h => Row.of_own h.1) R8.out jj rfl rfl (by omega) ?_
          intro b9 o9 hc9
          have hd9 : ∀ w', RS w da j dc T bx #[.int .i64 (jj : Int), .slice ka kn kc] w' → w'.cell? ⟨b9, o9, none⟩ = some (.int .i64 (dt : Int)) := fun w' h => dp_cell HDD.out (fun j hj => hc9 j hj w' h)
          clear hc9
          refine wpZ_q rfl rfl (.int .i64 (dt : Int)) (fun w' hx' => by have hb' := hd9 w' hx'; go_simp; try rfl) ?_
          go_simp
          ((refine wpZ_q rfl rfl _ (fun w' hx' => by go_simp; try rfl) ?_; go_simp))
          clear hd9 hwd
          refine wpZ_alt rfl rfl ?_ (wpZ_alt rfl rfl ?_ wpZ_stop)
          · go_simp
            have hal := Ext.alloc' w8.drew (.cells #[.slice a8 n8 c8] 28)
            have TA := T8.out.al hal
            have FA := own_ext F8.out hal
            have RA := R8.out.ext hal
            have rowA := Row.one w8.drew (.slice a8 n8 c8) 28
            refine ⟨RA, ?_⟩
            refine wpZ_alt rfl rfl ?_ (wpZ_alt rfl rfl ?_ wpZ_stop)
            · refine owp_app _ _ rfl Try.elBs rfl TA.1.own rfl rowA (fun q hq => bt_oneCell [⟨a8, n8, c8, []⟩] q (by simpa [Bt.v] using hq)) (by omega) (by unfold maxLen; omega) TA.2.2.size ?_
              intro a9 c9 w9 ho9 hg9
              have T9 := TA.cs (y := ⟨a8, n8, c8, yl⟩) FA (by show n8 ≤ _; omega) hg9 ho9
              have R9 := RA.grow TA.1.own hg9 HBC.out
              refine ⟨fun _ => R9, ?_⟩
              go_simp
              refine wpZ_l rfl rfl ?_
              go_simp
              have hal2 := Ext.alloc' w9 (.cells #[.int .i64 (d1 : Int)] 3)
              have TB := T9.al hal2
              refine ⟨R9.ext hal2, ?_⟩
              refine wpZ_l rfl rfl (owp_app _ _ rfl Try.elI rfl TB.2.1 rfl (Row.one w9 (.int .i64 (d1 : Int)) 3) (fun q hq => by simp at hq; subst hq; rfl) (by omega) (by unfold maxLen; omega) TB.2.2.size ?_)
              intro a10 c10 w10 ho10 hg10
              refine ⟨(fun h => by cases h), ?_⟩
              go_simp
              iterate 2 (refine wpZ_l rfl rfl ?_; go_simp)
              exact wpZ_nil (Meets.mk (by kernel_rfl) ⟨a9, a10, c9, c10, rfl, rfl, TB.ds yl hg10 ho10⟩)
            · go_simp
              have hal2 := Ext.alloc' (w8.drew.alloc (.cells #[.slice a8 n8 c8] 28)) (.cells #[.int .i64 (d1 : Int)] 3)
              have hI := own_lit (w8.drew.alloc (.cells #[.slice a8 n8 c8] 28)) #[.int .i64 (d1 : Int)] w.heap.size 3 1 1 TA.2.2.size (by decide) rfl
              rw [show (w8.drew.alloc (.cells #[.slice a8 n8 c8] 28)).heap.size = w8.heap.size + 1 by simp] at hI
              have TB := TA.al hal2
              have FB := own_ext FA hal2
              have RB := RA.ext hal2
              have rowB := rowA.ext hal2
              refine ⟨RB, ?_⟩
              refine wpZ_l rfl rfl (owp_app _ _ rfl Try.elBs rfl TB.1.own rfl rowB (fun q hq => bt_oneCell [⟨a8, n8, c8, []⟩] q (by simpa [Bt.v] using hq)) (by omega) (by unfold maxLen; omega) TB.2.2.size ?_)
              intro a9 c9 w9 ho9 hg9
              have T9 := TB.cs (y := ⟨a8, n8, c8, yl⟩) FB (by show n8 ≤ _; omega) hg9 ho9
              have R9 := RB.grow TB.1.own hg9 HBC.out
              have hI9 := own_app_other hI TB.1.own (by decide) hg9
              refine ⟨fun _ => R9, ?_⟩
              go_simp
              refine wpZ_l rfl rfl (owp_app _ _ rfl Try.elI rfl T9.2.1 rfl (Row.of_own hI9) (fun q hq => by simp at hq; subst hq; rfl) (by omega) (by unfold maxLen; omega) T9.2.2.size ?_)
              intro a10 c10 w10 ho10 hg10
              refine ⟨(fun h => by cases h), ?_⟩
              go_simp
              iterate 2 (refine wpZ_l rfl rfl ?_; go_simp)
              exact wpZ_nil (Meets.mk (by kernel_rfl) ⟨a9, a10, c9, c10, rfl, rfl, T9.ds yl hg10 ho10⟩)
          · go_simp
            have hal := Ext.alloc' w8.drew (.cells #[.int .i64 (d1 : Int)] 3)
            have hI := own_lit w8.drew #[.int .i64 (d1 : Int)] w.heap.size 3 1 1 T8.out.2.2.size (by decide) rfl
            have TA := T8.out.al hal
            have FA := own_ext F8.out hal
            have RA := R8.out.ext hal
            refine ⟨RA, ?_⟩
            refine wpZ_l rfl rfl ?_
            go_simp
            have hal2 := Ext.alloc' (w8.drew.alloc (.cells #[.int .i64 (d1 : Int)] 3)) (.cells #[.slice a8 n8 c8] 28)
            have rowB := Row.one (w8.drew.alloc (.cells #[.int .i64 (d1 : Int)] 3)) (.slice a8 n8 c8) 28
            rw [show (w8.drew.alloc (.cells #[.int .i64 (d1 : Int)] 3)).heap.size = w8.heap.size + 1 by simp] at rowB
            have TB := TA.al hal2
            have FB := own_ext FA hal2
            have RB := RA.ext hal2
            have hIB := own_ext hI hal2
            refine ⟨RB, ?_⟩
            refine wpZ_l rfl rfl (owp_app _ _ rfl Try.elBs rfl TB.1.own rfl rowB (fun q hq => bt_oneCell [⟨a8, n8, c8, []⟩] q (by simpa [Bt.v] using hq)) (by omega) (by unfold maxLen; omega) TB.2.2.size ?_)
            intro a9 c9 w10 ho9 hg9
            have T9 := TB.cs (y := ⟨a8, n8, c8, yl⟩) FB (by show n8 ≤ _; omega) hg9 ho9
            have R9 := RB.grow TB.1.own hg9 HBC.out
            have hI9 := own_app_other hIB TB.1.own (by decide) hg9
            refine ⟨fun _ => R9, ?_⟩
            go_simp
            refine wpZ_l rfl rfl (owp_app _ _ rfl Try.elI rfl T9.2.1 rfl (Row.of_own hI9) (fun q hq => by simp at hq; subst hq; rfl) (by omega) (by unfold maxLen; omega) T9.2.2.size ?_)
            intro a10 c10 w11 ho10 hg10
            refine ⟨(fun h => by cases h), ?_⟩
            go_simp
            iterate 2 (refine wpZ_l rfl rfl ?_; go_simp)
            exact wpZ_nil (Meets.mk (by kernel_rfl) ⟨a9, a10, c9, c10, rfl, rfl, T9.ds yl hg10 ho10⟩)
        · rintro a' w10 ⟨v, rfl, a7, a9, c7, c9, hv5, hv6, hS10⟩
          simp only [fill, hv5, hv6]
          go_simp
          clear hv5 hv6 hwd
          have HS10 := Lib.hid hS10
          clear hS10
          go_wp2
          go_roundw
          case rel => exact ⟨j + 1, c7, c9, a7, a9, _, _, by go_num, rfl, rfl, by rw [List.length_map, HLN.out]; omega, HV1.out, HS10.out.1, by rw [List.map_append, List.map_append, HBT.out]; rfl, HS10.out.2.1, HS10.out.2.2⟩
          case measure => simp [intOf]; omega
end Go.Proofs.Ytkhjeeaojlaagaa
/-
  Chains, the reference's: Contents, Check, Get, Depth, Copy.
-/
namespace Go.Proofs.Ytkhjeeaojlaagaa
open Go.RowKit

def ConR (w : World) (S : List (List UInt8 × Nat)) (e : Ending) (w' : World) : Prop :=
  ∃ (a : Option Addr) (n c : Nat) (BL : List Bt), e = .returned (.slice a n c) ∧ OwnBts w' w.heap.size a n c BL ∧ BL.map Bt.l = S.map Prod.fst ∧ Ext w w'

set_option maxRecDepth 100000 in
set_option maxHeartbeats 2000000 in
theorem refContents_any (a : Option Addr) (n c : Nat) (L : List Lk) (w : World) (hL : Links w a n c L) (hn : n ≤ 140737488355328) {S : List (List UInt8 × Nat)} {er : Int} (hr : stC (L.map Lk.d) = (S, er)) :
    Calls Try.prog 11 #[.slice a n c] w (ConR w S) := by
  have HM := Lib.hid (state_any a n c L w hL hn hr)
  go_enter Try.func11, Try.ntmps11
  go_wp2_with (first
    | (go_at_call 34; (with_reducible refine HM.out.mono ?_); rintro e w2 ⟨a1, a2, m, c1, c2, BL, rfl, hB, hBS, hD, hx2⟩)
    | fail)
  go_ret
  exact ⟨a1, m, c1, BL, rfl, hB, hBS, hx2⟩

set_option maxRecDepth 100000 in
set_option maxHeartbeats 2000000 in
theorem refCheck27_any (a : Option Addr) (n c : Nat) (L : List Lk) (w : World) (hL : Links w a n c L) (hn : n ≤ 140737488355328) {S : List (List UInt8 × Nat)} {er : Int} (hr : stC (L.map Lk.d) = (S, er)) :
    Calls Try.prog 29 #[.slice a n c] w (NewNone (.int .i64 er) w) := by
  have HM := Lib.hid (state_any a n c L w hL hn hr)
  go_enter Try.func29, Try.ntmps29
  go_wp2_with (first
    | (go_at_call 34; (with_reducible refine HM.out.mono ?_); rintro e w2 ⟨a1, a2, m, c1, c2, BL, rfl, hB, hBS, hD, hx2⟩)
    | fail)
  go_ret
  exact ⟨rfl, hx2⟩

set_option maxRecDepth 100000 in
set_option maxHeartbeats 4000000 in
theorem refGet27_any (a : Option Addr) (n c : Nat) (L : List Lk) (i : Int) (w : World) (hL : Links w a n c L) (hn : n ≤ 140737488355328) (hi : i64B i) {S : List (List UInt8 × Nat)} {er : Int} (hr : stC (L.map Lk.d) = (S, er)) {l : List UInt8} {e0 : Int} (hg : getV S er n i = (l, e0)) :
    Calls Try.prog 20 #[.slice a n c, .int .i64 i] w (BytesRes w l e0) := by
  have HM := Lib.hid (state_any a n c L w hL hn hr)
  unfold getV at hg
  have hi' : -9223372036854775808 ≤ i ∧ i ≤ 9223372036854775807 := hi
  have HLN := Lib.hid hL.1
  have HR := Lib.hid hr
  clear hi hr
  by_cases he : er = 0
  rotate_left
  · rw [if_pos he] at hg
    cases hg
    obtain ⟨q1, q2⟩ := neI he
    clear he
    go_enter Try.func20, Try.ntmps20
    go_wp2_with (first
      | (go_at_call 34; (with_reducible refine HM.out.mono ?_); rintro e w2 ⟨a1, a2, m, c1, c2, BL, rfl, hB, hBS, hD, hx2⟩; clear hB hBS hD)
      | fail)
    go_ret2
    exact ⟨none, 0, 0, rfl, own_nil _ _ _ _, hx2⟩
  subst he
  rw [if_neg (by simp)] at hg
  obtain ⟨hV, h256⟩ := stC_val HR.out
  have hSn : S.length = n := by rw [hV.len, List.length_map, HLN.out]
  have hmn : ∀ (w2 : World) (a1 : Option Addr) (m c1 : Nat) (BL : List Bt), OwnBts w2 w.heap.size a1 m c1 BL → BL.map Bt.l = S.map Prod.fst → n = m := fun w2 a1 m c1 BL hB hBS => by
    rw [← hB.len, ← List.length_map (f := Bt.l), hBS, List.length_map, hSn]
  by_cases hlt : i < 0
  · rw [if_pos (.inl hlt)] at hg
    cases hg
    have hd : decide (i < 0) = true := decide_eq_true hlt
    go_enter Try.func20, Try.ntmps20
    go_wp2_with (first
      | (go_at_call 34; (with_reducible refine HM.out.mono ?_); rintro e w2 ⟨a1, a2, m, c1, c2, BL, rfl, hB, hBS, hD, hx2⟩; clear hB hBS hD)
      | fail)
    go_ret2
    exact ⟨none, 0, 0, rfl, own_nil _ _ _ _, hx2⟩
  obtain ⟨ii, rfl⟩ := Int.eq_ofNat_of_zero_le (show 0 ≤ i by omega)
  by_cases hge : (n : Int) ≤ ii
  · rw [if_pos (.inr hge)] at hg
    cases hg
    have hd : decide ((n : Int) ≤ ii) = true := decide_eq_true hge
    go_enter Try.func20, Try.ntmps20
    go_wp2_with (first
      | (go_at_call 34; (with_reducible refine HM.out.mono ?_); rintro e w2 ⟨a1, a2, m, c1, c2, BL, rfl, hB, hBS, hD, hx2⟩; have hm := hmn _ _ _ _ _ hB hBS; subst hm; clear hB hBS hD)
      | fail)
    go_ret2
    exact ⟨none, 0, 0, rfl, own_nil _ _ _ _, hx2⟩
  · have hin : ii < n := by omega
    obtain ⟨y, hy⟩ : ∃ y, S[ii]? = some y := ⟨_, List.getElem?_eq_getElem (by rw [hSn]; exact hin)⟩
    obtain ⟨yc, yd⟩ := y
    rw [if_neg (by omega), Int.toNat_natCast, getD_of hy] at hg
    cases hg
    have HY := Lib.hid hy
    have HMN := Lib.hid hmn
    clear hV h256 hy hmn hSn
    go_enter Try.func20, Try.ntmps20
    go_wp2_with (first
      | (go_at_call 34; (with_reducible refine HM.out.mono ?_); rintro e w2 ⟨a1, a2, m, c1, c2, BL, rfl, hB, hBS, hD, hx2⟩; have hm := HMN.out _ _ _ _ _ hB hBS; subst hm; obtain ⟨k2, hk2, hkl2⟩ := bt_of hBS HY.out; have HB := Lib.hid hB; have HK2 := Lib.hid hk2; have hr2 := hB.bts.2.1; clear hB hBS hD hk2)
      | ((with_reducible refine atSlot 28 ?_); refine wpList_of_wp rfl (owp_ix (o := ⟨some 28, _, _, _, _, _⟩) _ _ rfl Try.elBs rfl hr2 ii rfl rfl hin ?_); intro b8 o8 hc8; have hd9 := bt_cell HK2.out hc8; clear hc8)
      | fail)
    go_ret2
    have h := HB.out.dat k2 (List.mem_of_getElem? HK2.out)
    rw [hkl2] at h
    exact ⟨k2.a, k2.n, k2.c, rfl, h.1, hx2⟩

set_option maxRecDepth 100000 in
set_option maxHeartbeats 4000000 in
theorem refDepth27_any (a : Option Addr) (n c : Nat) (L : List Lk) (i : Int) (w : World) (hL : Links w a n c L) (hn : n ≤ 140737488355328) (hi : i64B i) {S : List (List UInt8 × Nat)} {er : Int} (hr : stC (L.map Lk.d) = (S, er)) :
    Calls Try.prog 22 #[.slice a n c, .int .i64 i] w (NewNone (.int .i64 (depV S er n i)) w) := by
  have HM := Lib.hid (state_any a n c L w hL hn hr)
  obtain ⟨v, hv⟩ : ∃ v, v = depV S er n i := ⟨_, rfl⟩
  rw [← hv]
  unfold depV at hv
  have hi' : -9223372036854775808 ≤ i ∧ i ≤ 9223372036854775807 := hi
  have HLN := Lib.hid hL.1
  have HR := Lib.hid hr
  clear hi hr
  by_cases he : er = 0
  rotate_left
  · rw [if_pos (.inl he)] at hv
    subst hv
    obtain ⟨q1, q2⟩ := neI he
    clear he
    go_enter Try.func22, Try.ntmps22
    go_wp2_with (first
      | (go_at_call 34; (with_reducible refine HM.out.mono ?_); rintro e w2 ⟨a1, a2, m, c1, c2, BL, rfl, hB, hBS, hD, hx2⟩; clear hB hBS hD)
      | fail)
    go_ret
    exact ⟨rfl, hx2⟩
  subst he
  obtain ⟨hV, h256⟩ := stC_val HR.out
  have hSn : S.length = n := by rw [hV.len, List.length_map, HLN.out]
  have hmn : ∀ (w2 : World) (a1 : Option Addr) (m c1 : Nat) (BL : List Bt), OwnBts w2 w.heap.size a1 m c1 BL → BL.map Bt.l = S.map Prod.fst → n = m := fun w2 a1 m c1 BL hB hBS => by
    rw [← hB.len, ← List.length_map (f := Bt.l), hBS, List.length_map, hSn]
  by_cases hlt : i < 0
  · rw [if_pos (.inr (.inl hlt))] at hv
    subst hv
    have hd : decide (i < 0) = true := decide_eq_true hlt
    go_enter Try.func22, Try.ntmps22
    go_wp2_with (first
      | (go_at_call 34; (with_reducible refine HM.out.mono ?_); rintro e w2 ⟨a1, a2, m, c1, c2, BL, rfl, hB, hBS, hD, hx2⟩; clear hB hBS hD)
      | fail)
    go_ret
    exact ⟨rfl, hx2⟩
  obtain ⟨ii, rfl⟩ := Int.eq_ofNat_of_zero_le (show 0 ≤ i by omega)
  by_cases hge : (n : Int) ≤ ii
  · rw [if_pos (.inr (.inr hge))] at hv
    subst hv
    have hd : decide ((n : Int) ≤ ii) = true := decide_eq_true hge
    go_enter Try.func22, Try.ntmps22
    go_wp2_with (first
      | (go_at_call 34; (with_reducible refine HM.out.mono ?_); rintro e w2 ⟨a1, a2, m, c1, c2, BL, rfl, hB, hBS, hD, hx2⟩; have hm := hmn _ _ _ _ _ hB hBS; subst hm; clear hB hBS hD)
      | fail)
    go_ret
    exact ⟨rfl, hx2⟩
  · have hin : ii < n := by omega
    obtain ⟨y, hy⟩ : ∃ y, S[ii]? = some y := ⟨_, List.getElem?_eq_getElem (by rw [hSn]; exact hin)⟩
    rw [if_neg (by omega), Int.toNat_natCast, getD_of hy] at hv
    have hdy : (deps S)[ii]? = some (.int .i64 (y.2 : Int)) := by unfold deps; rw [List.getElem?_map, hy]; rfl
    have HV := Lib.hid hv
    have HDY := Lib.hid hdy
    have HMN := Lib.hid hmn
    clear hV h256 hy hmn hSn hv hdy
    go_enter Try.func22, Try.ntmps22
    go_wp2_with (first
      | (go_at_call 34; (with_reducible refine HM.out.mono ?_); rintro e w2 ⟨a1, a2, m, c1, c2, BL, rfl, hB, hBS, hD, hx2⟩; have hm := HMN.out _ _ _ _ _ hB hBS; subst hm; have hr2 := Row.of_own hD; clear hB hBS hD)
      | ((with_reducible refine atSlot 28 ?_); refine wpList_of_wp rfl (owp_ix (o := ⟨some 28, _, _, _, _, _⟩) _ _ rfl Try.elI rfl hr2 ii rfl rfl hin ?_); intro b8 o8 hc8; have hd9 := dp_cell HDY.out hc8; clear hc8)
      | fail)
    go_ret
    exact ⟨by rw [HV.out]; rfl, hx2⟩

def RpRel (w : World) (L : List Lk) (out i : Value) (wr : World) : Prop :=
  ∃ (j c : Nat) (a : Option Addr) (LL : List Lk), i = .int .i64 j ∧ out = .slice a j c ∧ j ≤ L.length ∧ OwnLks wr w.heap.size a j c LL ∧ LL.map Lk.d = (L.take j).map Lk.d ∧ Ext w wr

set_option maxRecDepth 100000 in
set_option maxHeartbeats 4000000 in
theorem refCopy27_any (a : Option Addr) (n c : Nat) (L : List Lk) (w : World) (hL : Links w a n c L) (hn : n ≤ 1000000) :
    Calls Try.prog 41 #[.slice a n c] w (CopR w (L.map Lk.d)) := by
  have HLN := Lib.hid hL.1
  have hrow := hL.2.1
  go_enter Try.func41, Try.ntmps41
  go_wp2
  go_loopw [3, 4] (RpRel w L) (fun _ i _ => n - (intOf i).toNat)
  case atStart => exact ⟨0, 0, none, [], rfl, rfl, Nat.zero_le _, OwnLks.nil _ _, rfl, Below.refl _ _⟩
  case round =>
    obtain ⟨j, oc, oa, LL, rfl, rfl, hj, hO, hD, hx3⟩ := hrel
    rename World => w3
    rw [HLN.out] at hj
    by_cases hjn : j < n
    rotate_left
    · obtain rfl : j = n := by omega
      rw [List.take_of_length_le (by rw [HLN.out]; exact Nat.le_refl _)] at hD
      have HO := Lib.hid hO
      have HD := Lib.hid hD
      clear hO hD
      go_wp2
      go_ret
      exact ⟨oa, j, oc, LL, rfl, HO.out, HD.out, hx3⟩
    obtain ⟨k, hk⟩ : ∃ k, L[j]? = some k := ⟨_, List.getElem?_eq_getElem (by have := HLN.out; omega)⟩
    obtain ⟨hkb, hkn, hki⟩ := (hL.2.2 k (List.mem_of_getElem? hk)).ext hx3
    have hts : (L.take (j + 1)).map Lk.d = (L.take j).map Lk.d ++ [k.d] := by rw [List.take_add_one, hk, List.map_append]; rfl
    have hr3 : ∀ w', Ext w3 w' → Row w' a n c 2 (L.flatMap Lk.cells) := fun w' h => hrow.ext (hx3.trans' h)
    obtain ⟨kb, ka, kn, kc, kl⟩ := k
    have HK := Lib.hid hk
    have HKB := Lib.hid hkb
    have HKI := Lib.hid hki
    have HTS := Lib.hid hts
    have HO := Lib.hid hO
    have HD := Lib.hid hD
    have HX := Lib.hid hx3
    simp only at hkn
    clear hk hkb hki hts hO hD hx3
    go_wp2
    refine wp_region_u (fun w' => Ext w3 w') (Ext.drew' w3) [14, 15] (.qs [0, 1, 2, 3, 4, 5, 6, 7, 8, 9, 10] (.l 11 (.qs [12] (.l 13 (.l 14 (.l 15 .nil)))))) (by kernel_rfl) (by kernel_rfl) ?_
    have E3 := Ext.drew' w3
    iterate 3 ((refine wpZ_q rfl rfl _ (fun w' hx' => by go_simp; try rfl) ?_; go_simp))
    refine wpZ_ix rfl rfl (.tmp 12) (.tmp 13) rfl Try.elLk rfl hr3 E3 j rfl rfl hjn ?_
    intro b4 o4 hc4
    have hd4 : ∀ w', Ext w3 w' → w'.cell? ⟨b4, o4, none⟩ = some (.int .i64 kb) := fun w' h => (hc4 0 (by decide) w' h).trans (lk_get HK.out 0 (by decide))
    clear hc4
    ((refine wpZ_q rfl rfl _ (fun w' hx' => by go_simp; try rfl) ?_; go_simp))
    refine wpZ_q rfl rfl (.int .i64 kb) (fun w' hx' => by have hb' := hd4 w' hx'; go_simp; try rfl) ?_
    go_simp
    iterate 2 ((refine wpZ_q rfl rfl _ (fun w' hx' => by go_simp; try rfl) ?_; go_simp))
    refine wpZ_ix rfl rfl (.tmp 17) (.tmp 18) rfl Try.elLk rfl hr3 E3 j rfl rfl hjn ?_
    intro b5 o5 hc5
    have hd5 : ∀ w', Ext w3 w' → w'.cell? ⟨b5, o5 + 1, none⟩ = some (.slice ka kn kc) := fun w' h => (hc5 1 (by decide) w' h).trans (lk_get HK.out 1 (by decide))
    clear hc5
    ((refine wpZ_q rfl rfl _ (fun w' hx' => by go_simp; try rfl) ?_; go_simp))
    refine wpZ_q rfl rfl (.slice ka kn kc) (fun w' hx' => by have hb' := hd5 w' hx'; go_simp; try rfl) ?_
    go_simp
    refine wpZ_l rfl rfl (owp_clone _ _ rfl Try.elB rfl rfl (HKB.out.ext E3).row (u8_oneCell _) (by omega) ?_)
    intro a6 c6 w6 ho6 hx6
    have E6 := E3.trans' hx6
    refine ⟨fun _ => E6, ?_⟩
    go_simp
    ((refine wpZ_q rfl rfl _ (fun w' hx' => by go_simp; try rfl) ?_; go_simp))
    refine wpZ_l rfl rfl ?_
    go_simp
    have hal := Ext.alloc' w6 (.cells #[.int .i64 kb, .slice a6 kn c6] 45)
    have E7 := E6.trans' hal
    refine ⟨E7, ?_⟩
    have hzz := HX.out.size
    refine wpZ_l rfl rfl (owp_app _ _ rfl Try.elLk rfl (HO.out.ext E7).own rfl (Row.new w6 #[.int .i64 kb, .slice a6 kn c6] 45 1 2 rfl (by decide)) (lk_oneCell [⟨kb, a6, kn, c6, []⟩]) (by omega) (by unfold maxLen; omega) (Nat.le_trans hzz E7.size) ?_)
    intro a9 c9 w9 ho9 hg9
    have hO9 := OwnLks.push (y := ⟨kb, a6, kn, c6, kl⟩) (HO.out.ext E7) hg9 ho9 (own_ext (own_base ho6 (Nat.le_trans hzz E3.size)) hal) ⟨hkn, HKI.out⟩
    have hx9 := below_app (HX.out.trans' E7) (HO.out.ext E7).own hg9 (Nat.le_trans hzz E7.size)
    have HO9 := Lib.hid hO9
    have HX9 := Lib.hid hx9
    clear hO9 hx9 ho9 hg9 ho6 hd4 hd5
    refine ⟨(fun h => by cases h), ?_⟩
    go_simp
    refine wpZ_l rfl rfl ?_
    go_simp
    refine wpZ_nil ?_
    go_wp2
    go_roundw
    case rel => exact ⟨j + 1, c9, a9, _, by go_num, rfl, by have := HLN.out; omega, HO9.out, by rw [List.map_append, HD.out, HTS.out]; rfl, HX9.out⟩
    case measure => simp [intOf]; omega
end Go.Proofs.Ytkhjeeaojlaagaa
/-
  Chains, the reference's: Append.
-/
namespace Go.Proofs.Ytkhjeeaojlaagaa
open Go.RowKit

theorem makeD_len {b t : List UInt8} (h : ¬ (2048 < b.length ∨ 2048 < t.length)) : (makeD b t).length ≤ 4096 ∧ encDRes (b.length : Int) (makeD b t) = (encD (makeD b t), 0) := by
  have hck := make_check (b := b) (T := t) (by omega) (by omega)
  refine ⟨?_, by unfold encDRes; rw [hck]; rfl⟩
  obtain ⟨-, -, -, -, -, h⟩ := ckRes_ok hck
  exact h
/-- A link behind a copy. -/
theorem OwnLks.add {w wc w7 w9 : World} {a3 a9 : Option Addr} {n c3 c9 : Nat} {L3 : List Lk} {y : Lk} {L : List Ln} (hO : OwnLks wc w.heap.size a3 n c3 L3) (hD : L3.map Lk.d = L) (hx : Ext w wc) (hc : Ext wc w7)
    (hd : w7.ownsRow wc.heap.size 5 1 (.slice y.a y.n y.c) y.n (y.l.map u8)) (hb : y.n ≤ 140737488355328 ∧ i64B y.b) {o : Obj}
    (hg : (w7.alloc o).grownBy w9 (blockOf a3)) (ho : w9.ownsRow w.heap.size 45 2 (.slice a9 (n + 1) c9) (n + 1) (L3.flatMap Lk.cells ++ y.cells)) :
    OwnLks w9 w.heap.size a9 (n + 1) c9 (L3 ++ [y]) ∧ (L3 ++ [y]).map Lk.d = L ++ [y.d] ∧ Ext w w9 := by
  have hal := Ext.alloc' w7 o
  have hO7 := (hO.ext hc).ext hal
  refine ⟨hO7.push hg ho (own_ext (own_base hd hx.size) hal) hb, by rw [List.map_append, hD]; rfl, ?_⟩
  exact below_app ((hx.trans' hc).trans' hal) hO7.own hg (Nat.le_trans (Nat.le_trans hx.size hc.size) hal.size)

set_option maxRecDepth 100000 in
set_option maxHeartbeats 8000000 in
theorem refAppend27_any (a : Option Addr) (n c : Nat) (L : List Lk) (a1 : Option Addr) (n1 c1 : Nat) (b : List UInt8) (w : World) (hL : Links w a n c L) (hb : Bytes w a1 n1 c1 b) (hn : n ≤ 140737488355328) (hn1 : n1 ≤ 140737488355328) {LR : List Ln} {er : Int} (hr : apC (L.map Lk.d) b = (LR, er)) :
    Calls Try.prog 14 #[.slice a n c, .slice a1 n1 c1] w (LkR w LR er) := by
  obtain ⟨S, e0, hst⟩ : ∃ S e0, stC (L.map Lk.d) = (S, e0) := ⟨_, _, rfl⟩
  have HM := Lib.hid (state_any a n c L w hL hn hst)
  have HLN := Lib.hid hL.1
  have HBL := Lib.hid hb.len
  unfold apC at hr
  rw [hst] at hr
  simp only at hr
  rw [List.length_map, hL.1, hb.len] at hr
  by_cases he : e0 = 0
  rotate_left
  · rw [if_neg he] at hr
    cases hr
    obtain ⟨q1, q2⟩ := neI he
    clear he
    go_enter Try.func14, Try.ntmps14
    go_wp2_with (first
      | (go_at_call 34; (with_reducible refine HM.out.mono ?_); rintro e w2 ⟨a2, d2, m, c2, e2, BL, rfl, hB, hBS, hD, hx2⟩; clear hB hBS hD)
      | fail)
    go_ret2
    exact ⟨none, 0, 0, [], rfl, OwnLks.nil _ _, rfl, hx2⟩
  subst he
  rw [if_pos rfl] at hr
  by_cases h256 : n = 256
  · rw [if_pos h256] at hr
    cases hr
    have hd : decide ((256 : Int) ≤ n) = true := decide_eq_true (by omega)
    clear h256
    go_enter Try.func14, Try.ntmps14
    go_wp2_with (first
      | (go_at_call 34; (with_reducible refine HM.out.mono ?_); rintro e w2 ⟨a2, d2, m, c2, e2, BL, rfl, hB, hBS, hD, hx2⟩; clear hB hBS hD)
      | fail)
    go_ret2
    exact ⟨none, 0, 0, [], rfl, OwnLks.nil _ _, rfl, hx2⟩
  rw [if_neg h256] at hr
  obtain ⟨hV, hn256⟩ := stC_val hst
  rw [List.length_map, hL.1] at hn256
  have hd0 : decide ((256 : Int) ≤ n) = false := decide_eq_false (by omega)
  by_cases hbig : 1048576 < n1
  · rw [if_pos hbig] at hr
    cases hr
    have hd : decide ((1048576 : Int) < n1) = true := decide_eq_true (by omega)
    clear h256
    go_enter Try.func14, Try.ntmps14
    go_wp2_with (first
      | (go_at_call 34; (with_reducible refine HM.out.mono ?_); rintro e w2 ⟨a2, d2, m, c2, e2, BL, rfl, hB, hBS, hD, hx2⟩; clear hB hBS hD)
      | fail)
    go_ret2
    exact ⟨none, 0, 0, [], rfl, OwnLks.nil _ _, rfl, hx2⟩
  rw [if_neg hbig] at hr
  simp only [Prod.mk.injEq] at hr
  obtain ⟨hLR, rfl⟩ := hr
  have hd1 : decide ((1048576 : Int) < n1) = false := decide_eq_false (by omega)
  have hSn : S.length = n := by rw [hV.len, List.length_map, hL.1]
  have hnn : n < 256 := by omega
  have hmn : ∀ (w2 : World) (a1 : Option Addr) (m c1 : Nat) (BL : List Bt), OwnBts w2 w.heap.size a1 m c1 BL → BL.map Bt.l = S.map Prod.fst → n = m := fun w2 a1 m c1 BL hB hBS => by
    rw [← hB.len, ← List.length_map (f := Bt.l), hBS, List.length_map, hSn]
  have hn3 : ∀ (w2 : World) (a1 : Option Addr) (m c1 : Nat) (L3 : List Lk), OwnLks w2 w.heap.size a1 m c1 L3 → L3.map Lk.d = L.map Lk.d → n = m := fun w2 a1 m c1 L3 hB hBS => by
    rw [← hB.len, ← List.length_map (f := Lk.d), hBS, List.length_map, HLN.out]
  have HMN := Lib.hid hmn
  have HN3 := Lib.hid hn3
  have HLR := Lib.hid hLR
  have HV := Lib.hid hV
  have HSN := Lib.hid hSn
  have HBB := Lib.hid hb
  have HLL := Lib.hid hL
  have hn1b : n1 ≤ 1048576 := by omega
  clear hLR hV hSn hst hn256 hbig h256 hb hL hmn hn3
  by_cases hn0 : n = 0
  · have hS0 : S = [] := List.eq_nil_of_length_eq_zero (by have := HSN.out; omega)
    have hap : apL S b = ⟨-1, b⟩ := apL_full (fun c d h => by rw [hS0] at h; cases h)
    have HAP := Lib.hid hap
    have hsub : (n : Int) - 1 = -1 := by omega
    clear hap hS0 hn0
    go_enter Try.func14, Try.ntmps14
    go_wp2_with (first
      | (go_at_call 34; (with_reducible refine HM.out.mono ?_); rintro e w2 ⟨a2, d2, m, c2, e2, BL, rfl, hB, hBS, hD, hx2⟩; clear hB hBS hD)
      | (go_at_call 41; (with_reducible refine (refCopy27_any a n c L _ (HLL.out.ext hx2) (by omega)).mono ?_); rintro e w3 ⟨a3, n3, c3, L3, rfl, hO3, hD3, hx3⟩; have hn3 := HN3.out _ _ _ _ _ (hO3.base hx2.size) hD3; subst hn3; have HO3 := Lib.hid (hO3.base hx2.size); have HD3 := Lib.hid hD3; have hx23 := hx2.trans' hx3; clear hO3 hD3)
      | ((with_reducible refine atSlot 78 ?_); have HXC := Lib.hid (hx23); have HOC := Lib.hid (HO3.out); refine wpList_of_wp rfl (owp_clone (o := ⟨some 78, _, _, _, _, _⟩) _ _ rfl Try.elB rfl rfl (HBB.out.ext HXC.out).row (u8_oneCell _) (by omega) ?_); intro a7 c7 w7 ho7 hx7; have HY7 := Lib.hid ho7; clear ho7)
      | ((with_reducible refine atSlot 81 ?_); refine wpList_of_wp rfl (owp_app (o := ⟨some 81, _, _, _, _, _⟩) _ _ rfl Try.elLk rfl ((HOC.out.ext hx7).ext (Ext.alloc' w7 _)).own rfl (Row.new w7 #[.int .i64 (-1), .slice a7 n1 c7] 45 1 2 rfl (by decide)) (lk_oneCell [⟨-1, a7, n1, c7, []⟩]) (by omega) (by unfold maxLen; omega) (Nat.le_trans (Nat.le_trans HXC.out.size hx7.size) (Ext.alloc' w7 _).size) ?_); intro a9 c9 w9 ho9 hg9; have hO9 := OwnLks.add (y := ⟨-1, a7, n1, c7, b⟩) HOC.out HD3.out HXC.out hx7 HY7.out ⟨(by show n1 ≤ _; omega), i64_of (by show (-9223372036854775808 : Int) ≤ -1; decide) (by show (-1 : Int) ≤ 9223372036854775807; decide)⟩ hg9 ho9; clear ho9 hg9)
      | fail)
    go_ret2
    exact ⟨a9, _, c9, _, rfl, hO9.1, by rw [hO9.2.1, ← HLR.out, HAP.out]; rfl, hO9.2.2⟩
  obtain ⟨p, hp⟩ : ∃ p, p + 1 = n := ⟨n - 1, by omega⟩
  have hsub : (n : Int) - 1 = (p : Int) := by omega
  have hpn : p < n := by omega
  obtain ⟨y, hy⟩ : ∃ y, S[p]? = some y := ⟨_, List.getElem?_eq_getElem (by rw [HSN.out]; exact hpn)⟩
  obtain ⟨ct, dt⟩ := y
  have hlast : S.getLast? = some (ct, dt) := by rw [List.getLast?_eq_getElem?, HSN.out, show n - 1 = p by omega]; exact hy
  have hct : ct.length ≤ 1048576 ∧ dt ≤ 8 := HV.out.size (List.mem_of_getElem? hy)
  obtain ⟨hct, hdt⟩ := hct
  have hdd : (deps S)[p]? = some (.int .i64 (dt : Int)) := by unfold deps; rw [List.getElem?_map, hy]; rfl
  have HDD := Lib.hid hdd
  have HY := Lib.hid hy
  have HLA := Lib.hid hlast
  have hp1 : S.length - 1 = p := by rw [HSN.out]; omega
  have HP1 := Lib.hid hp1
  clear hn0 hp hdd hy hlast hp1
  by_cases h8 : dt < 8
  rotate_left
  · have hap : apL S b = ⟨-1, b⟩ := apL_full (fun c d h => by rw [HLA.out] at h; cases h; rintro ⟨h, -⟩; exact h8 h)
    have HAP := Lib.hid hap
    have hd8 : decide ((dt : Int) < 8) = false := decide_eq_false (by omega)
    clear hap h8
    go_enter Try.func14, Try.ntmps14
    go_wp2_with (first
      | (go_at_call 34; (with_reducible refine HM.out.mono ?_); rintro e w2 ⟨a2, d2, m, c2, e2, BL, rfl, hB, hBS, hD, hx2⟩; have hm := HMN.out _ _ _ _ _ hB hBS; subst hm; obtain ⟨k2, hk2, hkl2⟩ := bt_of hBS HY.out; have hbI := hB.bts.2.2 k2 (List.mem_of_getElem? hk2); have HK2 := Lib.hid hk2; have HB2 := Lib.hid hbI.1; have hk2n : k2.n ≤ 140737488355328 := hbI.2; have HKL := Lib.hid hkl2; have HR2 := Lib.hid hB.bts.2.1; have HRD := Lib.hid (Row.of_own hD); clear hbI hk2 hkl2; clear hB hBS hD)
      | (go_at_call 41; (with_reducible refine (refCopy27_any a n c L _ (HLL.out.ext hx2) (by omega)).mono ?_); rintro e w3 ⟨a3, n3, c3, L3, rfl, hO3, hD3, hx3⟩; have hn3 := HN3.out _ _ _ _ _ (hO3.base hx2.size) hD3; subst hn3; have HO3 := Lib.hid (hO3.base hx2.size); have HD3 := Lib.hid hD3; have hx23 := hx2.trans' hx3; clear hO3 hD3)
      | ((with_reducible refine atSlot 40 ?_); refine wpList_of_wp rfl (owp_ix (o := ⟨some 40, _, _, _, _, _⟩) _ _ rfl Try.elI rfl (HRD.out.ext hx3) p rfl rfl hpn ?_); intro b7 o7 hc7; have hd7 := dp_cell HDD.out hc7; clear hc7)
      | ((with_reducible refine atSlot 78 ?_); have HXC := Lib.hid (hx23); have HOC := Lib.hid (HO3.out); refine wpList_of_wp rfl (owp_clone (o := ⟨some 78, _, _, _, _, _⟩) _ _ rfl Try.elB rfl rfl (HBB.out.ext HXC.out).row (u8_oneCell _) (by omega) ?_); intro a7 c7 w7 ho7 hx7; have HY7 := Lib.hid ho7; clear ho7)
      | ((with_reducible refine atSlot 81 ?_); refine wpList_of_wp rfl (owp_app (o := ⟨some 81, _, _, _, _, _⟩) _ _ rfl Try.elLk rfl ((HOC.out.ext hx7).ext (Ext.alloc' w7 _)).own rfl (Row.new w7 #[.int .i64 (-1), .slice a7 n1 c7] 45 1 2 rfl (by decide)) (lk_oneCell [⟨-1, a7, n1, c7, []⟩]) (by omega) (by unfold maxLen; omega) (Nat.le_trans (Nat.le_trans HXC.out.size hx7.size) (Ext.alloc' w7 _).size) ?_); intro a9 c9 w9 ho9 hg9; have hO9 := OwnLks.add (y := ⟨-1, a7, n1, c7, b⟩) HOC.out HD3.out HXC.out hx7 HY7.out ⟨(by show n1 ≤ _; omega), i64_of (by show (-9223372036854775808 : Int) ≤ -1; decide) (by show (-1 : Int) ≤ 9223372036854775807; decide)⟩ hg9 ho9; clear ho9 hg9)
      | fail)
    go_ret2
    exact ⟨a9, _, c9, _, rfl, hO9.1, by rw [hO9.2.1, ← HLR.out, HAP.out]; rfl, hO9.2.2⟩
  have hd8 : decide ((dt : Int) < 8) = true := decide_eq_true (by omega)
  by_cases hbig : 2048 < ct.length ∨ 2048 < b.length
  · have hmk : makeRes ct b = ([], 262) := by unfold makeRes; rw [if_pos hbig]
    have hap : apL S b = ⟨-1, b⟩ := apL_full (fun c d h => by rw [HLA.out] at h; cases h; omega)
    have HAP := Lib.hid hap
    have HMK := Lib.hid hmk
    clear hap h8 hbig hmk
    go_enter Try.func14, Try.ntmps14
    go_wp2_with (first
      | (go_at_call 34; (with_reducible refine HM.out.mono ?_); rintro e w2 ⟨a2, d2, m, c2, e2, BL, rfl, hB, hBS, hD, hx2⟩; have hm := HMN.out _ _ _ _ _ hB hBS; subst hm; obtain ⟨k2, hk2, hkl2⟩ := bt_of hBS HY.out; have hbI := hB.bts.2.2 k2 (List.mem_of_getElem? hk2); have HK2 := Lib.hid hk2; have HB2 := Lib.hid hbI.1; have hk2n : k2.n ≤ 140737488355328 := hbI.2; have HKL := Lib.hid hkl2; have HR2 := Lib.hid hB.bts.2.1; have HRD := Lib.hid (Row.of_own hD); clear hbI hk2 hkl2; clear hB hBS hD)
      | (go_at_call 41; (with_reducible refine (refCopy27_any a n c L _ (HLL.out.ext hx2) (by omega)).mono ?_); rintro e w3 ⟨a3, n3, c3, L3, rfl, hO3, hD3, hx3⟩; have hn3 := HN3.out _ _ _ _ _ (hO3.base hx2.size) hD3; subst hn3; have HO3 := Lib.hid (hO3.base hx2.size); have HD3 := Lib.hid hD3; have hx23 := hx2.trans' hx3; clear hO3 hD3)
      | ((with_reducible refine atSlot 40 ?_); refine wpList_of_wp rfl (owp_ix (o := ⟨some 40, _, _, _, _, _⟩) _ _ rfl Try.elI rfl (HRD.out.ext hx3) p rfl rfl hpn ?_); intro b7 o7 hc7; have hd7 := dp_cell HDD.out hc7; clear hc7)
      | ((with_reducible refine atSlot 47 ?_); refine wpList_of_wp rfl (owp_ix (o := ⟨some 47, _, _, _, _, _⟩) _ _ rfl Try.elBs rfl (HR2.out.ext hx3) p rfl rfl hpn ?_); intro b8 o8 hc8; have hd9 := bt_cell HK2.out hc8; clear hc8; have hmk2 := HMK.out; rw [← HKL.out] at hmk2; have HM2 := Lib.hid hmk2; clear hmk2)
      | (go_at_call 32; (with_reducible refine (refMake_any k2.a k2.n k2.c k2.l a1 n1 c1 b _ (HB2.out.ext hx3) (HBB.out.ext hx23) hk2n hn1 HM2.out).mono ?_); rintro e w4 ⟨a4, n4, c4, L4, rfl, hO4, hD4, hx4⟩; have HO4 := Lib.hid hO4; have HD4' := Lib.hid hD4; clear hO4 hD4; have hx34 := hx3.trans' hx4)
      | ((with_reducible refine atSlot 78 ?_); have HXC := Lib.hid (hx23.trans' hx4); have HOC := Lib.hid (HO3.out.ext hx4); refine wpList_of_wp rfl (owp_clone (o := ⟨some 78, _, _, _, _, _⟩) _ _ rfl Try.elB rfl rfl (HBB.out.ext HXC.out).row (u8_oneCell _) (by omega) ?_); intro a7 c7 w7 ho7 hx7; have HY7 := Lib.hid ho7; clear ho7)
      | ((with_reducible refine atSlot 81 ?_); refine wpList_of_wp rfl (owp_app (o := ⟨some 81, _, _, _, _, _⟩) _ _ rfl Try.elLk rfl ((HOC.out.ext hx7).ext (Ext.alloc' w7 _)).own rfl (Row.new w7 #[.int .i64 (-1), .slice a7 n1 c7] 45 1 2 rfl (by decide)) (lk_oneCell [⟨-1, a7, n1, c7, []⟩]) (by omega) (by unfold maxLen; omega) (Nat.le_trans (Nat.le_trans HXC.out.size hx7.size) (Ext.alloc' w7 _).size) ?_); intro a9 c9 w9 ho9 hg9; have hO9 := OwnLks.add (y := ⟨-1, a7, n1, c7, b⟩) HOC.out HD3.out HXC.out hx7 HY7.out ⟨(by show n1 ≤ _; omega), i64_of (by show (-9223372036854775808 : Int) ≤ -1; decide) (by show (-1 : Int) ≤ 9223372036854775807; decide)⟩ hg9 ho9; clear ho9 hg9)
      | fail)
    go_ret2
    exact ⟨a9, _, c9, _, rfl, hO9.1, by rw [hO9.2.1, ← HLR.out, HAP.out]; rfl, hO9.2.2⟩
  have hmk : makeRes ct b = (makeD ct b, 0) := by unfold makeRes; rw [if_neg hbig]
  obtain ⟨hfew, hen⟩ := makeD_len hbig
  have HMK := Lib.hid hmk
  have HFW := Lib.hid hfew
  have HEN := Lib.hid hen
  have hbl := HBL.out
  by_cases hsh : (encD (makeD ct b)).length < n1
  · have hap : apL S b = ⟨(p : Int), encD (makeD ct b)⟩ := by rw [← HP1.out]; exact apL_lean HLA.out ⟨h8, by omega, by omega, by omega⟩
    have HAP := Lib.hid hap
    have HSH := Lib.hid hsh
    clear hap h8 hbig hmk hfew hen hbl hsh
    go_enter Try.func14, Try.ntmps14
    go_wp2_with (first
      | (go_at_call 34; (with_reducible refine HM.out.mono ?_); rintro e w2 ⟨a2, d2, m, c2, e2, BL, rfl, hB, hBS, hD, hx2⟩; have hm := HMN.out _ _ _ _ _ hB hBS; subst hm; obtain ⟨k2, hk2, hkl2⟩ := bt_of hBS HY.out; have hbI := hB.bts.2.2 k2 (List.mem_of_getElem? hk2); have HK2 := Lib.hid hk2; have HB2 := Lib.hid hbI.1; have hk2n : k2.n ≤ 140737488355328 := hbI.2; have HKL := Lib.hid hkl2; have HR2 := Lib.hid hB.bts.2.1; have HRD := Lib.hid (Row.of_own hD); clear hbI hk2 hkl2; clear hB hBS hD)
      | (go_at_call 41; (with_reducible refine (refCopy27_any a n c L _ (HLL.out.ext hx2) (by omega)).mono ?_); rintro e w3 ⟨a3, n3, c3, L3, rfl, hO3, hD3, hx3⟩; have hn3 := HN3.out _ _ _ _ _ (hO3.base hx2.size) hD3; subst hn3; have HO3 := Lib.hid (hO3.base hx2.size); have HD3 := Lib.hid hD3; have hx23 := hx2.trans' hx3; clear hO3 hD3)
      | ((with_reducible refine atSlot 40 ?_); refine wpList_of_wp rfl (owp_ix (o := ⟨some 40, _, _, _, _, _⟩) _ _ rfl Try.elI rfl (HRD.out.ext hx3) p rfl rfl hpn ?_); intro b7 o7 hc7; have hd7 := dp_cell HDD.out hc7; clear hc7)
      | ((with_reducible refine atSlot 47 ?_); refine wpList_of_wp rfl (owp_ix (o := ⟨some 47, _, _, _, _, _⟩) _ _ rfl Try.elBs rfl (HR2.out.ext hx3) p rfl rfl hpn ?_); intro b8 o8 hc8; have hd9 := bt_cell HK2.out hc8; clear hc8; have hmk2 := HMK.out; rw [← HKL.out] at hmk2; have HM2 := Lib.hid hmk2; clear hmk2)
      | (go_at_call 32; (with_reducible refine (refMake_any k2.a k2.n k2.c k2.l a1 n1 c1 b _ (HB2.out.ext hx3) (HBB.out.ext hx23) hk2n hn1 HM2.out).mono ?_); rintro e w4 ⟨a4, n4, c4, L4, rfl, hO4, hD4, hx4⟩; have HO4 := Lib.hid hO4; have HD4' := Lib.hid hD4; clear hO4 hD4; have hx34 := hx3.trans' hx4)
      | ((with_reducible refine atSlot 58 ?_); refine wpList_of_wp rfl (owp_ix (o := ⟨some 58, _, _, _, _, _⟩) _ _ rfl Try.elBs rfl (HR2.out.ext hx34) p rfl rfl hpn ?_); intro b9 o9 hc9; have hd11 := bt_cell HK2.out hc9; clear hc9; have hen2 := HEN.out; rw [← HKL.out, ← HD4'.out, HB2.out.len] at hen2; have HE2 := Lib.hid hen2; clear hen2; have hn4 : n4 ≤ 4096 := (by rw [← HO4.out.1, ← List.length_map (f := Od.d), HD4'.out, HKL.out]; exact HFW.out))
      | (go_at_call 33; (with_reducible refine (refEncode_any (k2.n : Int) a4 n4 c4 L4 _ HO4.out (by omega) HE2.out).mono ?_); rintro e w6 ⟨a6, n6, c6, rfl, ho6, hx6⟩; have hl6 := own_len ho6; rw [HD4'.out, HKL.out] at ho6 hl6; have HO6 := Lib.hid ho6; have hsh2 := HSH.out; rw [hl6] at hsh2; have hd12 : decide (n6 < n1) = true := decide_eq_true (by omega); clear ho6 hl6 hsh2)
      | ((with_reducible refine atSlot 75 ?_); have HXC := Lib.hid (hx23.trans' hx4); have HOC := Lib.hid (HO3.out.ext hx4); refine wpList_of_wp rfl (owp_app (o := ⟨some 75, _, _, _, _, _⟩) _ _ rfl Try.elLk rfl ((HOC.out.ext hx6).ext (Ext.alloc' w6 _)).own rfl (Row.new w6 #[.int .i64 (p : Int), .slice a6 n6 c6] 45 1 2 rfl (by decide)) (lk_oneCell [⟨(p : Int), a6, n6, c6, []⟩]) (by omega) (by unfold maxLen; omega) (Nat.le_trans (Nat.le_trans HXC.out.size hx6.size) (Ext.alloc' w6 _).size) ?_); intro a9 c9 w9 ho9 hg9; have hO9 := OwnLks.add (y := ⟨(p : Int), a6, n6, c6, encD (makeD ct b)⟩) HOC.out HD3.out HXC.out hx6 HO6.out ⟨(by show n6 ≤ _; have := decide_eq_true_iff.1 hd12; omega), i64_of (by show (-9223372036854775808 : Int) ≤ (p : Int); omega) (by show (p : Int) ≤ 9223372036854775807; omega)⟩ hg9 ho9; clear ho9 hg9)
      | fail)
    go_ret2
    exact ⟨a9, _, c9, _, rfl, hO9.1, by rw [hO9.2.1, ← HLR.out, HAP.out]; rfl, hO9.2.2⟩
  · have hap : apL S b = ⟨-1, b⟩ := apL_full (fun c d h => by rw [HLA.out] at h; cases h; rintro ⟨-, -, -, h⟩; omega)
    have HAP := Lib.hid hap
    have HSH := Lib.hid hsh
    clear hap h8 hbig hmk hfew hen hbl hsh
    go_enter Try.func14, Try.ntmps14
    go_wp2_with (first
      | (go_at_call 34; (with_reducible refine HM.out.mono ?_); rintro e w2 ⟨a2, d2, m, c2, e2, BL, rfl, hB, hBS, hD, hx2⟩; have hm := HMN.out _ _ _ _ _ hB hBS; subst hm; obtain ⟨k2, hk2, hkl2⟩ := bt_of hBS HY.out; have hbI := hB.bts.2.2 k2 (List.mem_of_getElem? hk2); have HK2 := Lib.hid hk2; have HB2 := Lib.hid hbI.1; have hk2n : k2.n ≤ 140737488355328 := hbI.2; have HKL := Lib.hid hkl2; have HR2 := Lib.hid hB.bts.2.1; have HRD := Lib.hid (Row.of_own hD); clear hbI hk2 hkl2; clear hB hBS hD)
      | (go_at_call 41; (with_reducible refine (refCopy27_any a n c L _ (HLL.out.ext hx2) (by omega)).mono ?_); rintro e w3 ⟨a3, n3, c3, L3, rfl, hO3, hD3, hx3⟩; have hn3 := HN3.out _ _ _ _ _ (hO3.base hx2.size) hD3; subst hn3; have HO3 := Lib.hid (hO3.base hx2.size); have HD3 := Lib.hid hD3; have hx23 := hx2.trans' hx3; clear hO3 hD3)
      | ((with_reducible refine atSlot 40 ?_); refine wpList_of_wp rfl (owp_ix (o := ⟨some 40, _, _, _, _, _⟩) _ _ rfl Try.elI rfl (HRD.out.ext hx3) p rfl rfl hpn ?_); intro b7 o7 hc7; have hd7 := dp_cell HDD.out hc7; clear hc7)
      | ((with_reducible refine atSlot 47 ?_); refine wpList_of_wp rfl (owp_ix (o := ⟨some 47, _, _, _, _, _⟩) _ _ rfl Try.elBs rfl (HR2.out.ext hx3) p rfl rfl hpn ?_); intro b8 o8 hc8; have hd9 := bt_cell HK2.out hc8; clear hc8; have hmk2 := HMK.out; rw [← HKL.out] at hmk2; have HM2 := Lib.hid hmk2; clear hmk2)
      | (go_at_call 32; (with_reducible refine (refMake_any k2.a k2.n k2.c k2.l a1 n1 c1 b _ (HB2.out.ext hx3) (HBB.out.ext hx23) hk2n hn1 HM2.out).mono ?_); rintro e w4 ⟨a4, n4, c4, L4, rfl, hO4, hD4, hx4⟩; have HO4 := Lib.hid hO4; have HD4' := Lib.hid hD4; clear hO4 hD4; have hx34 := hx3.trans' hx4)
      | ((with_reducible refine atSlot 58 ?_); refine wpList_of_wp rfl (owp_ix (o := ⟨some 58, _, _, _, _, _⟩) _ _ rfl Try.elBs rfl (HR2.out.ext hx34) p rfl rfl hpn ?_); intro b9 o9 hc9; have hd11 := bt_cell HK2.out hc9; clear hc9; have hen2 := HEN.out; rw [← HKL.out, ← HD4'.out, HB2.out.len] at hen2; have HE2 := Lib.hid hen2; clear hen2; have hn4 : n4 ≤ 4096 := (by rw [← HO4.out.1, ← List.length_map (f := Od.d), HD4'.out, HKL.out]; exact HFW.out))
      | (go_at_call 33; (with_reducible refine (refEncode_any (k2.n : Int) a4 n4 c4 L4 _ HO4.out (by omega) HE2.out).mono ?_); rintro e w6 ⟨a6, n6, c6, rfl, ho6, hx6⟩; have hl6 := own_len ho6; rw [HD4'.out, HKL.out] at ho6 hl6; have HO6 := Lib.hid ho6; have hsh2 := HSH.out; rw [hl6] at hsh2; have hd12 : decide (n6 < n1) = false := decide_eq_false (by omega); clear ho6 hl6 hsh2)
      | ((with_reducible refine atSlot 78 ?_); have HXC := Lib.hid (hx23.trans' (hx4.trans' hx6)); have HOC := Lib.hid (HO3.out.ext (hx4.trans' hx6)); refine wpList_of_wp rfl (owp_clone (o := ⟨some 78, _, _, _, _, _⟩) _ _ rfl Try.elB rfl rfl (HBB.out.ext HXC.out).row (u8_oneCell _) (by omega) ?_); intro a7 c7 w7 ho7 hx7; have HY7 := Lib.hid ho7; clear ho7)
      | ((with_reducible refine atSlot 81 ?_); refine wpList_of_wp rfl (owp_app (o := ⟨some 81, _, _, _, _, _⟩) _ _ rfl Try.elLk rfl ((HOC.out.ext hx7).ext (Ext.alloc' w7 _)).own rfl (Row.new w7 #[.int .i64 (-1), .slice a7 n1 c7] 45 1 2 rfl (by decide)) (lk_oneCell [⟨-1, a7, n1, c7, []⟩]) (by omega) (by unfold maxLen; omega) (Nat.le_trans (Nat.le_trans HXC.out.size hx7.size) (Ext.alloc' w7 _).size) ?_); intro a9 c9 w9 ho9 hg9; have hO9 := OwnLks.add (y := ⟨-1, a7, n1, c7, b⟩) HOC.out HD3.out HXC.out hx7 HY7.out ⟨(by show n1 ≤ _; omega), i64_of (by show (-9223372036854775808 : Int) ≤ -1; decide) (by show (-1 : Int) ≤ 9223372036854775807; decide)⟩ hg9 ho9; clear ho9 hg9)
      | fail)
    go_ret2
    exact ⟨a9, _, c9, _, rfl, hO9.1, by rw [hO9.2.1, ← HLR.out, HAP.out]; rfl, hO9.2.2⟩
end Go.Proofs.Ytkhjeeaojlaagaa
/-
  Chains, the reference's: Same.
-/
namespace Go.Proofs.Ytkhjeeaojlaagaa
open Go.RowKit

def SmRel (w : World) (L1 L2 : List Lk) (i : Value) (wr : World) : Prop :=
  ∃ j : Nat, i = .int .i64 j ∧ j ≤ L1.length ∧ (L1.take j).map Lk.d = (L2.take j).map Lk.d ∧ Ext w wr

set_option maxRecDepth 100000 in
set_option maxHeartbeats 4000000 in
theorem refSame27_any (a1 : Option Addr) (n1 c1 : Nat) (L1 : List Lk) (a2 : Option Addr) (n2 c2 : Nat) (L2 : List Lk) (w : World) (h1 : Links w a1 n1 c1 L1) (h2 : Links w a2 n2 c2 L2) (hn1 : n1 ≤ 1000000) (hn2 : n2 ≤ 1000000) (hd : L1.map Lk.d = L2.map Lk.d) :
    Calls Try.prog 16 #[.slice a1 n1 c1, .slice a2 n2 c2] w (LawPost w) := by
  have HL1 := Lib.hid h1.1
  have HL2 := Lib.hid h2.1
  have hnn : n1 = n2 := by rw [← h1.1, ← h2.1, ← List.length_map (f := Lk.d), hd, List.length_map]
  have hr1 := h1.2.1
  have hr2 := h2.2.1
  have HD := Lib.hid hd
  subst hnn
  go_enter Try.func16, Try.ntmps16
  go_wp2
  go_loopw [5] (SmRel w L1 L2) (fun i _ => n1 - (intOf i).toNat)
  case atStart => exact ⟨0, rfl, Nat.zero_le _, rfl, Below.refl _ _⟩
  case round =>
    obtain ⟨j, rfl, hj, -, hx3⟩ := hrel
    rename World => w3
    rw [HL1.out] at hj
    by_cases hjn : j < n1
    rotate_left
    · obtain rfl : j = n1 := by omega
      go_wp2
      go_ret
      exact ⟨rfl, hx3⟩
    obtain ⟨k1, hk1⟩ : ∃ k, L1[j]? = some k := ⟨_, List.getElem?_eq_getElem (by have := HL1.out; omega)⟩
    obtain ⟨k2, hk2⟩ : ∃ k, L2[j]? = some k := ⟨_, List.getElem?_eq_getElem (by have := HL2.out; omega)⟩
    have hdd := congrArg (fun l => l[j]?) HD.out
    simp only [List.getElem?_map, hk1, hk2, Option.map_some, Option.some.injEq] at hdd
    obtain ⟨kb, ka, kn, kc, kl⟩ := k1
    obtain ⟨b2, a4, m2, c4, l2⟩ := k2
    obtain rfl : kb = b2 := congrArg Ln.b hdd
    obtain rfl : kl = l2 := congrArg Ln.l hdd
    have hB1 := (h1.2.2 _ (List.mem_of_getElem? hk1)).1.ext hx3
    have hB2 := (h2.2.2 _ (List.mem_of_getElem? hk2)).1.ext hx3
    have HK1 := Lib.hid hk1
    have HK2 := Lib.hid hk2
    have R1 : ∀ w', Ext w3 w' → Row w' a1 n1 c1 2 (L1.flatMap Lk.cells) := fun w' h => hr1.ext (hx3.trans' h)
    have R2 : ∀ w', Ext w3 w' → Row w' a2 n1 c2 2 (L2.flatMap Lk.cells) := fun w' h => hr2.ext (hx3.trans' h)
    simp only at hB1 hB2
    clear hk1 hk2 hdd
    go_wp2
    refine wp_region_e [] (.qs [0, 1, 2, 3, 4, 5, 6, 7, 8, 9, 10, 11, 12, 13, 14, 15, 16, 17, 18, 19, 20, 21, 22, 23, 24, 25] .nil) (by kernel_rfl) (by kernel_rfl) ?_
    iterate 2 ((refine wpY_q rfl rfl _ (fun w' hx' => by go_simp; try rfl) ?_; go_simp))
    refine wpY_ix rfl rfl (.tmp 17) (.tmp 18) rfl Try.elLk rfl R1 j rfl rfl hjn ?_
    intro b4 o4 hc4
    have hd4 : ∀ w', Ext w3 w' → w'.cell? ⟨b4, o4, none⟩ = some (.int .i64 kb) := fun w' h => (hc4 0 (by decide) w' h).trans (lk_get HK1.out 0 (by decide))
    clear hc4
    ((refine wpY_q rfl rfl _ (fun w' hx' => by go_simp; try rfl) ?_; go_simp))
    refine wpY_q rfl rfl (.int .i64 kb) (fun w' hx' => by have hb' := hd4 w' hx'; go_simp; try rfl) ?_
    go_simp
    iterate 2 ((refine wpY_q rfl rfl _ (fun w' hx' => by go_simp; try rfl) ?_; go_simp))
    refine wpY_ix rfl rfl (.tmp 22) (.tmp 23) rfl Try.elLk rfl R2 j rfl rfl hjn ?_
    intro b5 o5 hc5
    have hd5 : ∀ w', Ext w3 w' → w'.cell? ⟨b5, o5, none⟩ = some (.int .i64 kb) := fun w' h => (hc5 0 (by decide) w' h).trans (lk_get HK2.out 0 (by decide))
    clear hc5
    ((refine wpY_q rfl rfl _ (fun w' hx' => by go_simp; try rfl) ?_; go_simp))
    refine wpY_q rfl rfl (.int .i64 kb) (fun w' hx' => by have hb' := hd5 w' hx'; go_simp; try rfl) ?_
    go_simp
    iterate 4 ((refine wpY_q rfl rfl _ (fun w' hx' => by go_simp; try rfl) ?_; go_simp))
    refine wpY_ix rfl rfl (.tmp 29) (.tmp 30) rfl Try.elLk rfl R1 j rfl rfl hjn ?_
    intro b6 o6 hc6
    have hd6 : ∀ w', Ext w3 w' → w'.cell? ⟨b6, o6 + 1, none⟩ = some (.slice ka kn kc) := fun w' h => (hc6 1 (by decide) w' h).trans (lk_get HK1.out 1 (by decide))
    clear hc6
    ((refine wpY_q rfl rfl _ (fun w' hx' => by go_simp; try rfl) ?_; go_simp))
    refine wpY_q rfl rfl (.slice ka kn kc) (fun w' hx' => by have hb' := hd6 w' hx'; go_simp; try rfl) ?_
    go_simp
    refine wpY_conv rfl rfl (.tmp 33) rfl rfl (fun w' h => hB1.ext h) Try.underlying28 Try.underlying5 Try.underlying9 ?_
    iterate 2 ((refine wpY_q rfl rfl _ (fun w' hx' => by go_simp; try rfl) ?_; go_simp))
    refine wpY_ix rfl rfl (.tmp 35) (.tmp 36) rfl Try.elLk rfl R2 j rfl rfl hjn ?_
    intro b7 o7 hc7
    have hd7 : ∀ w', Ext w3 w' → w'.cell? ⟨b7, o7 + 1, none⟩ = some (.slice a4 m2 c4) := fun w' h => (hc7 1 (by decide) w' h).trans (lk_get HK2.out 1 (by decide))
    clear hc7
    ((refine wpY_q rfl rfl _ (fun w' hx' => by go_simp; try rfl) ?_; go_simp))
    refine wpY_q rfl rfl (.slice a4 m2 c4) (fun w' hx' => by have hb' := hd7 w' hx'; go_simp; try rfl) ?_
    go_simp
    refine wpY_conv rfl rfl (.tmp 39) rfl rfl (fun w' h => hB2.ext h) Try.underlying28 Try.underlying5 Try.underlying9 ?_
    iterate 2 ((refine wpY_q rfl rfl _ (fun w' hx' => by go_simp; try rfl) ?_; go_simp))
    refine wpY_nil ?_
    go_simp
    clear hd4 hd5 hd6 hd7
    go_wp2
    go_roundw
    case rel =>
      refine ⟨j + 1, by go_num, by have := HL1.out; omega, ?_, hx3.trans' (Ext.drew' w3)⟩
      rw [List.map_take, List.map_take, HD.out]
    case measure => simp [intOf]; omega
end Go.Proofs.Ytkhjeeaojlaagaa
/-
  Chains, the reference's: Drop.
-/
namespace Go.Proofs.Ytkhjeeaojlaagaa
open Go.RowKit

def RdMid (w3 : World) (x : Int) (kl : List UInt8) (v : Nat → Value) (w' : World) : Prop :=
  ∃ (b n c : Nat) (a : Option Addr), v 11 = .pointer (some ⟨b, 0, none⟩) ∧ w'.heap[b]? = some (.cells #[.int .i64 x, .slice a n c] 45 (0, 0)) ∧ w3.heap.size ≤ b ∧ w'.ownsRow w3.heap.size 5 1 (.slice a n c) n (kl.map u8) ∧ Ext w3 w'
theorem OwnBts.appo {w w' : World} {B n c B' n' c' : Nat} {a a' : Option Addr} {L : List Bt} {ys : List Value} (h : OwnBts w B a n c L) (h' : w.ownsRow B' 45 2 (.slice a' n' c') n' ys) (hg : w.grownBy w' (blockOf a')) : OwnBts w' B a n c L :=
  ⟨h.len, own_app_other h.own h' (by decide) hg, fun y hy => ⟨own_app_other (h.dat y hy).1 h' (by decide) hg, (h.dat y hy).2⟩⟩
def RdRel (w : World) (cs : Option Addr × Nat × Nat) (BL : List Bt) (S : List (List UInt8 × Nat)) (L : List Ln) (k : Nat) (out i : Value) (wr : World) : Prop :=
  ∃ (j m c : Nat) (a : Option Addr) (LL : List Lk), i = .int .i64 j ∧ out = .slice a m c ∧ m + k = j ∧ j ≤ L.length ∧ OwnLks wr w.heap.size a m c LL ∧ LL.map Lk.d = (drF S k k (L.drop k)).take m ∧ OwnBts wr w.heap.size cs.1 cs.2.1 cs.2.2 BL ∧ Ext w wr
theorem drF_next {S : List (List UInt8 × Nat)} {L : List Ln} {k m : Nat} {x : Ln} (hx : L[k + m]? = some x) : (drF S k k (L.drop k)).take (m + 1) = (drF S k k (L.drop k)).take m ++ [drL S k (k + m) x] := by
  rw [List.take_add_one, drF_get, List.getElem?_drop, hx]; rfl

set_option maxRecDepth 100000 in
set_option maxHeartbeats 8000000 in
theorem refDrop27_any (a : Option Addr) (n c : Nat) (L : List Lk) (first : Int) (w : World) (hL : Links w a n c L) (hn : n ≤ 140737488355328) (hf : i64B first) {LR : List Ln} {er : Int} (hr : drC (L.map Lk.d) first = (LR, er)) :
    Calls Try.prog 27 #[.slice a n c, .int .i64 first] w (LkR w LR er) := by
  obtain ⟨S, e0, hst⟩ : ∃ S e0, stC (L.map Lk.d) = (S, e0) := ⟨_, _, rfl⟩
  have HM := Lib.hid (state_any a n c L w hL hn hst)
  have HLN := Lib.hid hL.1
  have hf' : -9223372036854775808 ≤ first ∧ first ≤ 9223372036854775807 := hf
  unfold drC at hr
  rw [hst] at hr
  simp only at hr
  rw [List.length_map, hL.1] at hr
  by_cases he : e0 = 0
  rotate_left
  · rw [if_neg he] at hr
    cases hr
    obtain ⟨q1, q2⟩ := neI he
    clear he
    go_enter Try.func27, Try.ntmps27
    go_wp2_with (first
      | (go_at_call 34; (with_reducible refine HM.out.mono ?_); rintro e w2 ⟨a2, d2, m, c2, e2, BL, rfl, hB, hBS, hD, hx2⟩; clear hB hBS hD)
      | fail)
    go_ret2
    exact ⟨none, 0, 0, [], rfl, OwnLks.nil _ _, rfl, hx2⟩
  subst he
  rw [if_pos rfl] at hr
  by_cases hlt : first < 0
  · rw [if_pos (.inl hlt)] at hr
    cases hr
    have hd : decide (first < 0) = true := decide_eq_true hlt
    go_enter Try.func27, Try.ntmps27
    go_wp2_with (first
      | (go_at_call 34; (with_reducible refine HM.out.mono ?_); rintro e w2 ⟨a2, d2, m, c2, e2, BL, rfl, hB, hBS, hD, hx2⟩; clear hB hBS hD)
      | fail)
    go_ret2
    exact ⟨none, 0, 0, [], rfl, OwnLks.nil _ _, rfl, hx2⟩
  obtain ⟨k, rfl⟩ := Int.eq_ofNat_of_zero_le (show 0 ≤ first by omega)
  by_cases hgt : (n : Int) < k
  · rw [if_pos (.inr hgt)] at hr
    cases hr
    have hd : decide ((n : Int) < k) = true := decide_eq_true hgt
    go_enter Try.func27, Try.ntmps27
    go_wp2_with (first
      | (go_at_call 34; (with_reducible refine HM.out.mono ?_); rintro e w2 ⟨a2, d2, m, c2, e2, BL, rfl, hB, hBS, hD, hx2⟩; clear hB hBS hD)
      | fail)
    go_ret2
    exact ⟨none, 0, 0, [], rfl, OwnLks.nil _ _, rfl, hx2⟩
  rw [if_neg (by omega), Int.toNat_natCast] at hr
  simp only [Prod.mk.injEq] at hr
  obtain ⟨hLR, rfl⟩ := hr
  have hkn : k ≤ n := by omega
  have hd0 : decide ((n : Int) < k) = false := decide_eq_false (by omega)
  obtain ⟨hV, hn256⟩ := stC_val hst
  rw [List.length_map, hL.1] at hn256
  have HLR := Lib.hid hLR
  have HV := Lib.hid hV
  have HLL := Lib.hid hL
  have hrow := hL.2.1
  clear hLR hV hst hlt hgt hL
  go_enter Try.func27, Try.ntmps27
  go_wp2_with (first
    | (go_at_call 34; (with_reducible refine HM.out.mono ?_); rintro e w2 ⟨a2, d2, m2, c2, e2, BL, rfl, hB, hBS, hD, hx2⟩; clear hD)
    | fail)
  have hm2 : m2 = n := by rw [← hB.len, ← List.length_map (f := Bt.l), hBS, List.length_map, HV.out.len, List.length_map, HLN.out]
  subst hm2
  have HB := Lib.hid hB
  have HBS := Lib.hid hBS
  clear hB hBS hd0
  go_loopw [9, 10] (RdRel w (a2, m2, c2) BL S (L.map Lk.d) k) (fun _ i _ => m2 - (intOf i).toNat)
  case atStart => exact ⟨k, 0, 0, none, [], rfl, rfl, Nat.zero_add _, by rw [List.length_map, HLN.out]; exact hkn, OwnLks.nil _ _, by rw [List.take_zero]; rfl, HB.out, hx2⟩
  case round =>
    obtain ⟨j, m, oc, oa, LL, rfl, rfl, hmk, hj, hO, hD, hB3, hx⟩ := hrel
    rename World => w3
    simp only at hB3
    have HB3 := Lib.hid hB3
    clear hB3
    rw [List.length_map, HLN.out] at hj
    by_cases hjn : j < m2
    rotate_left
    · obtain rfl : j = m2 := by omega
      have hfin : LL.map Lk.d = LR := by
        rw [hD, List.take_of_length_le (by rw [drF_length, List.length_drop, List.length_map, HLN.out]; omega)]
        exact HLR.out
      have HF := Lib.hid hfin
      have HO := Lib.hid hO
      clear hfin hD hO
      go_wp2
      go_ret2
      exact ⟨oa, m, oc, LL, rfl, HO.out, HF.out, hx⟩
    obtain ⟨x, hxx⟩ : ∃ x, L[j]? = some x := ⟨_, List.getElem?_eq_getElem (by rw [HLN.out]; exact hjn)⟩
    have hxL : (L.map Lk.d)[j]? = some x.d := by rw [List.getElem?_map, hxx]; rfl
    obtain ⟨z, hz1, hz2⟩ := HV.out.2 j _ hxL
    obtain ⟨zc, zd⟩ := z
    have hbk := lnS_ok hz2
    have hyr : -1 ≤ x.b ∧ x.b < (j : Nat) := by
      rcases hbk with ⟨h1, -, -⟩ | ⟨jj, ct, dt, os, h1, h2, -⟩
      · have h1' : x.b = -1 := h1; omega
      · have h1' : x.b = jj := h1
        have := (List.getElem?_eq_some_iff.1 h2).1
        rw [List.length_take] at this
        omega
    obtain ⟨kz, hkz, hkzl⟩ := bt_of HBS.out hz1
    have hkzo := HB3.out.dat kz (List.mem_of_getElem? hkz)
    obtain ⟨hkb, hkn, hki⟩ := (HLL.out.2.2 x (List.mem_of_getElem? hxx)).ext hx
    have hts : (drF S k k ((L.map Lk.d).drop k)).take (m + 1) = (drF S k k ((L.map Lk.d).drop k)).take m ++ [drL S k (k + m) x.d] := drF_next (by rw [Nat.add_comm, hmk]; exact hxL)
    rw [show k + m = j by omega] at hts
    have hr3 : ∀ w', Ext w3 w' → Row w' a m2 c 2 (L.flatMap Lk.cells) := fun w' h => hrow.ext (hx.trans' h)
    obtain ⟨kb, ka, kn, kc, kl⟩ := x
    have HK := Lib.hid hxx
    have HKB := Lib.hid hkb
    have HTS := Lib.hid hts
    have HO := Lib.hid hO
    have HD := Lib.hid hD
    have HX := Lib.hid hx
    have HZ := Lib.hid hz1
    have HKZ := Lib.hid hkz
    have HKO := Lib.hid hkzo
    have HKL := Lib.hid hkzl
    have HXB := Lib.hid hx2
    simp only at hkn hyr
    have hwr : IntKind.i64.wrap (kb - (k : Int)) = kb - (k : Int) := by rw [IntKind.wrap_i64]; omega
    clear hxx hkb hki hts hO hD hx hz1 hz2 hbk hxL hkz hkzo hkzl
    go_wp2
    refine wp_region_e [] (.qs [0, 1, 2, 3, 4, 5, 6, 7, 8, 9, 10, 11] (.alt 12 (.qs [13] (.l 14 (.l 15 .nil))) (.alt 14 (.l 12 (.qs [13] (.l 15 .nil))) .stop))) (by kernel_rfl) (by kernel_rfl) ?_
    refine wpY_midA (Meets [11, 36, 37, 38, 39, 40, 41, 42, 43, 44, 45, 46, 47, 48, 49] (RdMid w3 (kb - k) kl)) ?_ ?_
    · have E3 := Ext.drew' w3
      iterate 2 ((refine wpY_q rfl rfl _ (fun w' hx' => by go_simp; try rfl) ?_; go_simp))
      refine wpY_ix rfl rfl (.tmp 36) (.tmp 37) rfl Try.elLk rfl hr3 j rfl rfl hjn ?_
      intro b4 o4 hc4
      have hd4 : ∀ w', Ext w3 w' → w'.cell? ⟨b4, o4, none⟩ = some (.int .i64 kb) := fun w' h => (hc4 0 (by decide) w' h).trans (lk_get HK.out 0 (by decide))
      clear hc4
      ((refine wpY_q rfl rfl _ (fun w' hx' => by go_simp; try rfl) ?_; go_simp))
      refine wpY_q rfl rfl (.int .i64 kb) (fun w' hx' => by have hb' := hd4 w' hx'; go_simp; try rfl) ?_
      go_simp
      ((refine wpY_q rfl rfl _ (fun w' hx' => by go_simp; try rfl) ?_; go_simp))
      refine wpY_q rfl rfl (.int .i64 (kb - (k : Int))) (fun w' hx' => by go_simp; try rfl) ?_
      go_simp
      iterate 2 ((refine wpY_q rfl rfl _ (fun w' hx' => by go_simp; try rfl) ?_; go_simp))
      refine wpY_ix rfl rfl (.tmp 43) (.tmp 44) rfl Try.elLk rfl hr3 j rfl rfl hjn ?_
      intro b5 o5 hc5
      have hd5 : ∀ w', Ext w3 w' → w'.cell? ⟨b5, o5 + 1, none⟩ = some (.slice ka kn kc) := fun w' h => (hc5 1 (by decide) w' h).trans (lk_get HK.out 1 (by decide))
      clear hc5
      ((refine wpY_q rfl rfl _ (fun w' hx' => by go_simp; try rfl) ?_; go_simp))
      refine wpY_q rfl rfl (.slice ka kn kc) (fun w' hx' => by have hb' := hd5 w' hx'; go_simp; try rfl) ?_
      go_simp
      clear hd4 hd5
      refine wpY_alt rfl rfl (owp_clone _ _ rfl Try.elB rfl rfl (HKB.out.ext E3).row (u8_oneCell _) (by omega) ?_) (wpY_alt rfl rfl ?_ wpY_stop)
      · intro a6 c6 w6 ho6 hx6
        have E6 := E3.trans' hx6
        refine ⟨fun _ => E6, ?_⟩
        go_simp
        ((refine wpY_q rfl rfl _ (fun w' hx' => by go_simp; try rfl) ?_; go_simp))
        refine wpY_l rfl rfl ?_
        go_simp
        have E7 := E6.trans' (Ext.alloc' w6 (.cells #[.int .i64 0, .slice none 0 0] 45))
        have ho7 := own_ext ho6 (Ext.alloc' w6 (.cells #[.int .i64 0, .slice none 0 0] 45))
        have hh7 := heap_alloc_new w6 (.cells #[.int .i64 0, .slice none 0 0] 45)
        refine ⟨E7, ?_⟩
        generalize w6.alloc (.cells #[.int .i64 0, .slice none 0 0] 45) = w7 at E7 ho7 hh7 ⊢
        refine wpY_l rfl rfl (wp_store_row _ _ _ rfl w6.heap.size #[.int .i64 (kb - (k : Int)), .slice a6 kn c6] rfl rfl _ _ hh7 (by kernel_rfl) rfl (by simp [Value.oneCell']) ?_)
        have E8 : Ext w3 (w7.setRow w6.heap.size #[.int .i64 (kb - (k : Int)), .slice a6 kn c6]) := E7.setRow E6.size
        have ho8 := own_other ho7 (grown_setRow w7 w6.heap.size #[.int .i64 (kb - (k : Int)), .slice a6 kn c6]) (fun e => own_apart ho7 hh7 (by decide) e.symm)
        exact ⟨fun _ => E8, wpY_nil (Meets.mk (by kernel_rfl) ⟨w6.heap.size, kn, c6, a6, rfl, setRow_heap w7 w6.heap.size _ _ _ _ hh7, E6.size, own_base ho8 E3.size, E8⟩)⟩
      · go_simp
        have hh0 := heap_alloc_new w3.drew (.cells #[.int .i64 0, .slice none 0 0] 45)
        have E4 := E3.trans' (Ext.alloc' w3.drew (.cells #[.int .i64 0, .slice none 0 0] 45))
        refine ⟨E4, ?_⟩
        refine wpY_l rfl rfl (owp_clone _ _ rfl Try.elB rfl rfl (HKB.out.ext E4).row (u8_oneCell _) (by omega) ?_)
        intro a6 c6 w6 ho6 hx6
        have E6 := E4.trans' hx6
        have hh6 := hx6.heap' hh0
        have hb6 : w3.heap.size ≤ w3.drew.heap.size := E3.size
        refine ⟨fun _ => E6, ?_⟩
        go_simp
        ((refine wpY_q rfl rfl _ (fun w' hx' => by go_simp; try rfl) ?_; go_simp))
        refine wpY_l rfl rfl (wp_store_row _ _ _ rfl w3.drew.heap.size #[.int .i64 (kb - (k : Int)), .slice a6 kn c6] rfl rfl _ _ hh6 (by kernel_rfl) rfl (by simp [Value.oneCell']) ?_)
        have E8 : Ext w3 (w6.setRow w3.drew.heap.size #[.int .i64 (kb - (k : Int)), .slice a6 kn c6]) := E6.setRow hb6
        have ho8 := own_other ho6 (grown_setRow w6 w3.drew.heap.size #[.int .i64 (kb - (k : Int)), .slice a6 kn c6]) (fun e => own_apart ho6 hh6 (by decide) e.symm)
        exact ⟨fun _ => E8, wpY_nil (Meets.mk (by kernel_rfl) ⟨w3.drew.heap.size, kn, c6, a6, rfl, setRow_heap w6 w3.drew.heap.size _ _ _ _ hh6, hb6, own_base ho8 E4.size, E8⟩)⟩
    · rintro a' w5 ⟨v, rfl, b, n5, c5, a5, hv, hh5, hb5, ho5, hx5⟩
      simp only [fill, hv]
      go_simp
      clear hv
      have hl5 := own_len ho5
      have hkl := HKB.out.len
      have hr5 := hr3 w5 hx5
      have hz5 := HX.out.size
      have HH5 := Lib.hid hh5
      have HO5 := Lib.hid ho5
      have hbk := fun i => cell_of_row w5 b i _ _ _ hh5
      by_cases hlt : kb < (k : Int)
      · have hd1 : decide (kb < (k : Int)) = true := decide_eq_true hlt
        have hrg6 : (w5.setRow b #[.int .i64 (-1), .slice kz.a kz.n kz.c]).rangeAt b 0 [.int .i64 (-1), .slice kz.a kz.n kz.c] := fun i v hi => by
          rw [Nat.zero_add, cell_of_row _ _ i _ _ _ (setRow_heap w5 b _ _ _ _ hh5)]
          simpa using hi
        have hgs := grown_setRow w5 b #[.int .i64 (-1), .slice kz.a kz.n kz.c]
        have hx6 : Ext w3 (w5.setRow b #[.int .i64 (-1), .slice kz.a kz.n kz.c]) := hx5.setRow hb5
        have HR2 := Lib.hid ((HB3.out.ext hx5).bts.2.1)
        generalize hw6 : w5.setRow b #[.int .i64 (-1), .slice kz.a kz.n kz.c] = w6 at hrg6 hgs hx6
        have HW6 := Lib.hid hw6
        have hal := Ext.alloc' w6 (.cells #[.int .i64 (-1), .slice kz.a kz.n kz.c] 45)
        have HLO := Lib.hid ((HO.out.ext hx6).ext hal)
        have hls := HLO.out.len
        clear hh5 ho5 hbk hw6
        go_wp2_with (first
          | ((with_reducible refine atSlot 52 ?_); refine wpList_of_wp rfl (owp_ix (o := ⟨some 52, _, _, _, _, _⟩) _ _ rfl Try.elLk rfl hr5 j rfl rfl hjn ?_); intro b3 o3 hc3; have hd3 := (hc3 0 (by decide)).trans (lk_get HK.out 0 (by decide)); simp only [Lk.cells, Nat.add_zero, List.getElem?_cons_zero] at hd3; clear hc3)
          | ((with_reducible refine atSlot 59 ?_); refine wpList_of_wp rfl (owp_ix (o := ⟨some 59, _, _, _, _, _⟩) _ _ rfl Try.elBs rfl HR2.out j rfl rfl hjn ?_); intro b8 o8 hc8; have hd9 := bt_cell HKZ.out hc8; clear hc8)
          | ((with_reducible refine atStore 11 ?_); refine wpList_of_wp rfl (wp_store_row (o := ⟨none, _, _, _, _, _⟩) _ _ _ rfl b #[.int .i64 (-1), .slice kz.a kz.n kz.c] rfl rfl _ _ HH5.out (by kernel_rfl) rfl (by simp [Value.oneCell']) ?_); rw [HW6.out])
          | ((with_reducible refine atSlot 63 ?_); refine wpList_of_wp rfl (wp_load_mid (op := ⟨some 63, _, _, _, _, _⟩) 45 _ rfl b 0 rfl [.int .i64 (-1), .slice kz.a kz.n kz.c] _ hrg6 Try.underlying45 rfl (by kernel_rfl) ?_); clear hrg6)
          | ((with_reducible refine atSlot 65 ?_); refine wpList_of_wp rfl (owp_app (o := ⟨some 65, _, _, _, _, _⟩) _ _ rfl Try.elLk rfl HLO.out.own rfl (Row.new w6 #[.int .i64 (-1), .slice kz.a kz.n kz.c] 45 1 2 rfl (by decide)) (lk_oneCell [⟨-1, kz.a, kz.n, kz.c, []⟩]) (by omega) (by unfold maxLen; omega) (Nat.le_trans (Nat.le_trans hz5 hx6.size) hal.size) ?_); intro a9 c9 w9 ho9 hg9)
          | fail)
        have hO9 := OwnLks.push (y := ⟨-1, kz.a, kz.n, kz.c, kz.l⟩) HLO.out hg9 ho9 (own_ext (own_ext HKO.out.1 hx6) hal) ⟨HKO.out.2, i64_of (by show (-9223372036854775808 : Int) ≤ -1; decide) (by show (-1 : Int) ≤ (9223372036854775807 : Int); decide)⟩
        have hx9 := below_app ((HX.out.trans' hx6).trans' hal) HLO.out.own hg9 ((HX.out.trans' hx6).trans' hal).size
        go_roundw
        case rel =>
          refine ⟨j + 1, m + 1, c9, a9, _, by go_num, rfl, by omega, by rw [List.length_map, HLN.out]; omega, hO9, ?_, ((HB3.out.ext hx6).ext hal).appo HLO.out.own hg9, hx9⟩
          rw [List.map_append, HD.out, HTS.out]
          unfold drL
          rw [if_pos (by show kb < (k : Int); omega), getD_of HZ.out, ← HKL.out]
          rfl
        case measure => simp [intOf]; omega
      · have hd1 : decide (kb < (k : Int)) = false := decide_eq_false hlt
        have hrg5 : w5.rangeAt b 0 [.int .i64 (kb - (k : Int)), .slice a5 n5 c5] := fun i v hi => by
          rw [Nat.zero_add, cell_of_row _ _ i _ _ _ hh5]
          simpa using hi
        have hal := Ext.alloc' w5 (.cells #[.int .i64 (kb - (k : Int)), .slice a5 n5 c5] 45)
        have HLO := Lib.hid ((HO.out.ext hx5).ext hal)
        have hls := HLO.out.len
        clear hh5 ho5 hbk
        go_wp2_with (first
          | ((with_reducible refine atSlot 52 ?_); refine wpList_of_wp rfl (owp_ix (o := ⟨some 52, _, _, _, _, _⟩) _ _ rfl Try.elLk rfl hr5 j rfl rfl hjn ?_); intro b3 o3 hc3; have hd3 := (hc3 0 (by decide)).trans (lk_get HK.out 0 (by decide)); simp only [Lk.cells, Nat.add_zero, List.getElem?_cons_zero] at hd3; clear hc3)
          | ((with_reducible refine atSlot 63 ?_); refine wpList_of_wp rfl (wp_load_mid (op := ⟨some 63, _, _, _, _, _⟩) 45 _ rfl b 0 rfl [.int .i64 (kb - (k : Int)), .slice a5 n5 c5] _ hrg5 Try.underlying45 rfl (by kernel_rfl) ?_); clear hrg5)
          | ((with_reducible refine atSlot 65 ?_); refine wpList_of_wp rfl (owp_app (o := ⟨some 65, _, _, _, _, _⟩) _ _ rfl Try.elLk rfl HLO.out.own rfl (Row.new w5 #[.int .i64 (kb - (k : Int)), .slice a5 n5 c5] 45 1 2 rfl (by decide)) (lk_oneCell [⟨kb - (k : Int), a5, n5, c5, []⟩]) (by omega) (by unfold maxLen; omega) (Nat.le_trans (Nat.le_trans hz5 hx5.size) hal.size) ?_); intro a9 c9 w9 ho9 hg9)
          | fail)
        have hO9 := OwnLks.push (y := ⟨kb - (k : Int), a5, n5, c5, kl⟩) HLO.out hg9 ho9 (own_ext (own_base HO5.out hz5) hal) ⟨(by show n5 ≤ _; omega), i64_of (by show (-9223372036854775808 : Int) ≤ kb - (k : Int); omega) (by show kb - (k : Int) ≤ (9223372036854775807 : Int); omega)⟩
        have hx9 := below_app ((HX.out.trans' hx5).trans' hal) HLO.out.own hg9 ((HX.out.trans' hx5).trans' hal).size
        go_roundw
        case rel =>
          refine ⟨j + 1, m + 1, c9, a9, _, by go_num, rfl, by omega, by rw [List.length_map, HLN.out]; omega, hO9, ?_, ((HB3.out.ext hx5).ext hal).appo HLO.out.own hg9, hx9⟩
          rw [List.map_append, HD.out, HTS.out]
          unfold drL
          rw [if_neg (by show ¬ kb < (k : Int); omega)]
          rfl
        case measure => simp [intOf]; omega
end Go.Proofs.Ytkhjeeaojlaagaa
