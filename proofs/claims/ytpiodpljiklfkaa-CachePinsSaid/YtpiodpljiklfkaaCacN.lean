/-
  The law CachePins.
-/
import Derived.Test.YtpiodpljiklfkaaCacL
import Derived.Test.YtpiodpljiklfkaaCacD
import Derived.Test.YtpiodpljiklfkaaFpR
namespace Go.Proofs.Ytpiodpljiklfkaa
open Go.RowKit Go.WideMaps

theorem xor_fin : ∀ x : Fin 256, bits .xor .u8 (x.val : Int) 1 = ((x.val ^^^ 1 : Nat) : Int) ∧ (x.val ^^^ 1) ≠ x.val ∧ (x.val ^^^ 1) < 256 := by decide +kernel
theorem xor_one (x : UInt8) : ∃ y : UInt8, Value.int .u8 (bits .xor .u8 (x.toNat : Int) 1) = u8 y ∧ y ≠ x := by
  obtain ⟨h1, h2, h3⟩ := xor_fin ⟨x.toNat, x.toNat_lt⟩
  simp only at h1 h2 h3
  refine ⟨UInt8.ofNat (x.toNat ^^^ 1), ?_, fun e => h2 ?_⟩
  · rw [h1]
    show Value.int .u8 _ = Value.int .u8 _
    congr 1
    rw [UInt8.toNat_ofNat_of_lt' h3]
  · have h := congrArg UInt8.toNat e
    rwa [UInt8.toNat_ofNat_of_lt' h3] at h
theorem StB.low {F : List Nat} {w : World} {B n cp : Nat} {a : Option Addr} {l : List UInt8} (h : Bytes w a n cp l) (ha : ∀ p, a = some p → p.block < B) (hF : ∀ k ∈ F, B ≤ k) (hB : B ≤ w.heap.size) : StB F w a n cp l := fun _ hc =>
  ⟨h.1, h.2.below (hc.below hF hB) ha⟩
/-- The one chunk, with so many pins. -/
def one (l : List UInt8) (p : Nat) : List En := [⟨fp l, (l.length : Int), l, p⟩]
theorem one_put (l : List UInt8) (h : 0 < l.length) : putC l.length [] (fp l, (l.length : Int)) l = (one l 0, [], 0) := by
  unfold putC
  rw [if_neg (by rintro (h1 | h1); omega; exact h1 rfl)]
  simp [putF, atF, pinF, evF, one]
theorem one_at (l : List UInt8) (p : Nat) : atF (fp l, (l.length : Int)) (one l p) = some 0 := by simp [atF, one, En.id]
theorem one_pin (l : List UInt8) (p : Nat) : pinC (one l p) (fp l, (l.length : Int)) = if 1024 ≤ p then (one l p, false) else (one l (p + 1), true) := by
  unfold pinC
  rw [one_at]
  simp [one, setP]
theorem one_unp (l : List UInt8) (p : Nat) : unpC (one l p) (fp l, (l.length : Int)) = if p = 0 then (one l p, false) else (one l (p - 1), true) := by
  unfold unpC
  rw [one_at]
  simp [one, setP]
theorem one_pins (l : List UInt8) (p : Nat) : pinsC (one l p) (fp l, (l.length : Int)) = p := by
  unfold pinsC
  rw [one_at]
  simp [one]
theorem one_full (l m : List UInt8) (p : Nat) (hp : 0 < p) (hl : m.length = l.length) (h0 : 0 < l.length) (hne : fp m ≠ fp l) : putC l.length (one l p) (fp m, (m.length : Int)) m = (one l p, [], 382) := by
  unfold putC
  rw [if_neg (by rintro (h1 | h1); omega; exact h1 rfl)]
  simp [putF, atF, one, En.id, Ne.symm hne, pinF, hp, hl, h0]
theorem one_gone (l m : List UInt8) (hl : m.length = l.length) (h0 : 0 < l.length) (hne : fp m ≠ fp l) : putC l.length (one l 0) (fp m, (m.length : Int)) m = (one m 0, [(fp l, (l.length : Int))], 0) := by
  unfold putC
  rw [if_neg (by rintro (h1 | h1); omega; exact h1 rfl)]
  have hnn : ¬ (l.length + l.length ≤ l.length) := by omega
  simp [putF, atF, one, En.id, Ne.symm hne, pinF, hl, sizeF, evF, hnn]
theorem one_none (l m : List UInt8) (hne : fp m ≠ fp l) (k : Int) : atF (fp l, k) (one m 0) = none := by simp [atF, one, En.id, hne]

/-- Kept through the law. -/
def PnS (w : World) (c r : Nat) (E : List En) (b s : Nat) (z : Int) (wr : World) : Prop :=
  ∃ F, Cac wr w.heap.size c r E F ∧ IdBox wr b s z ∧ Ext w wr
theorem PnS.ext {w : World} {c r : Nat} {E : List En} {b s : Nat} {z : Int} {wr w' : World} (h : PnS w c r E b s z wr) (hx : Ext wr w') : PnS w c r E b s z w' := by
  obtain ⟨F, h1, h2, h5⟩ := h
  exact ⟨F, h1.ext hx, h2.ext hx, h5.trans' hx⟩
theorem PnS.to {w : World} {c r : Nat} {E' : List En} {b s : Nat} {z : Int} {wr w' : World} {F : List Nat} {E : List En} (h1 : Cac wr w.heap.size c r E F) (h2 : IdBox wr b s z) (h5 : Ext w wr) (ht : CacTo wr w.heap.size c r F E' w') : PnS w c r E' b s z w' := by
  obtain ⟨F', g1, g2, -⟩ := ht
  exact ⟨F', g1, h2.chg g2 h1.typed, ⟨g2.os.trans h5.os, g2.tape.trans h5.tape, g2.output.trans h5.output, Nat.le_trans h5.size g2.size, fun k hk => (g2.block k (Nat.lt_of_lt_of_le hk h5.size) fun hm => by have := h1.base k hm; omega).trans (h5.block k hk)⟩⟩
theorem PnS.rd {w : World} {c r : Nat} {E : List En} {b s : Nat} {z : Int} {wr : World} (h : PnS w c r E b s z wr) : wr.rangeAt b 0 [.int .u64 s, .int .i64 z] := by
  obtain ⟨F, -, h2, -⟩ := h
  exact h2.rd
theorem pn_pin {w w1 : World} {c r : Nat} {E E' : List En} {b s : Nat} {z : Int} {q : Bool} (h : PnS w c r E b s z w1) (hp : pinC E (s, z) = (E', q)) (hs : s ≤ 18446744073709551615) (hz : -9223372036854775808 ≤ z ∧ z ≤ 9223372036854775807) :
    Calls Try.prog 23 #[.pointer (some ⟨c, 0, none⟩), .agg #[.int .u64 s, .int .i64 z]] w1 (fun en w' => en = .returned (.bool q) ∧ PnS w c r E' b s z w') := by
  obtain ⟨F, h1, h2, h5⟩ := h
  have hg := Pin_any w.heap.size c r E F s z w1 h1 hs hz
  rw [hp] at hg
  exact hg.mono fun en w' ⟨g1, g2⟩ => ⟨g1, PnS.to h1 h2 h5 g2⟩
theorem pn_unp {w w1 : World} {c r : Nat} {E E' : List En} {b s : Nat} {z : Int} {q : Bool} (h : PnS w c r E b s z w1) (hp : unpC E (s, z) = (E', q)) (hs : s ≤ 18446744073709551615) (hz : -9223372036854775808 ≤ z ∧ z ≤ 9223372036854775807) :
    Calls Try.prog 24 #[.pointer (some ⟨c, 0, none⟩), .agg #[.int .u64 s, .int .i64 z]] w1 (fun en w' => en = .returned (.bool q) ∧ PnS w c r E' b s z w' ∧ ∃ F, Chg F w1 w' ∧ Typed w1 F) := by
  obtain ⟨F, h1, h2, h5⟩ := h
  have hg := Unpin_any w.heap.size c r E F s z w1 h1 hs hz
  rw [hp] at hg
  exact hg.mono fun en w' ⟨g1, g2⟩ => ⟨g1, PnS.to h1 h2 h5 g2, F, by obtain ⟨_, _, g, _⟩ := g2; exact g, h1.typed⟩
theorem pn_pins {w w1 : World} {c r : Nat} {E : List En} {b s p : Nat} {z : Int} (h : PnS w c r E b s z w1) (hp : pinsC E (s, z) = p) (hs : s ≤ 18446744073709551615) (hz : -9223372036854775808 ≤ z ∧ z ≤ 9223372036854775807) :
    Calls Try.prog 25 #[.pointer (some ⟨c, 0, none⟩), .agg #[.int .u64 s, .int .i64 z]] w1 (fun en w' => en = .returned (.int .i64 p) ∧ PnS w c r E b s z w') := by
  have h' := h
  obtain ⟨F, h1, h2, h5⟩ := h
  have hg := Pins_any w.heap.size c r E F s z w1 h1 hs hz
  rw [hp] at hg
  exact hg.mono fun en w' ⟨g1, g2⟩ => ⟨g1, h'.ext g2⟩
theorem pn_put {w w1 : World} {c r : Nat} {E E' : List En} {gone : List (Nat × Int)} {er : Int} {b s s2 n cp : Nat} {z z2 : Int} {a : Option Addr} {l : List UInt8} (h : PnS w c r E b s z w1) (hp : putC r E (s2, z2) l = (E', gone, er))
    (hb : ∀ F, Cac w1 w.heap.size c r E F → StB F w1 a n cp l) (hn : n ≤ 140737488355328) :
    Calls Try.prog 21 #[.pointer (some ⟨c, 0, none⟩), .agg #[.int .u64 s2, .int .i64 z2], .slice a n cp] w1
      (fun en w' => ∃ (a : Option Addr) (cp : Nat), en = .returned (.tuple #[.slice a gone.length cp, .int .i64 er]) ∧ w'.ownsRow w1.heap.size 45 2 (.slice a gone.length cp) gone.length (gone.flatMap idCells) ∧ PnS w c r E' b s z w' ∧ ∃ F, Chg F w1 w' ∧ Typed w1 F) := by
  obtain ⟨F, h1, h2, h5⟩ := h
  have hput := Put38_any w.heap.size c r E F s2 z2 a n cp l w1 h1 (hb F h1) hn
  rw [hp] at hput
  refine hput.mono ?_
  rintro en w' ⟨a, n, cp, rfl, rfl, ho, ht⟩
  exact ⟨a, cp, rfl, ho, PnS.to h1 h2 h5 ht, F, by obtain ⟨_, _, g, _⟩ := ht; exact g, h1.typed⟩
theorem PnS.x {w : World} {c r : Nat} {E : List En} {b s : Nat} {z : Int} {wr : World} (h : PnS w c r E b s z wr) : Ext w wr := by
  obtain ⟨F, -, -, h5⟩ := h
  exact h5
/-- The other bytes, kept while the pins go. -/
def PuRel (w : World) (c r b s : Nat) (z : Int) (l m2 : List UInt8) (m A cp B2 : Nat) (i : Value) (wr : World) : Prop := ∃ j : Nat, i = .int .i64 j ∧ j ≤ m ∧ PnS w c r (one l (m - j)) b s z wr ∧ wr.ownsRow B2 5 1 (.slice (some ⟨A, 0, none⟩) r cp) r (m2.map u8)
def PiRel (w : World) (c r b s : Nat) (z : Int) (l : List UInt8) (m : Nat) (i : Value) (wr : World) : Prop := ∃ j : Nat, i = .int .i64 j ∧ j ≤ m ∧ PnS w c r (one l j) b s z wr

set_option maxRecDepth 100000 in
set_option maxHeartbeats 8000000 in
theorem CachePins_walk (n : Int) (ba : Option Addr) (bn bc : Nat) (l : List UInt8) (w : World) (_h0 : -9223372036854775808 ≤ n) (_h1 : n ≤ 9223372036854775807) (hb : Bytes w ba bn bc l) (hbs : bn ≤ 140737488351232) :
    Calls Try.prog 5 #[.int .i64 n, .slice ba bn bc] w (LawPost w) := by
  by_cases hout : bn < 1 ∨ 1000 < bn
  · have hor : decide ((bn : Int) < 1) = true ∨ decide ((bn : Int) < 1) = false ∧ decide ((1000 : Int) < bn) = true := by
      by_cases h2 : bn < 1
      · exact .inl (decide_eq_true (by omega))
      · exact .inr ⟨decide_eq_false (by omega), decide_eq_true (by omega)⟩
    clear hout
    rcases hor with h2 | ⟨h2, h3⟩
    · go_enter Try.func5, Try.ntmps5
      go_wp2
      go_ret
      exact ⟨rfl, Below.refl _ _⟩
    · go_enter Try.func5, Try.ntmps5
      go_wp2
      go_ret
      exact ⟨rfl, Below.refl _ _⟩
  have hd1 : decide ((bn : Int) < 1) = false := decide_eq_false (by omega)
  have hd2 : decide ((1000 : Int) < bn) = false := decide_eq_false (by omega)
  have hln := hb.len
  have hlt := hb.lt (by omega)
  have hbn : bn ≤ 1000 := by omega
  have hbp : 0 < bn := by omega
  have hs : fp l ≤ 18446744073709551615 := fp_key l
  obtain ⟨s, hse⟩ : ∃ s, s = fp l := ⟨_, rfl⟩
  rw [← hse] at hs
  have HSE := Lib.hid hse
  have HBB := Lib.hid hb
  have HLT := Lib.hid hlt
  have hnew : ∀ w1, Calls Try.prog 12 #[.int .i64 bn] w1 _ := fun w1 => New38_at bn w1 (by omega) (by omega)
  have HNEW := Lib.hid hnew
  have hof : ∀ w1, Bytes w1 ba bn bc l → Calls Try.prog 19 #[.slice ba bn bc] w1 (NewNone (.agg #[.int .u64 s, .int .i64 bn]) w1) := fun w1 h => by
    have h1 := Of_any ba bn bc l w1 h (by omega)
    rwa [← hse] at h1
  have HOF := Lib.hid hof
  clear hout hse hb hlt hnew hof
  go_enter Try.func5, Try.ntmps5
  go_wp2_with (first
    | (go_at_call 12; (with_reducible refine (HNEW.out _).mono ?_); rintro en w1 ⟨c, F1, rfl, hC1, hx1⟩; have HC1 := Lib.hid hC1; clear hC1)
    | (go_at_call 19; (with_reducible refine (HOF.out _ (HBB.out.ext hx1)).mono ?_); rintro en w2 ⟨rfl, hx2⟩; refine Stop.of ?_)
    | fail)
  have hx12 := Ext.trans' hx1 hx2
  have hal := Ext.alloc' w2 (.cells #[.int .u64 0, .int .i64 0] 45)
  have hh3 := setRow_heap (w2.alloc (.cells #[.int .u64 0, .int .i64 0] 45)) w2.heap.size _ #[.int .u64 s, .int .i64 bn] _ _ (heap_alloc_new w2 _)
  have hx3 : Ext w2 ((w2.alloc (.cells #[.int .u64 0, .int .i64 0] 45)).setRow w2.heap.size #[.int .u64 s, .int .i64 bn]) := hal.setRow (Nat.le_refl _)
  generalize hw3 : (w2.alloc (.cells #[.int .u64 0, .int .i64 0] 45)).setRow w2.heap.size #[.int .u64 s, .int .i64 bn] = w3 at hh3 hx3
  obtain ⟨b, hbe⟩ : ∃ b, b = w2.heap.size := ⟨_, rfl⟩
  have hP3 : PnS w c bn [] b s bn w3 := ⟨F1, HC1.out.ext (Ext.trans' hx2 hx3), by rw [hbe]; exact hh3, hx12.trans' hx3⟩
  have HP3 := Lib.hid hP3
  have HW3 := Lib.hid hw3
  have HBE := Lib.hid hbe
  have hh2 := Lib.hid (heap_alloc_new w2 (.cells #[.int .u64 0, .int .i64 0] 45))
  have hp1 : pinC [] (s, (bn : Int)) = ([], false) := rfl
  have hu1 : unpC [] (s, (bn : Int)) = ([], false) := rfl
  have HP1 := Lib.hid hp1
  have HU1 := Lib.hid hu1
  have hzz : -9223372036854775808 ≤ (bn : Int) ∧ (bn : Int) ≤ 9223372036854775807 := by omega
  clear hw3 hh3 hx3 hP3 hal hp1 hu1 hbe
  refine Stop.out ?_
  go_wp2_with (first
    | ((with_reducible refine atStore 7 ?_); refine wpList_of_wp rfl (wp_store_row (o := ⟨none, _, _, _, _, _⟩) _ _ _ rfl w2.heap.size #[.int .u64 s, .int .i64 bn] rfl rfl _ _ hh2.out (by kernel_rfl) rfl (by simp [Value.oneCell']) ?_); rw [HW3.out]; refine Stop.of ?_)
    | fail)
  rw [← HBE.out]
  refine Stop.out ?_
  go_upto_region 7 with (first
    | (go_at_call 14; (with_reducible refine (known38_any _).mono ?_); rintro en w4 ⟨rfl, hx4⟩; have HP4 := Lib.hid (HP3.out.ext hx4); have r4 := HP4.out.rd)
    | ((with_reducible refine atSlot 45 ?_); refine wpList_of_wp rfl (wp_load_mid (op := ⟨some 45, _, _, _, _, _⟩) 45 _ rfl b 0 rfl [.int .u64 s, .int .i64 bn] _ r4 Try.underlying45 rfl (by kernel_rfl) ?_); clear r4)
    | (go_at_call 23; (with_reducible refine (pn_pin HP4.out HP1.out hs hzz).mono ?_); rintro en w5 ⟨rfl, hp5⟩; have HP5 := Lib.hid hp5; have r5 := hp5.rd; clear hp5)
    | ((with_reducible refine atSlot 50 ?_); refine wpList_of_wp rfl (wp_load_mid (op := ⟨some 50, _, _, _, _, _⟩) 45 _ rfl b 0 rfl [.int .u64 s, .int .i64 bn] _ r5 Try.underlying45 rfl (by kernel_rfl) ?_); clear r5)
    | (go_at_call 24; (with_reducible refine (pn_unp HP5.out HU1.out hs hzz).mono ?_); rintro en w6 ⟨rfl, hp6, -⟩; have HP6 := Lib.hid hp6; clear hp6)
    | fail)
  have p7 : putC bn [] (s, (bn : Int)) l = (one l 0, [], 0) := by
    rw [HSE.out, ← hln]
    exact one_put l (by omega)
  have hb7 : ∀ F, Cac w6 w.heap.size c bn [] F → StB F w6 ba bn bc l := fun F hF => StB.low (HBB.out.ext HP6.out.x) HLT.out hF.base hF.below
  have HPU := Lib.hid (pn_put HP6.out p7 hb7 (by omega))
  have r6 := HP6.out.rd
  clear p7 hb7 HP5 HP4 HP3 HC1 hx1 hx2 hx12
  go_wp2_with (first
    | ((with_reducible refine atSlot 55 ?_); refine wpList_of_wp rfl (wp_load_mid (op := ⟨some 55, _, _, _, _, _⟩) 45 _ rfl b 0 rfl [.int .u64 s, .int .i64 bn] _ r6 Try.underlying45 rfl (by kernel_rfl) ?_); clear r6)
    | (go_at_call 21; (with_reducible refine HPU.out.mono ?_); rintro en w7 ⟨a7, c7, rfl, -, hp7, -⟩; have HP7 := Lib.hid hp7; clear hp7)
    | (go_at_call 17; (with_reducible refine (makeFold_any n 1024 _ (by decide)).mono ?_); rintro en w8 ⟨u, rfl, hu, rfl⟩; have hu' : u ≤ 1023 := (by unfold Below1 at hu; omega); clear hu)
    | fail)
  obtain ⟨m, hm⟩ : ∃ m, m = 1 + u := ⟨_, rfl⟩
  have hm2 : (1 : Int) + (u : Int) = m := by omega
  have hm1 : 1 ≤ m := by omega
  have hmx : m ≤ 1024 := by omega
  rw [hm2]
  clear hm hm2 hu' HPU
  go_loopw [10] (PiRel w c bn b s bn l m) (fun i _ => m - (intOf i).toNat)
  case atStart => exact ⟨0, rfl, Nat.zero_le _, HP7.out⟩
  case round =>
    obtain ⟨j, rfl, hj, hp⟩ := hrel
    rename World => w9
    by_cases hjm : j < m
    · have hpp : pinC (one l j) (s, (bn : Int)) = (one l (j + 1), true) := by
        rw [HSE.out, ← hln, one_pin, if_neg (by omega)]
      have HPP := Lib.hid (pn_pin hp hpp hs hzz)
      have r9 := hp.rd
      clear hp hpp
      go_wp2_with (first
        | ((with_reducible refine atSlot 71 ?_); refine wpList_of_wp rfl (wp_load_mid (op := ⟨some 71, _, _, _, _, _⟩) 45 _ rfl b 0 rfl [.int .u64 s, .int .i64 bn] _ r9 Try.underlying45 rfl (by kernel_rfl) ?_); clear r9)
        | (go_at_call 23; (with_reducible refine HPP.out.mono ?_); rintro en w10 ⟨rfl, hp10⟩)
        | fail)
      go_roundw
      case rel => exact ⟨j + 1, by go_num, hjm, hp10⟩
      case measure => simp [intOf]; omega
    obtain rfl : j = m := by omega
    have HP9 := Lib.hid hp
    clear hp HP7 hj
    go_upto_region 16 with fail
    go_cut [87] from 74 to 86 (fun s87 w' => s87 = .bool false ∧ PnS w c bn (one l j) b s bn w')
    case first =>
      have hps : pinsC (one l j) (s, (bn : Int)) = j := by rw [HSE.out, ← hln]; exact one_pins l j
      have HPS := Lib.hid (pn_pins HP9.out hps hs hzz)
      have r9 := HP9.out.rd
      clear hps
      by_cases hmm : j = 1024
      · have hpp : pinC (one l j) (s, (bn : Int)) = (one l j, false) := by rw [HSE.out, ← hln, one_pin, if_pos (by omega)]
        have HPP := Lib.hid hpp
        obtain ⟨q1, q2⟩ := eqI (x := (j : Int)) (y := 1024) (by omega)
        clear hpp hmm
        go_wp2_with (first
          | ((with_reducible refine atSlot 75 ?_); refine wpList_of_wp rfl (wp_load_mid (op := ⟨some 75, _, _, _, _, _⟩) 45 _ rfl b 0 rfl [.int .u64 s, .int .i64 bn] _ r9 Try.underlying45 rfl (by kernel_rfl) ?_); clear r9)
          | (go_at_call 25; (with_reducible refine HPS.out.mono ?_); rintro en w10 ⟨rfl, hp10⟩; have r10 := hp10.rd; have HP10 := Lib.hid (pn_pin hp10 HPP.out hs hzz); clear hp10)
          | ((with_reducible refine atSlot 84 ?_); refine wpList_of_wp rfl (wp_load_mid (op := ⟨some 84, _, _, _, _, _⟩) 45 _ rfl b 0 rfl [.int .u64 s, .int .i64 bn] _ r10 Try.underlying45 rfl (by kernel_rfl) ?_); clear r10)
          | (go_at_call 23; (with_reducible refine HP10.out.mono ?_); rintro en w11 ⟨rfl, hp11⟩; have HP11 := Lib.hid hp11; clear hp11)
          | fail)
        go_meet
        exact ⟨rfl, HP11.out⟩
      · obtain ⟨q1, q2⟩ := neI (x := (j : Int)) (y := 1024) (by omega)
        clear hmm
        go_wp2_with (first
          | ((with_reducible refine atSlot 75 ?_); refine wpList_of_wp rfl (wp_load_mid (op := ⟨some 75, _, _, _, _, _⟩) 45 _ rfl b 0 rfl [.int .u64 s, .int .i64 bn] _ r9 Try.underlying45 rfl (by kernel_rfl) ?_); clear r9)
          | (go_at_call 25; (with_reducible refine HPS.out.mono ?_); rintro en w10 ⟨rfl, hp10⟩; have HP10 := Lib.hid hp10; clear hp10)
          | fail)
        go_meet
        exact ⟨rfl, HP10.out⟩
    case rest =>
      obtain ⟨rfl, hp12⟩ := hcut
      rename World => w12
      have HP12 := Lib.hid hp12
      clear hp12 HP9
      obtain ⟨x, l', rfl⟩ : ∃ x l', l = x :: l' := by
        cases l with
        | nil => simp at hln; omega
        | cons x l' => exact ⟨x, l', rfl⟩
      obtain ⟨y, hy, hyx⟩ := xor_one x
      have HY := Lib.hid hy
      clear hy
      go_wp2_with (first
        | ((with_reducible refine atSlot 89 ?_); refine wpList_of_wp rfl (owp_clone (o := ⟨some 89, _, _, _, _, _⟩) _ _ rfl Try.elB rfl rfl (HBB.out.ext HP12.out.x).row (u8_oneCell _) (by omega) ?_); intro a13 c13 w13 ho13 hx13; refine Stop.of ?_)
        | fail)
      obtain ⟨A, cur, rfl, hAb, -, -, -⟩ := own_some ho13 hbp
      have hc0 : w13.cell? ⟨A, 0, none⟩ = some (.int .u8 (x.toNat : Int)) := by
        have h := (Row.of_own ho13).cell _ rfl 0 (u8 x) rfl
        rwa [Addr.add_lit] at h
      have hth := own_there (i := 0) (m := 1) ho13 (by omega)
      have ho14 := own_setCell (j := 0) (v := .int .u8 (bits .xor .u8 (x.toNat : Int) 1)) ho13 (by omega)
      have hset : ((x :: l').map u8).set 0 (.int .u8 (bits .xor .u8 (x.toNat : Int) 1)) = (y :: l').map u8 := by rw [HY.out]; rfl
      rw [hset] at ho14
      have hx14 : Ext w12 (w13.setCell ⟨A, 0, none⟩ (.int .u8 (bits .xor .u8 (x.toNat : Int) 1))) := hx13.grown (grown_setCell' w13 A 0 _) hx13.size (fun k hk => by cases hk; exact hAb)
      generalize hw14 : w13.setCell ⟨A, 0, none⟩ (.int .u8 (bits .xor .u8 (x.toNat : Int) 1)) = w14 at ho14 hx14
      have HW14 := Lib.hid hw14
      have HO14 := Lib.hid ho14
      have HTH := Lib.hid hth
      have HP14 := Lib.hid (HP12.out.ext hx14)
      have hne : fp (y :: l') ≠ fp (x :: l') := fp_set (l := x :: l') (i := 0) rfl hyx
      have hl2 : (y :: l').length = (x :: l').length := rfl
      obtain ⟨s2, hs2⟩ : ∃ s2, s2 = fp (y :: l') := ⟨_, rfl⟩
      have hof2 : ∀ w', w'.ownsRow w12.heap.size 5 1 (.slice (some ⟨A, 0, none⟩) bn c13) bn ((y :: l').map u8) → Calls Try.prog 19 #[.slice (some ⟨A, 0, none⟩) bn c13] w' (NewNone (.agg #[.int .u64 s2, .int .i64 bn]) w') := fun w' h => by
        rw [hs2]
        exact Of_any _ bn c13 (y :: l') w' (Bytes.of_own h) (by omega)
      have HOF2 := Lib.hid hof2
      have hll : ((x :: l').length : Int) = (bn : Int) := by rw [hln]
      have p15 : putC bn (one (x :: l') j) (s2, (bn : Int)) (y :: l') = (one (x :: l') j, [], 382) := by
        have h := one_full (x :: l') (y :: l') j hm1 hl2 (by simp) hne
        rwa [hl2, hln, ← hs2] at h
      have p16 : putC bn (one (x :: l') 0) (s2, (bn : Int)) (y :: l') = (one (y :: l') 0, [(s, (bn : Int))], 0) := by
        have h := one_gone (x :: l') (y :: l') hl2 (by simp) hne
        rwa [hl2, hln, ← hs2, ← HSE.out] at h
      have u17 : unpC (one (y :: l') 0) (s, (bn : Int)) = (one (y :: l') 0, false) := by unfold unpC; rw [HSE.out, one_none _ _ hne]
      have u18 : pinsC (one (y :: l') 0) (s, (bn : Int)) = 0 := by unfold pinsC; rw [HSE.out, one_none _ _ hne]
      have hput : ∀ (E E' : List En) (gone : List (Nat × Int)) (er : Int) (w' : World), PnS w c bn E b s bn w' → putC bn E (s2, (bn : Int)) (y :: l') = (E', gone, er) → w'.ownsRow w12.heap.size 5 1 (.slice (some ⟨A, 0, none⟩) bn c13) bn ((y :: l').map u8) → Calls Try.prog 21 #[.pointer (some ⟨c, 0, none⟩), .agg #[.int .u64 s2, .int .i64 bn], .slice (some ⟨A, 0, none⟩) bn c13] w' _ := fun E E' gone er w' h1 h2 h3 =>
        pn_put h1 h2 (fun F hF => StB.own hF.typed h3) (by omega)
      have HPUT := Lib.hid hput
      have P15 := Lib.hid p15
      have P16 := Lib.hid p16
      have U17 := Lib.hid u17
      have U18 := Lib.hid u18
      have hunp : ∀ i, i < j → unpC (one (x :: l') (j - i)) (s, (bn : Int)) = (one (x :: l') (j - (i + 1)), true) := fun i hi => by
        rw [HSE.out, ← hln, one_unp, if_neg (by omega), show j - i - 1 = j - (i + 1) by omega]
      have HUNP := Lib.hid hunp
      have t1 : True := trivial
      clear hw14 ho14 hth hset ho13 hne hl2 hs2 hof2 hll p15 p16 u17 u18 hput hunp hx14 hx13 hyx
      refine Stop.out ?_
      go_wp2_with (first
        | ((with_reducible refine atSlot 91 ?_); refine wpList_of_wp rfl (owp_ixp3 (o := ⟨some 91, _, _, _, _, _⟩) _ _ rfl Try.elB rfl 0 rfl rfl hbp ?_))
        | ((with_reducible refine atSlot 94 ?_); refine wpList_of_wp rfl (owp_ixp3 (o := ⟨some 94, _, _, _, _, _⟩) _ _ rfl Try.elB rfl 0 rfl rfl hbp ?_))
        | ((with_reducible refine atStore 94 ?_); refine wpList_of_wp rfl (owp_st1 (o := ⟨none, _, _, _, _, _⟩) 5 _ _ rfl A 0 (.int .u8 (bits .xor .u8 (x.toNat : Int) 1)) rfl rfl rfl HTH.out (by kernel_rfl) rfl ?_); rw [HW14.out])
        | (go_at_call 19; (with_reducible refine (HOF2.out _ HO14.out).mono ?_); rintro en w15 ⟨rfl, hx15⟩; have HO15 := Lib.hid (own_ext HO14.out hx15); have HPU15 := Lib.hid (HPUT.out _ _ _ _ _ (HP14.out.ext hx15) P15.out HO15.out))
        | (go_at_call 21; (with_reducible refine HPU15.out.mono ?_); rintro en w16 ⟨a16, c16, rfl, -, hp16, F16, hc16, hT16⟩; have HP16 := Lib.hid hp16; have HO16 := Lib.hid (own_chg HO15.out hc16 hT16 (by decide) (by decide)); clear hp16 hc16 hT16)
        | fail)
      go_loopw [14] (PuRel w c bn b s bn (x :: l') (y :: l') j A c13 w12.heap.size) (fun i _ => j - (intOf i).toNat)
      case atStart => exact ⟨0, rfl, Nat.zero_le _, HP16.out, HO16.out⟩
      case round =>
        obtain ⟨i, rfl, hi, hp, ho⟩ := hrel
        rename World => w17
        by_cases him : i < j
        · have HPP := Lib.hid (pn_unp hp (HUNP.out i him) hs hzz)
          have r17 := hp.rd
          have HO17 := Lib.hid ho
          clear hp ho
          go_wp2_with (first
            | ((with_reducible refine atSlot 111 ?_); refine wpList_of_wp rfl (wp_load_mid (op := ⟨some 111, _, _, _, _, _⟩) 45 _ rfl b 0 rfl [.int .u64 s, .int .i64 bn] _ r17 Try.underlying45 rfl (by kernel_rfl) ?_); clear r17)
            | (go_at_call 24; (with_reducible refine HPP.out.mono ?_); rintro en w18 ⟨rfl, hp18, F18, hc18, hT18⟩; have HO18 := Lib.hid (own_chg HO17.out hc18 hT18 (by decide) (by decide)); have HP18 := Lib.hid hp18; clear hp18 hc18 hT18)
            | fail)
          go_roundw
          case rel => exact ⟨i + 1, by go_num, him, HP18.out, HO18.out⟩
          case measure => simp [intOf]; omega
        obtain rfl : i = j := by omega
        rw [Nat.sub_self] at hp
        have HP17 := Lib.hid hp
        have HO17 := Lib.hid ho
        clear hp ho hi
        go_wp2_with (first
          | (go_at_call 19; (with_reducible refine (HOF2.out _ HO17.out).mono ?_); rintro en w19 ⟨rfl, hx19⟩; have HO19 := Lib.hid (own_ext HO17.out hx19); have HPU19 := Lib.hid (HPUT.out _ _ _ _ _ (HP17.out.ext hx19) P16.out HO19.out))
          | (go_at_call 21; (with_reducible refine HPU19.out.mono ?_); rintro en w20 ⟨a20, c20, rfl, ho20, hp20, -⟩; have HR20 := Lib.hid ho20; have r20 := hp20.rd; have HUN := Lib.hid (pn_unp hp20 U17.out hs hzz); clear hp20 ho20)
          | ((with_reducible refine atSlot 123 ?_); refine wpList_of_wp rfl (wp_load_mid (op := ⟨some 123, _, _, _, _, _⟩) 45 _ rfl b 0 rfl [.int .u64 s, .int .i64 bn] _ r20 Try.underlying45 rfl (by kernel_rfl) ?_); clear r20)
          | (go_at_call 24; (with_reducible refine HUN.out.mono ?_); rintro en w21 ⟨rfl, hp21, F21, hc21, hT21⟩; have HR21 := Lib.hid (Row.of_own (own_chg HR20.out hc21 hT21 (by decide) (by decide))); have r21 := hp21.rd; have HP21 := Lib.hid hp21; clear hp21 hc21 hT21)
          | ((with_reducible refine atSlot 132 ?_); refine wpList_of_wp rfl (wp_load_mid (op := ⟨some 132, _, _, _, _, _⟩) 45 _ rfl b 0 rfl [.int .u64 s, .int .i64 bn] _ r21 Try.underlying45 rfl (by kernel_rfl) ?_); clear r21; have hal := Ext.alloc' w21 (.cells #[.int .u64 s, .int .i64 bn] 45); have hrn := Row.new w21 #[.int .u64 s, .int .i64 bn] 45 1 2 rfl (by decide); have HSM := Lib.hid (SameIDs_any a20 1 c20 _ 1 [(s, (bn : Int))] _ (HR21.out.ext hal) hrn rfl (by decide)); have HP22 := Lib.hid (HP21.out.ext hal); clear hal hrn)
          | (go_at_call 26; (with_reducible refine HSM.out.mono ?_); rintro en w23 ⟨rfl, hx23⟩; have hp23 := HP22.out.ext hx23; have r23 := hp23.rd; have HPN := Lib.hid (pn_pins hp23 U18.out hs hzz); clear hp23)
          | ((with_reducible refine atSlot 138 ?_); refine wpList_of_wp rfl (wp_load_mid (op := ⟨some 138, _, _, _, _, _⟩) 45 _ rfl b 0 rfl [.int .u64 s, .int .i64 bn] _ r23 Try.underlying45 rfl (by kernel_rfl) ?_); clear r23)
          | (go_at_call 25; (with_reducible refine HPN.out.mono ?_); rintro en w24 ⟨rfl, hp24⟩; have HX24 := Lib.hid hp24.x; clear hp24)
          | fail)
        go_ret
        exact ⟨rfl, HX24.out⟩
end Go.Proofs.Ytpiodpljiklfkaa
