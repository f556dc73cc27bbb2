/-
  Caches: the law's example.
-/
import Derived.Test.YtpiodpljiklfkaaCacK
import Derived.Test.YtpiodpljiklfkaaCacH
namespace Go.Proofs.Ytpiodpljiklfkaa
open Go.RowKit Go.WideMaps

theorem Bytes.of_heap {w : World} {g e : Nat} {fr : Nat × Nat} {l : List UInt8} (h : w.heap[g]? = some (.cells (l.map u8).toArray e fr)) (hm : l.length ≤ maxLen) : Bytes w (some ⟨g, 0, none⟩) l.length l.length l :=
  ⟨rfl, by simp, Nat.le_refl _, hm, (fun h => nomatch h), (fun p hp => .inr ⟨_, _, (Option.some.inj hp).symm⟩), fun p hp j u hj => by
    cases hp
    rw [Addr.add_lit, Nat.zero_add, cell_of_row w g j _ _ _ h, ← hj]
    simp⟩
theorem StB.fresh {F : List Nat} {w : World} {g : Nat} {fr : Nat × Nat} {l : List UInt8} (hT : Typed w F) (h : w.heap[g]? = some (.cells (l.map u8).toArray 5 fr)) (hm : l.length ≤ maxLen) : StB F w (some ⟨g, 0, none⟩) l.length l.length l := fun w' hc =>
  Bytes.of_heap (hc.heap h fun hk => by
    rcases hT g hk _ _ _ h with e | e
    · exact absurd e (by decide)
    · exact absurd e (by decide)) hm
theorem StB.own {F : List Nat} {w : World} {B n cp : Nat} {a : Option Addr} {l : List UInt8} (hT : Typed w F) (h : w.ownsRow B 5 1 (.slice a n cp) n (l.map u8)) : StB F w a n cp l := fun w' hc => Bytes.of_own (own_chg h hc hT (by decide) (by decide))
/-- An ID's box. -/
def IdBox (w : World) (b : Nat) (s : Nat) (z : Int) : Prop := w.heap[b]? = some (.cells #[.int .u64 s, .int .i64 z] 45 (0, 0))
theorem IdBox.ext {w w' : World} {b s : Nat} {z : Int} (h : IdBox w b s z) (hx : Ext w w') : IdBox w' b s z := hx.heap' h
theorem IdBox.chg {F : List Nat} {w w' : World} {b s : Nat} {z : Int} (h : IdBox w b s z) (hc : Chg F w w') (hT : Typed w F) : IdBox w' b s z := hc.heap h fun hk => by
  rcases hT b hk _ _ _ h with e | e
  · exact absurd e (by decide)
  · exact absurd e (by decide)
theorem IdBox.rd {w : World} {b s : Nat} {z : Int} (h : IdBox w b s z) : w.rangeAt b 0 [.int .u64 s, .int .i64 z] := range_of_heap2 h
theorem CacTo.typed {w w' : World} {B c room : Nat} {F : List Nat} {E' : List En} (h : CacTo w B c room F E' w') : ∃ F', Cac w' B c room E' F' ∧ Chg F w w' ∧ ∀ k ∈ F', k ∈ F ∨ w.heap.size ≤ k := h
theorem New38_at (r : Nat) (w : World) (h1 : 1 ≤ r) (h2 : r ≤ 1048576) : Calls Try.prog 12 #[.int .i64 r] w (fun en w' => ∃ c F, en = .returned (.tuple #[.pointer (some ⟨c, 0, none⟩), .int .i64 0]) ∧ Cac w' w.heap.size c r [] F ∧ Ext w w') := by
  refine (New38_any (r : Int) w).mono ?_
  rintro en w' (⟨h, -⟩ | ⟨r', c, F, hr, -, -, h3, h4, h5⟩)
  · omega
  · obtain rfl : r' = r := by omega
    exact ⟨c, F, h3, h4, h5⟩
theorem fp_ab : fp [97, 97] ≠ fp [98, 98] := by decide +kernel
theorem fp_ac : fp [97, 97] ≠ fp [99, 99] := by decide +kernel
theorem fp_bc : fp [98, 98] ≠ fp [99, 99] := by decide +kernel
def kn (x : UInt8) : En := ⟨fp [x, x], 2, [x, x], 0⟩
theorem kn1 : putC 4 [] (fp [97, 97], 2) [97, 97] = ([kn 97], [], 0) := by simp [putC, idOf, putF, atF, pinF, evF, kn]
theorem kn2 : putC 4 [kn 97] (fp [98, 98], 2) [98, 98] = ([kn 97, kn 98], [], 0) := by simp [putC, idOf, putF, atF, pinF, sizeF, evF, kn, En.id, fp_ab]
theorem kn3 : getC [kn 97, kn 98] (fp [97, 97], 2) = ([kn 98, kn 97], [97, 97], true) := by simp [getC, atF, kn, En.id, useF]
theorem kn4 : putC 4 [kn 98, kn 97] (fp [99, 99], 2) [99, 99] = ([kn 97, kn 99], [(fp [98, 98], 2)], 0) := by simp [putC, idOf, putF, atF, pinF, sizeF, evF, kn, En.id, fp_ac, fp_bc]
theorem Of2_any (x : UInt8) (g : Nat) (w : World) (h : Bytes w (some ⟨g, 0, none⟩) 2 2 [x, x]) : Calls Try.prog 19 #[.slice (some ⟨g, 0, none⟩) 2 2] w (NewNone (.agg #[.int .u64 (fp [x, x] : Nat), .int .i64 2]) w) := Of_any _ 2 2 [x, x] w h (by decide)

/-- Kept through the example. -/
def KnS (w : World) (c : Nat) (E : List En) (b fa fb fc : Nat) (wr : World) : Prop :=
  ∃ F, Cac wr w.heap.size c 4 E F ∧ IdBox wr b fa 2 ∧ IdBox wr (b + 1) fb 2 ∧ IdBox wr (b + 1 + 1) fc 2 ∧ Ext w wr
theorem KnS.ext {w : World} {c : Nat} {E : List En} {b fa fb fc : Nat} {wr w' : World} (h : KnS w c E b fa fb fc wr) (hx : Ext wr w') : KnS w c E b fa fb fc w' := by
  obtain ⟨F, h1, h2, h3, h4, h5⟩ := h
  exact ⟨F, h1.ext hx, h2.ext hx, h3.ext hx, h4.ext hx, h5.trans' hx⟩
theorem KnS.to {w : World} {c : Nat} {E' : List En} {b fa fb fc : Nat} {wr w' : World} {F : List Nat} {E : List En} (h1 : Cac wr w.heap.size c 4 E F) (h2 : IdBox wr b fa 2) (h3 : IdBox wr (b + 1) fb 2) (h4 : IdBox wr (b + 1 + 1) fc 2) (h5 : Ext w wr) (ht : CacTo wr w.heap.size c 4 F E' w') : KnS w c E' b fa fb fc w' := by
  obtain ⟨F', g1, g2, -⟩ := ht
  have hT := h1.typed
  exact ⟨F', g1, h2.chg g2 hT, h3.chg g2 hT, h4.chg g2 hT, ⟨g2.os.trans h5.os, g2.tape.trans h5.tape, g2.output.trans h5.output, Nat.le_trans h5.size g2.size, fun k hk => (g2.block k (Nat.lt_of_lt_of_le hk h5.size) fun hm => by have := h1.base k hm; omega).trans (h5.block k hk)⟩⟩
theorem known_put {w w1 : World} {c : Nat} {E E' : List En} {gone : List (Nat × Int)} {b fa fb fc fx g : Nat} {x : UInt8} {fr : Nat × Nat} (h : KnS w c E b fa fb fc w1) (hp : putC 4 E (fx, 2) [x, x] = (E', gone, 0)) (hh : w1.heap[g]? = some (.cells #[u8 x, u8 x] 5 fr)) :
    Calls Try.prog 21 #[.pointer (some ⟨c, 0, none⟩), .agg #[.int .u64 fx, .int .i64 2], .slice (some ⟨g, 0, none⟩) 2 2] w1
      (fun en w' => ∃ (a : Option Addr) (cp : Nat), en = .returned (.tuple #[.slice a gone.length cp, .int .i64 0]) ∧ w'.ownsRow w1.heap.size 45 2 (.slice a gone.length cp) gone.length (gone.flatMap idCells) ∧ KnS w c E' b fa fb fc w') := by
  obtain ⟨F, h1, h2, h3, h4, h5⟩ := h
  have hs := StB.fresh (l := [x, x]) h1.typed hh (by show 2 ≤ maxLen; decide)
  have hput := Put38_any w.heap.size c 4 E F fx 2 (some ⟨g, 0, none⟩) 2 2 [x, x] w1 h1 hs (by decide)
  rw [hp] at hput
  refine hput.mono ?_
  rintro en w' ⟨a, n, cp, rfl, rfl, ho, ht⟩
  exact ⟨a, cp, rfl, ho, KnS.to h1 h2 h3 h4 h5 ht⟩
theorem known_get {w w1 : World} {c : Nat} {E E' : List En} {l : List UInt8} {b fa fb fc fx : Nat} (h : KnS w c E b fa fb fc w1) (hp : getC E (fx, 2) = (E', l, true)) (hf : fx ≤ 18446744073709551615) :
    Calls Try.prog 20 #[.pointer (some ⟨c, 0, none⟩), .agg #[.int .u64 fx, .int .i64 2]] w1
      (fun en w' => ∃ (a : Option Addr) (n cp : Nat), en = .returned (.tuple #[.slice a n cp, .bool true]) ∧ KnS w c E' b fa fb fc w') := by
  obtain ⟨F, h1, h2, h3, h4, h5⟩ := h
  have hg := Get_any w.heap.size c 4 E F fx 2 w1 h1 hf ⟨by decide, by decide⟩
  rw [hp] at hg
  refine hg.mono ?_
  rintro en w' ⟨a, n, cp, rfl, -, ht⟩
  exact ⟨a, n, cp, rfl, KnS.to h1 h2 h3 h4 h5 ht⟩

set_option maxRecDepth 100000 in
set_option maxHeartbeats 8000000 in
theorem known38_any (w : World) : Calls Try.prog 14 #[] w (LawPost w) := by
  have hnew : ∀ w1, Calls Try.prog 12 #[.int .i64 4] w1 _ := fun w1 => New38_at 4 w1 (by decide) (by decide)
  have HNEW := Lib.hid hnew
  have hm2 : ∀ x : UInt8, ([x, x] : List UInt8).length ≤ maxLen := fun x => by show 2 ≤ maxLen; decide
  have HM2 := Lib.hid hm2
  have hof : ∀ (x : UInt8) (g : Nat) (w1 : World), Bytes w1 (some ⟨g, 0, none⟩) 2 2 [x, x] → Calls Try.prog 19 #[.slice (some ⟨g, 0, none⟩) 2 2] w1 _ := fun x g w1 h => Of2_any x g w1 h
  obtain ⟨fa, hfa⟩ : ∃ fa, fa = fp [97, 97] := ⟨_, rfl⟩
  obtain ⟨fb, hfb⟩ : ∃ fb, fb = fp [98, 98] := ⟨_, rfl⟩
  obtain ⟨fc, hfc⟩ : ∃ fc, fc = fp [99, 99] := ⟨_, rfl⟩
  have hofa := hof 97
  have hofb := hof 98
  have hofc := hof 99
  rw [← hfa] at hofa
  rw [← hfb] at hofb
  rw [← hfc] at hofc
  have HOA := Lib.hid hofa
  have HOB := Lib.hid hofb
  have HOC := Lib.hid hofc
  have HFA := Lib.hid hfa
  have HFB := Lib.hid hfb
  have HFC := Lib.hid hfc
  have t1 : True := trivial
  have t2 : True := trivial
  clear hnew hm2 hof hofa hofb hofc hfa hfb hfc
  go_enter Try.func14, Try.ntmps14
  go_wp2_with (first
    | (go_at_call 12; (with_reducible refine (HNEW.out _).mono ?_); rintro en w1 ⟨c, F1, rfl, hC1, hx1⟩; have HC1 := Lib.hid hC1; clear hC1)
    | ((with_reducible refine atSlot 17 ?_); refine wpList_of_wp rfl (owp_cc (o := ⟨some 17, _, _, _, _, _⟩) _ rfl rfl Try.underlying42 Try.underlying5 (heap_alloc_new w1 _) ?_); intro w2 hh2 hg2; have E2 : Ext w1 w2 := (Ext.alloc' w1 (.cells #[.int .u8 97, .int .u8 97] 5)).grown hg2 (by simp) (fun k hk => by cases hk; exact Nat.le_refl _); have hb2 : Bytes w2 (some ⟨w1.heap.size, 0, none⟩) 2 2 [97, 97] := Bytes.of_heap (l := [97, 97]) hh2 (HM2.out 97); clear hh2 hg2)
    | (go_at_call 19; have _t := t1; (with_reducible refine (HOA.out _ _ hb2).mono ?_); rintro en w3 ⟨rfl, hx3⟩; clear t1; have E3 := E2.trans' hx3)
    | ((with_reducible refine atSlot 20 ?_); refine wpList_of_wp rfl (owp_cc (o := ⟨some 20, _, _, _, _, _⟩) _ rfl rfl Try.underlying42 Try.underlying5 (heap_alloc_new w3 _) ?_); intro w4 hh4 hg4; have E4 : Ext w3 w4 := (Ext.alloc' w3 (.cells #[.int .u8 98, .int .u8 98] 5)).grown hg4 (by simp) (fun k hk => by cases hk; exact Nat.le_refl _); have hb4 : Bytes w4 (some ⟨w3.heap.size, 0, none⟩) 2 2 [98, 98] := Bytes.of_heap (l := [98, 98]) hh4 (HM2.out 98); clear hh4 hg4)
    | (go_at_call 19; have _t := t2; (with_reducible refine (HOB.out _ _ hb4).mono ?_); rintro en w5 ⟨rfl, hx5⟩; clear t2; have E5 := E3.trans' (E4.trans' hx5))
    | ((with_reducible refine atSlot 23 ?_); refine wpList_of_wp rfl (owp_cc (o := ⟨some 23, _, _, _, _, _⟩) _ rfl rfl Try.underlying42 Try.underlying5 (heap_alloc_new w5 _) ?_); intro w6 hh6 hg6; have E6 : Ext w5 w6 := (Ext.alloc' w5 (.cells #[.int .u8 99, .int .u8 99] 5)).grown hg6 (by simp) (fun k hk => by cases hk; exact Nat.le_refl _); have hb6 : Bytes w6 (some ⟨w5.heap.size, 0, none⟩) 2 2 [99, 99] := Bytes.of_heap (l := [99, 99]) hh6 (HM2.out 99); clear hh6 hg6)
    | (go_at_call 19; (with_reducible refine (HOC.out _ _ hb6).mono ?_); rintro en w7 ⟨rfl, hx7⟩; have E7 := E5.trans' (E6.trans' hx7))
    | ((with_reducible refine atStore 3 ?_); refine Stop.of ?_)
    | fail)
  have h3 : (((w7.alloc (.cells #[.int .u64 0, .int .i64 0] 45)).alloc (.cells #[.int .u64 0, .int .i64 0] 45)).alloc (.cells #[.int .u64 0, .int .i64 0] 45)).heap[w7.heap.size]? = some (.cells #[.int .u64 0, .int .i64 0] 45 (0, 0)) := (Ext.alloc' _ _).heap' ((Ext.alloc' _ _).heap' (heap_alloc_new w7 _))
  have h4 : (((w7.alloc (.cells #[.int .u64 0, .int .i64 0] 45)).alloc (.cells #[.int .u64 0, .int .i64 0] 45)).alloc (.cells #[.int .u64 0, .int .i64 0] 45)).heap[w7.heap.size + 1]? = some (.cells #[.int .u64 0, .int .i64 0] 45 (0, 0)) := (Ext.alloc' _ _).heap' (by rw [← World.size_alloc w7 (.cells #[.int .u64 0, .int .i64 0] 45)]; exact heap_alloc_new _ _)
  have h5 : (((w7.alloc (.cells #[.int .u64 0, .int .i64 0] 45)).alloc (.cells #[.int .u64 0, .int .i64 0] 45)).alloc (.cells #[.int .u64 0, .int .i64 0] 45)).heap[w7.heap.size + 1 + 1]? = some (.cells #[.int .u64 0, .int .i64 0] 45 (0, 0)) := by
    have h1 := World.size_alloc w7 (.cells #[.int .u64 0, .int .i64 0] 45)
    have h2 := World.size_alloc (w7.alloc (.cells #[.int .u64 0, .int .i64 0] 45)) (.cells #[.int .u64 0, .int .i64 0] 45)
    rw [← h1, ← h2]
    exact heap_alloc_new _ _
  have hx8 : Ext w7 (((w7.alloc (.cells #[.int .u64 0, .int .i64 0] 45)).alloc (.cells #[.int .u64 0, .int .i64 0] 45)).alloc (.cells #[.int .u64 0, .int .i64 0] 45)) := ((Ext.alloc' _ _).trans' (Ext.alloc' _ _)).trans' (Ext.alloc' _ _)
  obtain ⟨b, hb⟩ : ∃ b, b = w7.heap.size := ⟨_, rfl⟩
  have HBS := Lib.hid hb
  rw [← hb] at h3 h4 h5 ⊢
  generalize ((w7.alloc (.cells #[.int .u64 0, .int .i64 0] 45)).alloc (.cells #[.int .u64 0, .int .i64 0] 45)).alloc (.cells #[.int .u64 0, .int .i64 0] 45) = w8 at h3 h4 h5 hx8 ⊢
  have g4 : (w8.setRow b #[.int .u64 fa, .int .i64 2]).heap[b + 1]? = _ := (setRow_other w8 b (b + 1) _ (by omega)).trans h4
  have g5 : ((w8.setRow b #[.int .u64 fa, .int .i64 2]).setRow (b + 1) #[.int .u64 fb, .int .i64 2]).heap[b + 1 + 1]? = _ := (setRow_other _ (b + 1) (b + 1 + 1) _ (by omega)).trans ((setRow_other w8 b (b + 1 + 1) _ (by omega)).trans h5)
  have k3 : IdBox (((w8.setRow b #[.int .u64 fa, .int .i64 2]).setRow (b + 1) #[.int .u64 fb, .int .i64 2]).setRow (b + 1 + 1) #[.int .u64 fc, .int .i64 2]) b fa 2 := (setRow_other _ (b + 1 + 1) b _ (by omega)).trans ((setRow_other _ (b + 1) b _ (by omega)).trans (setRow_heap w8 b _ _ _ _ h3))
  have k4 : IdBox (((w8.setRow b #[.int .u64 fa, .int .i64 2]).setRow (b + 1) #[.int .u64 fb, .int .i64 2]).setRow (b + 1 + 1) #[.int .u64 fc, .int .i64 2]) (b + 1) fb 2 := (setRow_other _ (b + 1 + 1) (b + 1) _ (by omega)).trans (setRow_heap _ (b + 1) _ _ _ _ g4)
  have k5 : IdBox (((w8.setRow b #[.int .u64 fa, .int .i64 2]).setRow (b + 1) #[.int .u64 fb, .int .i64 2]).setRow (b + 1 + 1) #[.int .u64 fc, .int .i64 2]) (b + 1 + 1) fc 2 := setRow_heap _ (b + 1 + 1) _ _ _ _ g5
  have hx11 : Ext w7 (((w8.setRow b #[.int .u64 fa, .int .i64 2]).setRow (b + 1) #[.int .u64 fb, .int .i64 2]).setRow (b + 1 + 1) #[.int .u64 fc, .int .i64 2]) := ((hx8.setRow (by omega)).setRow (by omega)).setRow (by omega)
  generalize hw11 : ((w8.setRow b #[.int .u64 fa, .int .i64 2]).setRow (b + 1) #[.int .u64 fb, .int .i64 2]).setRow (b + 1 + 1) #[.int .u64 fc, .int .i64 2] = w11 at k3 k4 k5 hx11
  have HW := Lib.hid hw11
  have H3 := Lib.hid h3
  have G4 := Lib.hid g4
  have G5 := Lib.hid g5
  have K3 := Lib.hid k3
  have K4 := Lib.hid k4
  have K5 := Lib.hid k5
  have HX11 := Lib.hid (E7.trans' hx11)
  have HX1 := Lib.hid hx1
  clear hw11 h3 h4 h5 g4 g5 k3 k4 k5 hx11 hx8 hb E7 hx7 E6 hb6 E5 hx5 E4 hb4 E3 hx3 E2 hb2 hx1
  refine Stop.out ?_
  go_upto_region 5 with (first
    | ((with_reducible refine atStore 3 ?_); refine wpList_of_wp rfl (wp_store_row (o := ⟨none, _, _, _, _, _⟩) _ _ _ rfl b #[.int .u64 fa, .int .i64 2] rfl rfl _ _ H3.out (by kernel_rfl) rfl (by simp [Value.oneCell']) ?_))
    | ((with_reducible refine atStore 4 ?_); refine wpList_of_wp rfl (wp_store_row (o := ⟨none, _, _, _, _, _⟩) _ _ _ rfl (b + 1) #[.int .u64 fb, .int .i64 2] rfl rfl _ _ G4.out (by kernel_rfl) rfl (by simp [Value.oneCell']) ?_))
    | ((with_reducible refine atStore 5 ?_); refine wpList_of_wp rfl (wp_store_row (o := ⟨none, _, _, _, _, _⟩) _ _ _ rfl (b + 1 + 1) #[.int .u64 fc, .int .i64 2] rfl rfl _ _ G5.out (by kernel_rfl) rfl (by simp [Value.oneCell']) ?_); rw [HW.out])
    | fail)
  have h11 : KnS w c [] b fa fb fc w11 := ⟨F1, HC1.out.ext HX11.out, K3.out, K4.out, K5.out, HX1.out.trans' HX11.out⟩
  have HK11 := Lib.hid h11
  have p1 : putC 4 [] (fa, 2) [97, 97] = ([⟨fa, 2, [97, 97], 0⟩], [], 0) := by rw [HFA.out]; exact kn1
  have p2 : putC 4 [⟨fa, 2, [97, 97], 0⟩] (fb, 2) [98, 98] = ([⟨fa, 2, [97, 97], 0⟩, ⟨fb, 2, [98, 98], 0⟩], [], 0) := by rw [HFA.out, HFB.out]; exact kn2
  have p3 : getC [⟨fa, 2, [97, 97], 0⟩, ⟨fb, 2, [98, 98], 0⟩] (fa, 2) = ([⟨fb, 2, [98, 98], 0⟩, ⟨fa, 2, [97, 97], 0⟩], [97, 97], true) := by rw [HFA.out, HFB.out]; exact kn3
  have p4 : putC 4 [⟨fb, 2, [98, 98], 0⟩, ⟨fa, 2, [97, 97], 0⟩] (fc, 2) [99, 99] = ([⟨fa, 2, [97, 97], 0⟩, ⟨fc, 2, [99, 99], 0⟩], [(fb, 2)], 0) := by rw [HFA.out, HFB.out, HFC.out]; exact kn4
  have hfa : fa ≤ 18446744073709551615 := by rw [HFA.out]; exact fp_key _
  have P1 := Lib.hid p1
  have P2 := Lib.hid p2
  have P3 := Lib.hid p3
  have P4 := Lib.hid p4
  have r3 := K3.out.rd
  have t1 : True := trivial
  have t2 : True := trivial
  clear h11 p1 p2 p3 p4 H3 G4 G5 HW K3 K4 K5 HOA HOB HOC HNEW HFA HFB HFC
  go_upto_region 9 with (first
    | ((with_reducible refine atSlot 33 ?_); refine wpList_of_wp rfl (wp_load_mid (op := ⟨some 33, _, _, _, _, _⟩) 45 _ rfl b 0 rfl [.int .u64 fa, .int .i64 2] _ r3 Try.underlying45 rfl (by kernel_rfl) ?_); clear r3)
    | ((with_reducible refine atSlot 35 ?_); refine wpList_of_wp rfl (owp_cc (o := ⟨some 35, _, _, _, _, _⟩) _ rfl rfl Try.underlying42 Try.underlying5 (heap_alloc_new w11 _) ?_); intro w12 hh12 hg12; have hk12 := HK11.out.ext ((Ext.alloc' w11 (.cells #[.int .u8 97, .int .u8 97] 5)).grown hg12 (by simp) (fun k hk => by cases hk; exact Nat.le_refl _)); have HCP := Lib.hid (known_put hk12 P1.out (x := 97) hh12); clear hh12 hg12 hk12)
    | (go_at_call 21; have _t := t1; (with_reducible refine HCP.out.mono ?_); rintro en w13 ⟨a13, c13, rfl, -, hk13⟩; clear t1; have HK13 := Lib.hid hk13; have r4 := (show IdBox w13 (b + 1) fb 2 from (by obtain ⟨_, _, _, h, _⟩ := hk13; exact h)).rd; clear hk13 HCP)
    | ((with_reducible refine atSlot 41 ?_); refine wpList_of_wp rfl (wp_load_mid (op := ⟨some 41, _, _, _, _, _⟩) 45 _ rfl (b + 1) 0 rfl [.int .u64 fb, .int .i64 2] _ r4 Try.underlying45 rfl (by kernel_rfl) ?_); clear r4)
    | ((with_reducible refine atSlot 43 ?_); refine wpList_of_wp rfl (owp_cc (o := ⟨some 43, _, _, _, _, _⟩) _ rfl rfl Try.underlying42 Try.underlying5 (heap_alloc_new w13 _) ?_); intro w14 hh14 hg14; have hk14 := HK13.out.ext ((Ext.alloc' w13 (.cells #[.int .u8 98, .int .u8 98] 5)).grown hg14 (by simp) (fun k hk => by cases hk; exact Nat.le_refl _)); have HCQ := Lib.hid (known_put hk14 P2.out (x := 98) hh14); clear hh14 hg14 hk14)
    | (go_at_call 21; have _t := t2; (with_reducible refine HCQ.out.mono ?_); rintro en w15 ⟨a15, c15, rfl, -, hk15⟩; clear t2; have HK15 := Lib.hid hk15; have r5 := (show IdBox w15 b fa 2 from (by obtain ⟨_, _, h, _⟩ := hk15; exact h)).rd; clear hk15 HCQ)
    | ((with_reducible refine atSlot 48 ?_); refine wpList_of_wp rfl (wp_load_mid (op := ⟨some 48, _, _, _, _, _⟩) 45 _ rfl b 0 rfl [.int .u64 fa, .int .i64 2] _ r5 Try.underlying45 rfl (by kernel_rfl) ?_); clear r5)
    | (go_at_call 20; (with_reducible refine (known_get HK15.out P3.out hfa).mono ?_); rintro en w16 ⟨a16, n16, c16, rfl, hk16⟩; have HK16 := Lib.hid hk16; have r6 := (show IdBox w16 (b + 1 + 1) fc 2 from (by obtain ⟨_, _, _, _, h, _⟩ := hk16; exact h)).rd; clear hk16)
    | ((with_reducible refine atSlot 52 ?_); refine wpList_of_wp rfl (wp_load_mid (op := ⟨some 52, _, _, _, _, _⟩) 45 _ rfl (b + 1 + 1) 0 rfl [.int .u64 fc, .int .i64 2] _ r6 Try.underlying45 rfl (by kernel_rfl) ?_); clear r6)
    | ((with_reducible refine atSlot 54 ?_); refine wpList_of_wp rfl (owp_cc (o := ⟨some 54, _, _, _, _, _⟩) _ rfl rfl Try.underlying42 Try.underlying5 (heap_alloc_new w16 _) ?_); intro w17 hh17 hg17; have hk17 := HK16.out.ext ((Ext.alloc' w16 (.cells #[.int .u8 99, .int .u8 99] 5)).grown hg17 (by simp) (fun k hk => by cases hk; exact Nat.le_refl _)); have HCR := Lib.hid (known_put hk17 P4.out (x := 99) hh17); clear hh17 hg17 hk17)
    | (go_at_call 21; (with_reducible refine HCR.out.mono ?_); rintro en w18 ⟨a18, c18, rfl, ho18, hk18⟩; have HK18 := Lib.hid hk18; have HO18 := Lib.hid ho18; clear hk18 ho18 HCR)
    | fail)
  obtain ⟨F, hC, hI3, hI4, hI5, hxw⟩ := HK18.out
  have hrow := Row.of_own HO18.out
  have E18 := Ext.drew' w18
  have HC := Lib.hid hC
  have HI3 := Lib.hid hI3
  have HI4 := Lib.hid hI4
  have HI5 := Lib.hid hI5
  have HXW := Lib.hid hxw
  have HRW := Lib.hid hrow
  clear hC hI3 hI4 hI5 hxw hrow
  go_wp2
  refine wp_region_e [] (.qs [0, 1, 2, 3, 4, 5, 6, 7, 8, 9, 10, 11, 12] (.l 13 (.l 14 (.qs [15, 16, 17, 19, 20] (.alt 18 (.l 21 (.l 22 (.qs [23, 24] .nil))) (.alt 21 (.l 18 (.l 22 (.qs [23, 24] .nil))) .stop)))))) (by kernel_rfl) (by kernel_rfl) ?_
  iterate 12 ((refine wpY_q rfl rfl _ (fun w' hx' => by go_simp; try rfl) ?_; go_simp))
  refine wpY_ld rfl rfl (.tmp 4) rfl (b + 1) 0 rfl [.int .u64 fb, .int .i64 2] _ (fun w' hh => (HI4.out.ext hh).rd) Try.underlying45 rfl (by kernel_rfl) ?_
  refine wpY_l rfl rfl ?_
  go_simp
  have hal := Ext.alloc' w18.drew (.cells #[.int .u64 fb, .int .i64 2] 45)
  have hrn := Row.new w18.drew #[.int .u64 fb, .int .i64 2] 45 1 2 rfl (by decide)
  have E19 := E18.trans' hal
  refine ⟨E19, ?_⟩
  refine wpY_l rfl rfl ?_
  go_simp
  refine (SameIDs_any a18 1 c18 _ 1 [(fb, 2)] _ (HRW.out.ext E19) hrn rfl (by decide)).mono ?_
  rintro en w20 ⟨rfl, hx20⟩
  have E20 := E19.trans' hx20
  refine ⟨E20, ?_⟩
  iterate 3 ((refine wpY_q rfl rfl _ (fun w' hx' => by go_simp; try rfl) ?_; go_simp))
  refine wpY_ld rfl rfl (.tmp 3) rfl b 0 rfl [.int .u64 fa, .int .i64 2] _ (fun w' hh => (HI3.out.ext hh).rd) Try.underlying45 rfl (by kernel_rfl) ?_
  refine wpY_ld rfl rfl (.tmp 5) rfl (b + 1 + 1) 0 rfl [.int .u64 fc, .int .i64 2] _ (fun w' hh => (HI5.out.ext hh).rd) Try.underlying45 rfl (by kernel_rfl) ?_
  refine wpY_alt rfl rfl ?_ (wpY_alt rfl rfl ?_ wpY_stop)
  · go_simp
    refine (IDs_any w.heap.size c 4 _ F w20 (HC.out.ext E20)).mono ?_
    rintro en w21 ⟨a21, n21, c21, rfl, hn21, ho21, hx21⟩
    obtain rfl : n21 = 2 := hn21
    have E21 := E20.trans' hx21
    refine ⟨E21, ?_⟩
    refine wpY_l rfl rfl ?_
    go_simp
    have hal2 := Ext.alloc' w21 (.cells #[.int .u64 fa, .int .i64 2, .int .u64 fc, .int .i64 2] 45)
    have hrn2 := Row.new w21 #[.int .u64 fa, .int .i64 2, .int .u64 fc, .int .i64 2] 45 2 2 rfl (by decide)
    refine ⟨E21.trans' hal2, ?_⟩
    refine wpY_l rfl rfl ?_
    go_simp
    refine (SameIDs_any a21 2 c21 _ 2 [(fa, 2), (fc, 2)] _ ((Row.of_own ho21).ext hal2) hrn2 rfl (by decide)).mono ?_
    rintro en w22 ⟨rfl, hx22⟩
    refine ⟨(E21.trans' hal2).trans' hx22, ?_⟩
    iterate 2 ((refine wpY_q rfl rfl _ (fun w' hx' => by go_simp; try rfl) ?_; go_simp))
    refine wpY_nil ?_
    go_wp2
    go_ret
    exact ⟨rfl, HXW.out.trans' ((E21.trans' hal2).trans' hx22)⟩
  · go_simp
    have hal2 := Ext.alloc' w20 (.cells #[.int .u64 fa, .int .i64 2, .int .u64 fc, .int .i64 2] 45)
    have hrn2 := Row.new w20 #[.int .u64 fa, .int .i64 2, .int .u64 fc, .int .i64 2] 45 2 2 rfl (by decide)
    have E21 := E20.trans' hal2
    refine ⟨E21, ?_⟩
    refine wpY_l rfl rfl ?_
    go_simp
    refine (IDs_any w.heap.size c 4 _ F _ (HC.out.ext E21)).mono ?_
    rintro en w21 ⟨a21, n21, c21, rfl, hn21, ho21, hx21⟩
    obtain rfl : n21 = 2 := hn21
    have E22 := E21.trans' hx21
    refine ⟨E22, ?_⟩
    refine wpY_l rfl rfl ?_
    go_simp
    refine (SameIDs_any a21 2 c21 _ 2 [(fa, 2), (fc, 2)] _ (Row.of_own ho21) (hrn2.ext hx21) rfl (by decide)).mono ?_
    rintro en w22 ⟨rfl, hx22⟩
    refine ⟨E22.trans' hx22, ?_⟩
    iterate 2 ((refine wpY_q rfl rfl _ (fun w' hx' => by go_simp; try rfl) ?_; go_simp))
    refine wpY_nil ?_
    go_wp2
    go_ret
    exact ⟨rfl, HXW.out.trans' (E22.trans' hx22)⟩
end Go.Proofs.Ytpiodpljiklfkaa
