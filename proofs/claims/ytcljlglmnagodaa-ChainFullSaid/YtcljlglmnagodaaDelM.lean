/-
  Texts off the tape; the law DeltaMakes.
-/
import Derived.Test.YtcljlglmnagodaaDelL
namespace Go.Proofs.Ytcljlglmnagodaa
open Go.RowKit

/-- At most n bytes in new memory, off the tape at block g. -/
def TextPost (w : World) (g k n : Nat) (e : Ending) (w' : World) : Prop :=
  ∃ (a : Option Addr) (m c k2 : Nat) (l : List UInt8), e = .returned (.slice a m c) ∧ w'.ownsRow w.heap.size 5 1 (.slice a m c) m (l.map u8) ∧ m ≤ n ∧ Tape w' g k2 ∧ k2 ≤ k + n + 2 ∧ w.grownBy w' (some g)
set_option maxRecDepth 100000 in
set_option maxHeartbeats 1000000 in
theorem text_any (g k n : Nat) (N : Int) (hN : N = n) (w : World) (ht : Tape w g k) (hk : k ≤ 10000000000000) (hn : n ≤ 1000) :
    Calls Try.prog 24 #[.pointer (some ⟨g, 0, none⟩), .int .i64 N] w (TextPost w g k n) := by
  subst hN
  have t1 : True := trivial
  have hgl := ht.lt
  go_enter Try.func24, Try.ntmps24
  go_wp2_with (first
    | (go_at_call 25; have _t := t1; (with_reducible refine (Next_any g k ((n : Int) + 1) _ ht (by omega) (by omega)).mono ?_); rintro e w1 ⟨u1, rfl, hu1, ht1, hg1⟩; clear t1)
    | (go_at_call 25; (with_reducible refine (Next_any g (k + 1) 4 _ ht1 (by omega) (by omega)).mono ?_); rintro e w2 ⟨u2, rfl, hu2, ht2, hg2⟩; refine Stop.of ?_))
  have hu1' : u1 ≤ n := by unfold Below1 at hu1; omega
  have hu2' : u2 ≤ 3 := by unfold Below1 at hu2; omega
  have htb := TapeBytes_any g (k + 1 + 1) u1 (1 + u2) w2 ht2 (by omega) (by omega) (by omega)
  rw [show ((1 + u2 : Nat) : Int) = 1 + (u2 : Int) by omega] at htb
  have HTB := Lib.hid htb
  have HG := Lib.hid (grown_trans' hg1 hg2)
  clear htb hu1 hu2 hg1 hg2 ht1 ht
  refine Stop.out ?_
  go_wp2_with (go_at_call 63; (with_reducible refine HTB.out.mono ?_); rintro e w3 ⟨a, c, l, rfl, ho, ht3, hg3⟩)
  go_ret
  exact ⟨a, u1, c, _, l, rfl, own_base ho HG.out.size, hu1', ht3, by omega, grown_trans' HG.out hg3⟩

def MkLRel (w2 : World) (g : Nat) (bb i : Value) (wr : World) : Prop :=
  ∃ (k m c kk : Nat) (a : Option Addr) (l : List UInt8), i = .int .i64 k ∧ bb = .slice a m c ∧ k ≤ 3 ∧ m + 65 * k ≤ 230 ∧ kk + 1000 * k ≤ 10000 ∧ wr.ownsRow w2.heap.size 5 1 (.slice a m c) m (l.map u8) ∧ Tape wr g kk ∧ w2.grownBy wr (some g)

set_option maxRecDepth 100000 in
set_option maxHeartbeats 4000000 in
theorem DeltaMakes_walk (a1 : Option Addr) (n1 c1 : Nat) (L1 : List Int) (w : World)
    (hl : Row w a1 n1 c1 1 (L1.map (Value.int .i64))) (hli : ∀ x ∈ L1, -9223372036854775808 ≤ x ∧ x ≤ 9223372036854775807) (ha1 : ∀ p, a1 = some p → 0 < n1 → p.block < w.heap.size) :
    Calls Try.prog 3 #[.slice a1 n1 c1] w (LawPost w) := by
  have ht : Tape (w.alloc (.cells #[.slice a1 n1 c1, .int .i64 0] 25)) w.heap.size 0 :=
    ⟨a1, n1, c1, L1, heap_alloc_new w _, hl.ext (Ext.alloc' _ _), ha1, hli⟩
  have hx1 : Ext w (w.alloc (.cells #[.slice a1 n1 c1, .int .i64 0] 25)) := Ext.alloc' _ _
  have HT := Lib.hid ht
  clear ht
  have t1 : True := trivial
  go_enter Try.func3, Try.ntmps3
  go_wp2_with (first
    | (go_at_call 24; have _t := t1; (with_reducible refine (text_any w.heap.size 0 60 60 (by omega) _ HT.out (by omega) (by omega)).mono ?_); rintro e w2 ⟨a2, m2, c2, k2, l2, rfl, ho2, hm2, ht2, hk2, hg2⟩; clear t1; have hb2 := Bytes.of_own ho2; have hf2 := own_fresh ho2; have hx2 := hx1.rd hg2 (Nat.le_refl _))
    | (go_at_call 24; (with_reducible refine (text_any w.heap.size k2 30 30 (by omega) _ ht2 (by omega) (by omega)).mono ?_); rintro e w3 ⟨a3, m3, c3, k3, l3, rfl, ho3, hm3, ht3, hk3, hg3⟩)
    | (go_at_call 25; (with_reducible refine (Next_any w.heap.size k3 4 _ ht3 (by omega) (by omega)).mono ?_); rintro e w4 ⟨u4, rfl, hu4, ht4, hg4⟩))
  have hu4' : u4 ≤ 3 := by unfold Below1 at hu4; omega
  have H2 := Lib.hid (chg_trans (hg3) hg4 (fun b hb => .inr (by cases hb; rfl)))
  have hgl := HT.out.lt
  have HO2 := Lib.hid ho2
  have HX2 := Lib.hid hx2
  have hgw2 : w.heap.size < w2.heap.size := ht2.lt
  have ho4 := own_kept ho3 hg4 hgw2
  clear hu4 ho2 hx2 hg2 hg3 hg4 ht2 ht3 ho3
  go_loopw [5, 6] (MkLRel w2 w.heap.size) (fun _ i _ => (intOf i).toNat)
  case atStart => exact ⟨u4, m3, c3, k3 + 1, a3, l3, rfl, rfl, hu4', by omega, by omega, ho4, ht4, H2.out⟩
  case round =>
    obtain ⟨k, m, c, kk, a, l, rfl, rfl, hk, hm, hkk, ho, htk, hg⟩ := hrel
    rename World => w5
    have hb2' := hb2.apart hg (fun p hp => by have := hf2 p hp; simp at this; omega)
    have hgl5 := htk.lt
    by_cases h0 : 0 < k
    · have hd : decide (0 < k) = true := decide_eq_true h0
      have t2 : True := trivial
      go_wp2_with (first
        | (go_at_call 25; have _t := t2; (with_reducible refine (Next_any w.heap.size kk ((m2 : Int) + 1) _ htk (by omega) (by omega)).mono ?_); rintro e w6 ⟨u1, rfl, hu1, ht6, hg6⟩; clear t2; have hu1' : u1 ≤ m2 := (by unfold Below1 at hu1; omega); clear hu1)
        | (go_at_call 25; (with_reducible refine (Next_any w.heap.size (kk + 1) ((m2 : Int) - (u1 : Int) + 1) _ ht6 (by omega) (by omega)).mono ?_); rintro e w7 ⟨u2, rfl, hu2, ht7, hg7⟩; have hu2' : u1 + u2 ≤ m2 := (by unfold Below1 at hu2; omega); clear hu2; have hg27 := chg_trans (chg_trans hg hg6 (fun b hb => .inr (by cases hb; rfl))) hg7 (fun b hb => .inr (by cases hb; rfl)); have hb7 := hb2.apart hg27 (fun p hp => by have := hf2 p hp; simp at this; omega); have ho7 := own_kept (own_kept ho hg6 hgw2) hg7 hgw2)
        | ((with_reducible refine atSlot 42 ?_); refine wpList_of_wp rfl (owp_sl_lh (o := ⟨some 42, _, _, _, _, _⟩) _ _ _ rfl Try.elB rfl hb7.row u1 u2 rfl rfl rfl rfl hu2' ?_); intro a8 hr8; have hb8 := Bytes.sub hr8)
        | ((with_reducible refine atSlot 43 ?_); have hs7 := hg27.size; refine wpList_of_wp rfl (owp_app (o := ⟨some 43, _, _, _, _, _⟩) _ _ rfl Try.elB rfl ho7 rfl hb8.row (u8_oneCell _) (by omega) (by unfold maxLen; omega) hs7 ?_); intro a9 c9 w9 ho9 hg9; rw [← List.map_append] at ho9; have hg29 := chg_trans hg27 hg9 (fun b hb => .inl (own_block ho7 b hb).1); have ht9 := ht7.grown hg9 (fun b hb => by have := (own_block ho7 b hb).1; omega))
        | (go_at_call 24; (with_reducible refine (text_any w.heap.size (kk + 1 + 1) 5 5 (by omega) _ ht9 (by omega) (by omega)).mono ?_); rintro e w10 ⟨a10, m10, c10, k10, l10, rfl, ho10, hm10, ht10, hk10, hg10⟩; have hg210 := chg_trans hg29 hg10 (fun b hb => .inr (by cases hb; rfl)); have ho10' := own_kept ho9 hg10 hgw2)
        | ((with_reducible refine atSlot 47 ?_); have hs10 := hg210.size; refine wpList_of_wp rfl (owp_app (o := ⟨some 47, _, _, _, _, _⟩) _ _ rfl Try.elB rfl ho10' rfl (Bytes.of_own ho10).row (u8_oneCell _) (by omega) (by unfold maxLen; omega) hs10 ?_); intro a11 c11 w11 ho11 hg11; rw [← List.map_append] at ho11; have hg211 := chg_trans hg210 hg11 (fun b hb => .inl (own_block ho10' b hb).1); have ht11 := ht10.grown hg11 (fun b hb => by have := (own_block ho10' b hb).1; omega))
        | fail)
      go_roundw
      case rel => exact ⟨k - 1, _, _, k10, _, _, by go_num, rfl, by omega, by omega, by omega, ho11, ht11, hg211⟩
      case measure => simp [intOf]; omega
    · have hd : decide (0 < k) = false := decide_eq_false h0
      have hb2'' : Bytes w5 a2 m2 c2 l2 := hb2'
      have hb5 := Bytes.of_own ho
      obtain ⟨D, er, hmk⟩ : ∃ D er, makeRes l2 l = (D, er) := ⟨_, _, rfl⟩
      have HMK := Lib.hid hmk
      have hX := HX2.out.rd hg (Nat.le_refl _)
      clear hmk hg
      have hlen : D.length ≤ 100000 := by
        have h := HMK.out
        unfold makeRes at h
        split at h
        · simp only [Prod.mk.injEq] at h; rw [← h.1]; exact Nat.zero_le _
        · simp only [Prod.mk.injEq] at h
          rw [← h.1]
          have h1 := make_size l2 l
          have h2 := length_size (make_inv l2 l).nm.2
          have := hb5.len
          omega
      go_wp2_with (first
        | (go_at_call 26; (with_reducible refine (Make_any _ _ _ _ _ _ _ _ _ hb2'' hb5 (by omega) (by omega) HMK.out).mono ?_); rintro e w6 ⟨a6, n6, c6, L6, rfl, hL6, hD6, hx6⟩; have HD6 := Lib.hid hD6; clear hD6)
        | (go_at_call 27; (with_reducible refine (refMake_any _ _ _ _ _ _ _ _ _ (hb2''.ext hx6) (hb5.ext hx6) (by omega) (by omega) HMK.out).mono ?_); rintro e w7 ⟨a7, n7, c7, L7, rfl, hL7, hD7, hx7⟩; have HD7 := Lib.hid hD7; clear hD7)
        | (go_at_call 28; (with_reducible refine (known_any _).mono ?_); rintro e w8 ⟨rfl, hx8⟩; have hS := Same_any a6 n6 c6 a7 n7 c7 L6 L7 w8 ((hL6.ext hx7).ext hx8) (hL7.ext hx8) (by rw [HD6.out, HD7.out]) (by rw [← hL6.1, ← List.length_map (f := Od.d), HD6.out]; omega))
        | (go_at_call 29; (with_reducible refine hS.mono ?_); clear hS; rintro e w9 ⟨rfl, hx9⟩)
        | fail)
      go_ret
      exact ⟨rfl, (((hX.trans' hx6).trans' hx7).trans' hx8).trans' hx9⟩
end Go.Proofs.Ytcljlglmnagodaa
