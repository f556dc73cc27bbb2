/-
  The law's made, faulty.
-/
import Derived.Test.YtncdcpaelecikaaPackH
import Derived.Test.YtncdcpaelecikaaTape
namespace Go.Proofs.Ytncdcpaelecikaa
open Go.RowKit

theorem own_keepT {w w' : World} {B e s n c t : Nat} {a : Option Addr} {xs : List Value} (h : w.ownsRow B e s (.slice a n c) n xs) (hk : KeepT t w w') (ht : e ≠ t) : w'.ownsRow B e s (.slice a n c) n xs := by
  refine ⟨h.1, ?_⟩
  rcases h.2 with h2 | ⟨g, cap, cur, hv, hB, hg, r⟩
  · exact .inl h2
  · exact .inr ⟨g, cap, cur, hv, hB, hk _ _ _ _ ht hg, r⟩
/-- A byte string of one's own. -/
def OwnB (w : World) (B : Nat) (b : Bs) : Prop := w.ownsRow B 5 1 (.slice b.a b.n b.c) b.n (b.l.map u8)
def MRel (w : World) (g k0 : Nat) (l u : Value) (wr : World) : Prop :=
  ∃ (i m c k : Nat) (a : Option Addr) (L : List Bs), u = .int .i64 i ∧ l = .slice a m c ∧ i ≤ 5 ∧ m + i ≤ 5 ∧ wr.ownsRow w.heap.size 28 1 (.slice a m c) m (L.map Bs.v) ∧
    (∀ b ∈ L, OwnB wr w.heap.size b ∧ 1 ≤ b.n ∧ b.n ≤ 6) ∧ Tape wr g k ∧ k + 9 * i ≤ k0 + 50 ∧ w.grownBy wr (some g)

def MadePost (w : World) (g k0 : Nat) (e : Ending) (w' : World) : Prop :=
  ∃ (a : Option Addr) (m c k : Nat) (L : List Ck), e = .returned (.slice a m c) ∧ OwnCks w' w.heap.size a m c L ∧ m ≤ 5 ∧ Asc L ∧ Tape w' g k ∧ k ≤ k0 + 50 ∧ w.grownBy w' (some g)

theorem OwnCks.base {w : World} {B B' n c : Nat} {a : Option Addr} {L : List Ck} (h : OwnCks w B a n c L) (hB : B' ≤ B) : OwnCks w B' a n c L :=
  ⟨own_base h.1 hB, fun k hk => (h.2 k hk).base hB⟩
theorem Tape.ext {w w' : World} {g k : Nat} (h : Tape w g k) (hx : Ext w w') : Tape w' g k := h.below (hx.mono h.lt)
theorem grown_ext {w w' : World} (h : Ext w w') : w.grownBy w' none := ⟨h.os, h.tape, h.output, h.size, fun k hk _ => h.block k hk⟩

set_option maxRecDepth 100000 in
set_option maxHeartbeats 1000000 in
theorem made_any (g k0 : Nat) (w : World) (ht : Tape w g k0) (hk : k0 ≤ 10000000000000) :
    Calls Try.prog 19 #[.pointer (some ⟨g, 0, none⟩)] w (MadePost w g k0) := by
  have hgl := ht.lt
  go_enter Try.func19, Try.ntmps19
  go_wp2_with (go_at_call 20; (with_reducible refine (Next_any g k0 6 _ ht (by omega) (by omega)).mono ?_); rintro e w1 ⟨u, rfl, hu, ht1, hg1⟩; have hu6 : u < 6 := (by unfold Below1 at hu; omega))
  go_loopw [3, 4] (MRel w g k0) (fun _ i _ => (intOf i).toNat)
  case atStart => exact ⟨u, 0, 0, k0 + 1, none, [], rfl, rfl, by omega, by omega, own_nil _ _ _ _, (fun b hb => by cases hb), ht1, by omega, hg1⟩
  case round =>
    obtain ⟨i, m, c, k, a, L, rfl, rfl, hi, hmi, ho, hL, ht2, hk2, hg2⟩ := hrel
    rename World => w2
    have HL := Lib.hid hL
    clear hL hu
    by_cases hi0 : 0 < i
    · have t1 : True := trivial
      go_wp2_with (first
        | (go_at_call 20; have _t := t1; (with_reducible refine (Next_any g k 6 _ ht2 (by omega) (by omega)).mono ?_); rintro e w3 ⟨p, rfl, hp, ht3, hg3⟩; clear t1; have hp6 : p < 6 := (by unfold Below1 at hp; omega))
        | (go_at_call 20; (with_reducible refine (Next_any g (k + 1) 4 _ ht3 (by omega) (by omega)).mono ?_); rintro e w4 ⟨r, rfl, hr, ht4, hg4⟩; have hr4 : r < 4 := (by unfold Below1 at hr; omega))
        | (go_at_call 43; go_loud (refine (TapeBytes_any g (k + 1 + 1) (1 + p) (1 + r) _ ht4 (by omega) (by omega) (by omega)).mono ?_); rintro e w5 ⟨a5, c5, l5, rfl, ho5, ht5, hg5⟩)
        | (at_builtin; refine wpList_appK rfl _ _ rfl Try.elBB rfl (.inl (own_ext (own_kept (own_kept (own_kept ho hg3 hgl) hg4 hgl) hg5 hgl) (Ext.alloc' _ _))) rfl (Row.one _ _ _) (by intro u hu; simp at hu; subst hu; rfl) (by omega) (by omega) (by unfold maxLen; omega) (by have := hg2.size; have := hg3.size; have := hg4.size; have := hg5.size; simp; omega) ?_; intro a6 c6 w6 ho6 hb6 hk6))
      have hg6 : w.grownBy w5 (some g) := chg_trans (chg_trans (chg_trans hg2 hg3 (fun b hb => .inr (by cases hb; rfl))) hg4 (fun b hb => .inr (by cases hb; rfl))) hg5 (fun b hb => .inr (by cases hb; rfl))
      have hB6 : Below w.heap.size w5 w6 := ((Ext.alloc' _ _).mono hg6.size).trans hb6
      have hK6 : KeepT 28 w5 w6 := (KeepT.of_ext (Ext.alloc' _ _)).trans hk6
      have hg7 : w.grownBy w6 (some g) := ⟨hB6.os.trans hg6.os, hB6.tape.trans hg6.tape, hB6.output.trans hg6.output, Nat.le_trans hg6.size hB6.size, fun k hk hkg => (hB6.block k hk).trans (hg6.block k hk hkg)⟩
      go_roundw
      case rel =>
        refine ⟨i - 1, m + 1, c6, k + 1 + 1 + (1 + p), a6, L ++ [⟨a5, 1 + p, c5, l5⟩], by go_num, rfl, by omega, by omega, by rw [List.map_append]; exact ho6, fun b hb => ?_, ht5.below (hB6.mono (by omega)), by omega, hg7⟩
        rcases List.mem_append.1 hb with hb | hb
        · obtain ⟨h1, h2, h3⟩ := HL.out b hb
          exact ⟨own_keepT (own_kept (own_kept (own_kept h1 hg3 hgl) hg4 hgl) hg5 hgl) hK6 (by decide), h2, h3⟩
        · obtain rfl : b = ⟨a5, 1 + p, c5, l5⟩ := by simpa using hb
          exact ⟨own_keepT (own_base ho5 (by have := hg2.size; have := hg3.size; have := hg4.size; omega)) hK6 (by decide), by show 1 ≤ 1 + p; omega, by show 1 + p ≤ 6; omega⟩
      case measure => simp [intOf]; omega
    · have hLs : Lists w2 a m c L := ⟨by have := ho.1; simpa using this, Row.of_own ho, fun b hb => Bytes.of_own (HL.out b hb).1⟩
      go_wp2_with (go_at_call 44; (with_reducible refine (Sorted_any a m c L _ hLs (by omega) (fun b hb => by have := HL.out b hb; omega)).mono ?_); rintro e w3 ⟨a3, m3, c3, L3, rfl, hO3, hm3, hA3, hx3⟩)
      go_ret
      exact ⟨a3, m3, c3, k, L3, rfl, hO3.base hg2.size, by omega, hA3, ht2.ext hx3, by omega, chg_trans hg2 (grown_ext hx3) (fun b hb => nomatch hb)⟩
end Go.Proofs.Ytncdcpaelecikaa
