/-
  The law's faulty.
-/
import Derived.Test.YtncdcpaelecikaaPackI
namespace Go.Proofs.Ytncdcpaelecikaa
open Go.RowKit

theorem cells_set (M : List Ck) (i : Nat) (x : Ck) (h : i < M.length) : (M.flatMap Ck.cells).take (i * 3) ++ x.cells ++ (M.flatMap Ck.cells).drop (i * 3 + 3) = (M.set i x).flatMap Ck.cells := by
  rw [show i * 3 + 3 = (i + 1) * 3 by omega, cells_take, cells_drop, List.set_eq_take_append_cons_drop, if_pos h, List.flatMap_append, List.flatMap_cons, List.append_assoc]
theorem OwnCks.block {w : World} {B g m c : Nat} {L : List Ck} (h : OwnCks w B (some ⟨g, 0, none⟩) m c L) (hm : 0 < m) : ∃ cur, w.heap[g]? = some (.cells cur 46 (0, 0)) ∧ B ≤ g ∧ ∀ i, i < m * 3 → cur[i]? = (L.flatMap Ck.cells)[i]? := by
  obtain ⟨g', cur, h1, h2, h3, _, h4⟩ := own_some h.1 hm
  obtain rfl : g = g' := by simpa using h1
  exact ⟨cur, h3, h2, h4⟩
theorem OwnCks.there {w : World} {B g m c i : Nat} {L : List Ck} (h : OwnCks w B (some ⟨g, 0, none⟩) m c L) (hi : i < m) : w.there g (i * 3) 3 := fun j hj => by
  obtain ⟨cur, h1, -, h2⟩ := h.block (by omega)
  have hl := h.1.1
  refine ⟨?_, frozen_none h1 _⟩
  rw [cell_of_row w g _ _ _ _ h1, h2 _ (by omega), List.getElem?_eq_getElem (by omega)]
  rfl
theorem OwnCks.range {w : World} {B g m c i : Nat} {L : List Ck} {k : Ck} (h : OwnCks w B (some ⟨g, 0, none⟩) m c L) (hi : L[i]? = some k) : w.rangeAt g (i * 3) k.cells := by
  have hlen := h.len
  obtain ⟨hil, -⟩ := List.getElem?_eq_some_iff.1 hi
  obtain ⟨cur, h1, -, h2⟩ := h.block (by omega)
  exact range_get hi (fun j hj => by rw [cell_of_row w g _ _ _ _ h1, h2 _ (by omega)])
theorem OwnCks.set {w : World} {B g m c i : Nat} {L : List Ck} {k : Ck} (h : OwnCks w B (some ⟨g, 0, none⟩) m c L) (hi : i < m) (hk : OwnK w B k) : OwnCks (w.setCells g (i * 3) k.cells) B (some ⟨g, 0, none⟩) m c (L.set i k) := by
  have hlen := h.len
  obtain ⟨cur, h1, -, -⟩ := h.block (by omega)
  have keep : ∀ x, OwnK w B x → OwnK (w.setCells g (i * 3) k.cells) B x := fun x hx => ⟨own_other hx.1 (grown_setCells g _ _ _) (Ne.symm (own_apart hx.1 h1 (by decide))), hx.2⟩
  refine ⟨?_, fun x hx => ?_⟩
  · rw [← cells_set L i k (by omega)]
    exact own_setCells k.cells (i * 3) w _ h.1 (by show i * 3 + 3 ≤ m * 3; omega)
  · rcases List.mem_or_eq_of_mem_set hx with hx | rfl
    · exact keep x (h.2 x hx)
    · exact keep _ hk
theorem OwnK.bytes {w : World} {B g j : Nat} {cur : Array Value} (x : UInt8) (hg : w.heap[g]? = some (.cells cur 5 (0, 0))) (hj : j < cur.size) : ∀ L : List Ck, (∀ k ∈ L, OwnK w B k) →
    ∃ L' : List Ck, L'.flatMap Ck.cells = L.flatMap Ck.cells ∧ ∀ k ∈ L', OwnK (w.setCell ⟨g, j, none⟩ (u8 x)) B k
  | [], _ => ⟨[], rfl, fun k hk => by cases hk⟩
  | k :: L, h => by
    obtain ⟨L', h1, h2⟩ := OwnK.bytes x hg hj L (fun k hk => h k (List.mem_cons_of_mem _ hk))
    have hk := h k (List.mem_cons_self ..)
    obtain ⟨l', -, h3⟩ := own_setByte x hk.1 ⟨cur, hg, hj⟩
    refine ⟨⟨k.s, k.z, k.a, k.n, k.c, l'⟩ :: L', by rw [List.flatMap_cons, List.flatMap_cons, h1]; rfl, fun y hy => ?_⟩
    rcases List.mem_cons.1 hy with rfl | hy
    · exact ⟨h3, hk.2⟩
    · exact h2 y hy
theorem OwnCks.byte {w : World} {B g j m c : Nat} {a : Option Addr} {L : List Ck} {cur : Array Value} (x : UInt8) (h : OwnCks w B a m c L) (hg : w.heap[g]? = some (.cells cur 5 (0, 0))) (hj : j < cur.size) :
    ∃ L', OwnCks (w.setCell ⟨g, j, none⟩ (u8 x)) B a m c L' := by
  obtain ⟨L', h1, h2⟩ := OwnK.bytes x hg hj L h.2
  exact ⟨L', by rw [h1]; exact own_other h.1 (grown_setCell' w g j _) (Ne.symm (own_apart h.1 hg (by decide))), h2⟩
theorem u8_bits (op : BinOp) (a b : Int) : ∃ x, Value.int .u8 (bits op .u8 a b) = u8 x := by
  obtain ⟨n, hn⟩ : ∃ n : Nat, bits op .u8 a b = IntKind.wrap .u8 n := ⟨_, rfl⟩
  have h : IntKind.wrap .u8 (n : Int) = ((n % 256 : Nat) : Int) := by simp [IntKind.wrap, IntKind.bits, IntKind.signed]
  rw [hn, h]
  exact ⟨UInt8.ofNat (n % 256), (u8_ofNat _ (Nat.mod_lt _ (by decide))).symm⟩
theorem grown_of_drew (w : World) (b : Nat) : w.grownBy w.drew (some b) := ⟨rfl, rfl, rfl, Nat.le_refl _, fun _ _ _ => rfl⟩
def FaultyPost (w : World) (g : Nat) (e : Ending) (w' : World) : Prop :=
  ∃ (a : Option Addr) (m c : Nat) (L : List Ck), e = .returned (.slice a m c) ∧ OwnCks w' w.heap.size a m c L ∧ m ≤ 6 ∧ w.grownBy w' (some g)
theorem OwnK.kept {w w' : World} {B g : Nat} {k : Ck} (h : OwnK w B k) (hg : w.grownBy w' (some g)) (hB : g < B) : OwnK w' B k := ⟨own_kept h.1 hg hB, h.2⟩
theorem OwnCks.kept {w w' : World} {B g n c : Nat} {a : Option Addr} {L : List Ck} (h : OwnCks w B a n c L) (hg : w.grownBy w' (some g)) (hB : g < B) : OwnCks w' B a n c L :=
  ⟨own_kept h.1 hg hB, fun k hk => (h.2 k hk).kept hg hB⟩
theorem grown_own {w w1 w2 : World} {g b : Nat} (h : w.grownBy w1 (some g)) (h2 : w1.grownBy w2 (some b)) (hb : w.heap.size ≤ b) : w.grownBy w2 (some g) := chg_trans h h2 (fun b' hb' => .inl (by cases hb'; exact hb))

set_option maxRecDepth 100000 in
set_option maxHeartbeats 1000000 in
theorem faulty_any (g k0 : Nat) (w : World) (ht : Tape w g k0) (hk : k0 ≤ 1000000000000) :
    Calls Try.prog 11 #[.pointer (some ⟨g, 0, none⟩)] w (FaultyPost w g) := by
  have hgl := ht.lt
  go_enter Try.func11, Try.ntmps11
  go_wp2_with (go_at_call 19; (with_reducible refine (made_any g k0 _ ht (by omega)).mono ?_); rintro e w1 ⟨a1, m, c1, k1, L, rfl, hO1, hm, hA, ht1, hk1, hg1⟩; have hpart : m = 0 ∨ 0 < m := Nat.eq_zero_or_pos m; rcases hpart with h0 | h0)
  · subst h0
    go_wp2
    go_ret
    exact ⟨a1, 0, c1, L, rfl, hO1, by omega, hg1⟩
  · have hm0 : ((m : Int) == 0) = false := by simp; omega
    have t1 : True := trivial
    go_wp2_with (first
      | (go_at_call 20; have _t := t1; (with_reducible refine (Next_any g k1 m _ ht1 (by omega) (by omega)).mono ?_); rintro e w2 ⟨u, rfl, hu, ht2, hg2⟩; clear t1; have hum : u < m := (by unfold Below1 at hu; omega))
      | (go_at_call 20; (with_reducible refine (Next_any g (k1 + 1) 7 _ ht2 (by omega) (by omega)).mono ?_); rintro e w3 ⟨p, rfl, hp, ht3, hg3⟩; have hp7 : p < 7 := (by unfold Below1 at hp; omega); have hO3 := (hO1.kept hg2 hgl).kept hg3 hgl; have hw3 : w.grownBy w3 (some g) := grown_trans' (grown_trans' hg1 hg2) hg3; obtain ⟨b, cur, rfl, hBb, hhb, hmc, hcur⟩ := own_some hO3.1 h0; have hpp : p = 0 ∨ p = 1 ∨ p = 2 ∨ p = 3 ∨ 4 ≤ p := (by omega); clear hu hp; refine Stop.of ?_))
    obtain ⟨y, hy⟩ : ∃ y, L[u]? = some y := ⟨_, List.getElem?_eq_getElem (by have := hO1.len; omega)⟩
    obtain ⟨y0, hy0⟩ : ∃ y, L[0]? = some y := ⟨_, List.getElem?_eq_getElem (by have := hO1.len; omega)⟩
    have HY := Lib.hid hy
    have HY0 := Lib.hid hy0
    have hyK := hO3.2 y (List.mem_of_getElem? hy)
    have hyK0 := hO3.2 y0 (List.mem_of_getElem? hy0)
    have hyR := hA.1 y (List.mem_of_getElem? hy)
    have hHH := Lib.hid hhb
    have HC := Lib.hid hcur
    clear hy hy0 hhb hcur
    have hrg := hO3.range HY.out
    have hrg0 := hO3.range HY0.out
    have hrw := Row.of_own hO3.1
    rcases hpp with rfl | rfl | rfl | rfl | hp4
    · -- a byte
      have hyn : 0 < y.n := by have := hyK.in.1.len; simp only [rightB, Bool.and_eq_true, decide_eq_true_eq] at hyR; omega
      obtain ⟨bg, bcur, hya, hBg, hbh, hync, hbc⟩ := own_some hyK.1 hyn
      obtain ⟨x, hx⟩ : ∃ x, y.l[0]? = some x := ⟨_, List.getElem?_eq_getElem (by have := hyK.in.1.len; omega)⟩
      have hb0 := hbc 0 (by omega)
      have hbsz : 0 < bcur.size := by
        rw [List.getElem?_map, hx] at hb0
        exact (Array.getElem?_eq_some_iff.1 hb0).1
      have hcu : w3.cell? ⟨b, u * 3 + 2, none⟩ = some (.slice (some ⟨bg, 0, none⟩) y.n y.c) := by have := hrg 2 (.slice y.a y.n y.c) rfl; rw [hya] at this; exact this
      have hcx : w3.cell? ⟨bg, 0, none⟩ = some (.int .u8 (x.toNat : Int)) := by rw [cell_of_row w3 bg 0 _ _ _ hbh, hb0, List.getElem?_map, hx]; rfl
      have hfx : w3.frozen? ⟨bg, 0, none⟩ = false := frozen_none hbh _
      have HB := Lib.hid hbh
      clear hb0 hbc hbh
      refine Stop.out ?_
      go_wp2
      go_ret
      obtain ⟨x', hx'⟩ := u8_bits .xor (x.toNat : Int) 1
      rw [hx']
      obtain ⟨L', hL'⟩ := hO3.byte x' HB.out hbsz
      exact ⟨_, m, c1, L', rfl, hL', by omega, grown_own hw3 (grown_setCell' w3 bg 0 _) hBg⟩
    · refine Stop.out ?_
      go_wp2_with (first
        | (refine wpList_load_mid rfl 46 _ rfl b (u * 3) rfl y.cells _ hrg Try.underlying46 rfl (by kernel_rfl) ?_; simp only [Ck.cells])
        | (at_builtin; go_loud (refine wpList_appK rfl _ _ rfl Try.elC rfl (.inl (own_ext hO3.1 (Ext.alloc' _ _))) rfl (Row.new _ #[.int .u64 y.s, .int .i64 y.z, .slice y.a y.n y.c] 46 1 3 rfl (by decide)) (oneCell_ck y) (by omega) (by omega) (by unfold maxLen; omega) (by have := hw3.size; simp; omega) ?_); intro a6 c6 w6 ho6 hb6 hk6))
      go_ret
      have hB6 : Below w.heap.size w3 w6 := ((Ext.alloc' _ _).mono hw3.size).trans hb6
      have hK6 : KeepT 46 w3 w6 := (KeepT.of_ext (Ext.alloc' _ _)).trans hk6
      refine ⟨a6, m + 1, c6, L ++ [y], rfl, ⟨by rw [List.flatMap_append, List.flatMap_cons, List.flatMap_nil, List.append_nil]; exact ho6, fun k hk => ?_⟩, by omega, ?_⟩
      · rcases List.mem_append.1 hk with h | h
        · exact ⟨own_keepT (hO3.2 k h).1 hK6 (by decide), (hO3.2 k h).2⟩
        · obtain rfl : k = y := by simpa using h
          exact ⟨own_keepT hyK.1 hK6 (by decide), hyK.2⟩
      · exact ⟨hB6.os.trans hw3.os, hB6.tape.trans hw3.tape, hB6.output.trans hw3.output, Nat.le_trans hw3.size hB6.size, fun k hk hkg => (hB6.block k hk).trans (hw3.block k hk hkg)⟩
    · refine Stop.out ?_
      go_wp2
      refine wp_region_y w.heap.size [] (.qs [0, 1, 2, 3, 4, 5, 7, 8] (.alt 6 (.l 9 (.qs [10] (.l 11 (.qs [12] (.l 13 .nil))))) (.alt 9 (.l 6 (.qs [10] (.l 11 (.qs [12] (.l 13 .nil))))) .stop))) (by kernel_rfl) (by kernel_rfl) ?_
      have hE : Below w.heap.size w3 w3.drew := (Below.refl _ _).drew
      have hO4 := hO3.ext (Ext.drew' _)
      have hrg' := hO4.range HY.out
      have hrg0' := hO4.range HY0.out
      have hO4a := hO4.set (i := 0) (k := y) (by omega) (hyK.ext (Ext.drew' _))
      have hg4 := grown_setCells b y.cells (0 * 3) w3.drew
      have hE4 : Below w.heap.size w3 (w3.drew.setCells b (0 * 3) y.cells) := hE.grown hg4 hw3.size (fun k hk => by cases hk; exact hBb)
      have hO5 := hO4a.set (i := u) (k := y0) (by omega) ⟨own_other (hyK0.ext (Ext.drew' _)).1 hg4 (Ne.symm (own_apart (hyK0.ext (Ext.drew' _)).1 (show w3.drew.heap[b]? = _ from hHH.out) (by decide))), hyK0.2⟩
      have hg5 := grown_setCells b y0.cells (u * 3) (w3.drew.setCells b (0 * 3) y.cells)
      have hE5 : Below w.heap.size w3 ((w3.drew.setCells b (0 * 3) y.cells).setCells b (u * 3) y0.cells) := hE4.grown hg5 (Nat.le_trans hw3.size hE4.size) (fun k hk => by cases hk; exact hBb)
      iterate 5 ((refine wpY_q rfl rfl _ (fun w' hx' => by go_simp; try rfl) ?_; go_simp))
      refine wpY_ixp rfl rfl (.tmp 42) (.tmp 43) rfl Try.elC rfl u rfl rfl hum ?_
      ((refine wpY_q rfl rfl _ (fun w' hx' => by go_simp; try rfl) ?_; go_simp))
      refine wpY_ixp rfl rfl (.tmp 46) _ rfl Try.elC rfl 0 rfl rfl h0 ?_
      refine wpY_alt rfl rfl ?_ (wpY_alt rfl rfl ?_ wpY_stop)
      · refine wp_load_mid 46 _ rfl b (u * 3) rfl y.cells _ hrg' Try.underlying46 rfl (by kernel_rfl) ?_
        refine ⟨fun _ => hE, ?_⟩
        go_simp
        refine wpY_l rfl rfl (wp_load_mid 46 _ rfl b (0 * 3) rfl y0.cells _ hrg0' Try.underlying46 rfl (by kernel_rfl) ?_)
        refine ⟨fun _ => hE, ?_⟩
        go_simp
        refine wpY_ixp rfl rfl (.tmp 39) _ rfl Try.elC rfl 0 rfl rfl h0 ?_
        refine wpY_l rfl rfl (wp_store_mid 46 _ _ rfl b (0 * 3) y.cells.toArray rfl rfl (hO4.there h0) (by kernel_rfl) (all_oneCell_toArray (oneCell_ck y)) ?_)
        refine ⟨fun _ => hE4, ?_⟩
        refine wpY_ixp rfl rfl (.tmp 40) (.tmp 41) rfl Try.elC rfl u rfl rfl hum ?_
        refine wpY_l rfl rfl (wp_store_mid 46 _ _ rfl b (u * 3) y0.cells.toArray rfl rfl (hO4a.there hum) (by kernel_rfl) (all_oneCell_toArray (oneCell_ck y0)) ?_)
        refine ⟨fun _ => hE5, ?_⟩
        refine wpY_nil ?_
        go_simp
        go_wp2
        go_ret
        exact ⟨_, m, c1, _, rfl, hO5, by omega, grown_own (grown_own hw3 (grown_trans' (grown_of_drew w3 b) hg4) hBb) hg5 hBb⟩
      · refine wp_load_mid 46 _ rfl b (0 * 3) rfl y0.cells _ hrg0' Try.underlying46 rfl (by kernel_rfl) ?_
        refine ⟨fun _ => hE, ?_⟩
        go_simp
        refine wpY_l rfl rfl (wp_load_mid 46 _ rfl b (u * 3) rfl y.cells _ hrg' Try.underlying46 rfl (by kernel_rfl) ?_)
        refine ⟨fun _ => hE, ?_⟩
        go_simp
        refine wpY_ixp rfl rfl (.tmp 39) _ rfl Try.elC rfl 0 rfl rfl h0 ?_
        refine wpY_l rfl rfl (wp_store_mid 46 _ _ rfl b (0 * 3) y.cells.toArray rfl rfl (hO4.there h0) (by kernel_rfl) (all_oneCell_toArray (oneCell_ck y)) ?_)
        refine ⟨fun _ => hE4, ?_⟩
        refine wpY_ixp rfl rfl (.tmp 40) (.tmp 41) rfl Try.elC rfl u rfl rfl hum ?_
        refine wpY_l rfl rfl (wp_store_mid 46 _ _ rfl b (u * 3) y0.cells.toArray rfl rfl (hO4a.there hum) (by kernel_rfl) (all_oneCell_toArray (oneCell_ck y0)) ?_)
        refine ⟨fun _ => hE5, ?_⟩
        refine wpY_nil ?_
        go_simp
        go_wp2
        go_ret
        exact ⟨_, m, c1, _, rfl, hO5, by omega, grown_own (grown_own hw3 (grown_trans' (grown_of_drew w3 b) hg4) hBb) hg5 hBb⟩
    · refine Stop.out ?_
      go_wp2_with (refine wpList_store_mid rfl 46 _ _ rfl b (u * 3) #[.int .u64 0, .int .i64 0, .slice none 0 0] rfl rfl (hO3.there (by omega)) (by kernel_rfl) (by simp [Value.oneCell']) ?_)
      go_ret
      have h := hO3.set (i := u) (k := ⟨0, 0, none, 0, 0, []⟩) (by omega) ⟨own_nil _ _ _ _, by decide, by decide, by decide⟩
      exact ⟨_, m, c1, _, rfl, h, by omega, grown_own hw3 (grown_setCells b _ _ _) hBb⟩
    · have hp0 : ((p : Int) == 0) = false := by simp; omega
      have hp1 : ((p : Int) == 1) = false := by simp; omega
      have hp2 : ((p : Int) == 2) = false := by simp; omega
      have hp3 : ((p : Int) == 3) = false := by simp; omega
      refine Stop.out ?_
      go_wp2
      go_ret
      exact ⟨_, m, c1, _, rfl, hO3, by omega, hw3⟩
end Go.Proofs.Ytncdcpaelecikaa
