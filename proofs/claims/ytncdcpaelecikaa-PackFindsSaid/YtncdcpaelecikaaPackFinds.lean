/-
  The law PackFinds.
-/
import Derived.Test.YtncdcpaelecikaaPackTrue
import Derived.Test.YtncdcpaelecikaaPackDamage
import Derived.Test.YtncdcpaelecikaaFind
import Derived.Deep.Cut
namespace Go.Proofs.Ytncdcpaelecikaa
open Go.RowKit

/-- All blocks of a list of chunks lie at B or above. -/
def Over (B : Nat) (a : Option Addr) (L : List Ck) : Prop := (∀ p, a = some p → B ≤ p.block) ∧ ∀ k ∈ L, ∀ p, k.a = some p → B ≤ p.block
theorem Chunks.apartO {w w' : World} {a : Option Addr} {n c g B : Nat} {L : List Ck} (h : Chunks w a n c L) (hU : Over B a L) (hg : w.grownBy w' (some g)) (hB : g < B) : Chunks w' a n c L :=
  ⟨h.1, h.2.1.apart hg (fun p hp => by have := hU.1 p hp; omega), fun k hk => ⟨(h.2.2 k hk).1.apart hg (fun p hp => by have := hU.2 k hk p hp; omega), (h.2.2 k hk).2⟩⟩
theorem OwnCks.over {w : World} {B n c : Nat} {a : Option Addr} {L : List Ck} (h : OwnCks w B a n c L) : Over B a L :=
  ⟨own_fresh h.1, fun k hk => own_fresh (h.2 k hk).1⟩
theorem Over.mono {B B' : Nat} {a : Option Addr} {L : List Ck} (h : Over B a L) (hB : B' ≤ B) : Over B' a L := ⟨fun p hp => Nat.le_trans hB (h.1 p hp), fun k hk p hp => Nat.le_trans hB (h.2 k hk p hp)⟩
/-- The law's state: the ID in block g, the tape in block g + 1, the bytes. -/
structure FSt (K : Nat) (w : World) (a : Option Addr) (n c : Nat) (l : List UInt8) (w' : World) : Prop where
  ext : Ext w w'
  lt : w.heap.size + 2 ≤ w'.heap.size
  tape : ∃ k, k ≤ K ∧ Tape w' (w.heap.size + 1) k
  box : ∃ (s : Nat) (z : Int), w'.heap[w.heap.size]? = some (.cells #[.int .u64 s, .int .i64 z] 44 (0, 0))
  by_ : Bytes w' a n c l
  far : ∀ p, a = some p → w.heap.size + 2 ≤ p.block
theorem FSt.on {K : Nat} {w w1 w2 : World} {a : Option Addr} {n c : Nat} {l : List UInt8} (h : FSt K w a n c l w1) (hx : Ext w1 w2) : FSt K w a n c l w2 :=
  ⟨h.ext.trans' hx, Nat.le_trans h.lt hx.size, by obtain ⟨k, hk, ht⟩ := h.tape; exact ⟨k, hk, ht.ext hx⟩, by obtain ⟨s, z, hb⟩ := h.box; exact ⟨s, z, hx.heap' hb⟩, h.by_.ext hx, h.far⟩
theorem FSt.next {K K' : Nat} {w w1 w2 : World} {a : Option Addr} {n c k : Nat} {l : List UInt8} (h : FSt K w a n c l w1) (hg : w1.grownBy w2 (some (w.heap.size + 1))) (ht : Tape w2 (w.heap.size + 1) k) (hk : k ≤ K') : FSt K' w a n c l w2 :=
  ⟨h.ext.rd hg (Nat.le_succ _), Nat.le_trans h.lt hg.size, ⟨k, hk, ht⟩, by
    obtain ⟨s, z, hb⟩ := h.box
    exact ⟨s, z, by rw [hg.block _ (Array.getElem?_eq_some_iff.1 hb).1 (by intro h; have := Option.some.inj h; omega)]; exact hb⟩, h.by_.apart hg (fun p hp => by have := h.far p hp; omega), h.far⟩
/-- A store into the box of an ID keeps the tape, wherever its list lies. -/
theorem Tape.box {w w2 : World} {g b k s s' : Nat} {z z' : Int} {t : TypeId} (h : Tape w g k) (hb : w.heap[b]? = some (.cells #[.int .u64 s, .int .i64 z] t (0, 0))) (hb2 : w2.heap[b]? = some (.cells #[.int .u64 s', .int .i64 z'] t (0, 0)))
    (hg : w.grownBy w2 (some b)) (hz : -9223372036854775808 ≤ z' ∧ z' ≤ 9223372036854775807) (hne : g ≠ b) : Tape w2 g k := by
  have hlt := h.lt
  obtain ⟨a, m, c, L, h1, h2, h3, h4⟩ := h
  have h1' : w2.heap[g]? = some (.cells #[.slice a m c, .int .i64 k] 26 (0, 0)) := by
    rw [hg.block _ hlt (fun h => hne (Option.some.inj h))]; exact h1
  by_cases hm : 0 < m
  rotate_left
  · obtain rfl : m = 0 := by omega
    have hL : L = [] := List.eq_nil_of_length_eq_zero (by have := h2.len; simpa using this)
    subst hL
    exact ⟨a, 0, c, [], h1', ⟨h2.len, h2.le, h2.max, h2.nil, h2.at_, fun p hp j u hj => by simp at hj⟩, h3, h4⟩
  by_cases hab : ∀ p, a = some p → p.block ≠ b
  · exact ⟨a, m, c, L, h1', h2.apart hg hab, h3, h4⟩
  · have hab' : ∃ p, a = some p ∧ p.block = b := by
      cases a with
      | none => exact absurd (fun p hp => nomatch hp) hab
      | some p => exact ⟨p, rfl, Classical.byContradiction fun hn => hab fun q hq => by cases hq; exact hn⟩
    obtain ⟨p, rfl, hpb⟩ := hab'
    have hl := h2.len
    rcases h2.at_ p rfl with hc | ⟨b', o, rfl⟩
    · have := h2.le; omega
    obtain rfl : b' = b := hpb
    have key : ∀ j, j < m → o + j = 1 := fun j hj => by
      have hj' : j < L.length := by simpa using (show j < (L.map (Value.int .i64)).length by omega)
      have hc := h2.cell _ rfl j (.int .i64 L[j]) (by rw [List.getElem?_map, List.getElem?_eq_getElem hj']; rfl)
      rw [Addr.add_lit, cell_of_row _ _ _ _ _ _ hb] at hc
      match hoj : o + j, hc with
      | 0, hc => simp at hc
      | 1, hc => rfl
      | n + 2, hc => simp at hc
    obtain rfl : m = 1 := by
      have k0 := key 0 hm
      rcases Nat.lt_or_ge 1 m with h | h
      · have k1 := key 1 h; omega
      · omega
    have ho : o = 1 := by have := key 0 (by omega); omega
    subst ho
    refine ⟨_, 1, c, [z'], h1', ⟨rfl, h2.le, h2.max, h2.nil, h2.at_, fun q hq j u hj => ?_⟩, h3, fun x hx => ?_⟩
    · cases hq
      match j, hj with
      | 0, hj =>
        rw [Addr.add_lit, cell_of_row _ _ _ _ _ _ hb2, ← hj]; rfl
      | n + 1, hj => simp at hj
    · obtain rfl : x = z' := by simpa using hx
      exact hz
theorem FSt.store {K : Nat} {w w1 w2 : World} {a : Option Addr} {n c : Nat} {l : List UInt8} {s : Nat} {z : Int} (h : FSt K w a n c l w1) (hg : w1.grownBy w2 (some w.heap.size)) (hz : -9223372036854775808 ≤ z ∧ z ≤ 9223372036854775807)
    (hb : w2.heap[w.heap.size]? = some (.cells #[.int .u64 s, .int .i64 z] 44 (0, 0))) : FSt K w a n c l w2 :=
  ⟨h.ext.rd hg (Nat.le_refl _), Nat.le_trans h.lt hg.size, by
    obtain ⟨k, hk, ht⟩ := h.tape
    obtain ⟨s0, z0, hb0⟩ := h.box
    exact ⟨k, hk, ht.box hb0 hb hg hz (by omega)⟩, ⟨s, z, hb⟩, h.by_.apart hg (fun p hp => by have := h.far p hp; omega), h.far⟩
theorem FSt.there {K : Nat} {w w1 : World} {a : Option Addr} {n c : Nat} {l : List UInt8} (h : FSt K w a n c l w1) : w1.there w.heap.size 0 2 := fun j hj => by
  obtain ⟨s, z, hb⟩ := h.box
  refine ⟨?_, frozen_none hb _⟩
  rw [cell_of_row _ _ _ _ _ _ hb, Nat.zero_add]
  match j, hj with
  | 0, _ => rfl
  | 1, _ => rfl
theorem FSt.range {K : Nat} {w w1 : World} {a : Option Addr} {n c : Nat} {l : List UInt8} (h : FSt K w a n c l w1) : ∃ (s : Nat) (z : Int), w1.rangeAt w.heap.size 0 [.int .u64 s, .int .i64 z] ∧ ∀ w', Ext w1 w' → w'.rangeAt w.heap.size 0 [.int .u64 s, .int .i64 z] := by
  obtain ⟨s, z, hb⟩ := h.box
  exact ⟨s, z, range_of_heap2 hb, fun w' hx => range_of_heap2 (hx.heap' hb)⟩
theorem FSt.put {K : Nat} {w w1 : World} {a : Option Addr} {n c : Nat} {l : List UInt8} {k : Ck} (h : FSt K w a n c l w1) (hr : rightB k.s k.z k.l = true) : FSt K w a n c l (w1.setCells w.heap.size 0 [.int .u64 k.s, .int .i64 k.z]) := by
  obtain ⟨s, z, hb⟩ := h.box
  simp only [rightB, Bool.and_eq_true, decide_eq_true_eq] at hr
  refine h.store (s := k.s) (z := k.z) (grown_setCells _ _ _ _) (by omega) ?_
  simp [World.setCells, World.setCell, Array.getElem?_modify, hb]

/-- A state and a list of chunks. -/
def FSl (K : Nat) (w : World) (a : Option Addr) (n c : Nat) (l : List UInt8) (a2 : Option Addr) (m c2 : Nat) (M : List Ck) (w' : World) : Prop := FSt K w a n c l w' ∧ Chunks w' a2 m c2 M ∧ Over (w.heap.size + 2) a2 M
theorem FSl.on {K : Nat} {w w1 w2 : World} {a a2 : Option Addr} {n c m c2 : Nat} {l : List UInt8} {M : List Ck} (h : FSl K w a n c l a2 m c2 M w1) (hx : Ext w1 w2) : FSl K w a n c l a2 m c2 M w2 := ⟨h.1.on hx, h.2.1.ext hx, h.2.2⟩
theorem FSl.next {K K' : Nat} {w w1 w2 : World} {a a2 : Option Addr} {n c m c2 k : Nat} {l : List UInt8} {M : List Ck} (h : FSl K w a n c l a2 m c2 M w1) (hg : w1.grownBy w2 (some (w.heap.size + 1))) (ht : Tape w2 (w.heap.size + 1) k) (hk : k ≤ K') : FSl K' w a n c l a2 m c2 M w2 :=
  ⟨h.1.next hg ht hk, h.2.1.apartO h.2.2 hg (by omega), h.2.2⟩
theorem FSt.up {K K' : Nat} {w w1 : World} {a : Option Addr} {n c : Nat} {l : List UInt8} (h : FSt K w a n c l w1) (hK : K ≤ K') : FSt K' w a n c l w1 :=
  ⟨h.ext, h.lt, by obtain ⟨k, hk, ht⟩ := h.tape; exact ⟨k, Nat.le_trans hk hK, ht⟩, h.box, h.by_, h.far⟩
theorem FSl.up {K K' : Nat} {w w1 : World} {a a2 : Option Addr} {n c m c2 : Nat} {l : List UInt8} {M : List Ck} (h : FSl K w a n c l a2 m c2 M w1) (hK : K ≤ K') : FSl K' w a n c l a2 m c2 M w1 := ⟨h.1.up hK, h.2⟩

theorem frames_many (D : List Ck) : D.length ≤ (frames D).length := by
  induction D with
  | nil => simp
  | cons k D ih =>
    rw [show frames (k :: D) = frameB k.s k.z.toNat k.l ++ frames D by simp [frames], List.length_append]
    simp [frameB]
    omega
theorem dec_few {l : List UInt8} {D : List Ck} {er : Int} (h : decRes l = (D, er)) : D.length ≤ 1048576 := by
  by_cases h0 : er = 0
  · subst h0
    obtain ⟨e1, e2, -⟩ := dec_is h
    have e3 := frames_many D
    have e4 := congrArg List.length e1
    rw [pack_split] at e4
    simp only [List.length_append] at e4
    omega
  · rw [dec_err_nil h h0]; simp

set_option maxRecDepth 100000 in
set_option maxHeartbeats 4000000 in
theorem PackFinds_walk (a1 : Option Addr) (n1 c1 : Nat) (L1 : List Int) (s0 : Nat) (z0 : Int) (w : World)
    (hl : Row w a1 n1 c1 1 (L1.map (Value.int .i64))) (hli : ∀ x ∈ L1, -9223372036854775808 ≤ x ∧ x ≤ 9223372036854775807) (ha1 : ∀ p, a1 = some p → 0 < n1 → p.block < w.heap.size) :
    Calls Try.prog 10 #[.slice a1 n1 c1, .agg #[.int .u64 s0, .int .i64 z0]] w (LawPost w) := by
  obtain ⟨w1, hw1⟩ : ∃ w1, w1 = (w.alloc (.cells #[.int .u64 s0, .int .i64 z0] 44)).alloc (.cells #[.slice a1 n1 c1, .int .i64 0] 26) := ⟨_, rfl⟩
  have hx1 : Ext w w1 := by rw [hw1]; exact (Ext.alloc' _ _).trans' (Ext.alloc' _ _)
  have hsz : w1.heap.size = w.heap.size + 2 := by rw [hw1]; simp
  have ht1 : Tape w1 (w.heap.size + 1) 0 := by
    have h := heap_alloc_new (w.alloc (.cells #[.int .u64 s0, .int .i64 z0] 44)) (.cells #[.slice a1 n1 c1, .int .i64 0] 26)
    rw [show (w.alloc (.cells #[.int .u64 s0, .int .i64 z0] 44)).heap.size = w.heap.size + 1 by simp, ← hw1] at h
    exact ⟨a1, n1, c1, L1, h, hl.ext hx1, fun p hp h0 => by have := ha1 p hp h0; omega, hli⟩
  have hb1 : w1.heap[w.heap.size]? = some (.cells #[.int .u64 s0, .int .i64 z0] 44 (0, 0)) := by
    rw [hw1]; exact (Ext.alloc' _ _).heap' (heap_alloc_new w _)
  have HT := Lib.hid ht1
  have HB := Lib.hid hb1
  have HW := Lib.hid hw1
  clear ht1 hb1 hw1
  go_enter Try.func10, Try.ntmps10
  go_wp2_with (go_at_call 15; rw [← HW.out]; (with_reducible refine (lawBytes_any (w.heap.size + 1) 0 _ HT.out (by omega)).mono ?_); rintro e w2 ⟨a2, n2, c2, k2, l2, rfl, hb2, hfar2, hn2, ht2, hk2, hg2⟩; refine Stop.of ?_)
  have hF2 : FSt 1000 w a2 n2 c2 l2 w2 := ⟨hx1.rd hg2 (by omega), by have := hg2.size; omega, ⟨k2, by omega, ht2⟩, ⟨s0, z0, by rw [hg2.block _ (by omega) (by intro h; have := Option.some.inj h; omega)]; exact HB.out⟩, hb2, fun p hp => by have := hfar2 p hp; omega⟩
  clear hb2 hfar2 hg2 hx1 HT HB HW hsz
  refine Stop.out ?_
  go_wp2_with (go_at_call 19; (with_reducible refine (made_any (w.heap.size + 1) k2 _ ht2 (by omega)).mono ?_); rintro e w3 ⟨a3, m, c3, k3, M, rfl, hO3, hm, hA, ht3, hk3, hg3⟩; refine Stop.of ?_)
  have hF3 : FSl 2000 w a2 n2 c2 l2 a3 m c3 M w3 := ⟨hF2.next hg3 ht3 (by omega), hO3.chunks, hO3.over.mono hF2.lt⟩
  have HA := Lib.hid hA
  have HML := Lib.hid hO3.len
  clear hF2 ht2 hg3 hO3 hA
  refine Stop.out ?_
  go_upto_region 4 with fail
  go_cut [32] from 33 (fun s32 w' => ∃ b, s32 = .bool b ∧ (b = true → 0 < m) ∧ FSl 3000 w a2 n2 c2 l2 a3 m c3 M w')
  case first =>
    by_cases hm0 : 0 < m
    · have hd : decide ((0 : Int) < m) = true := by simp; omega
      go_wp2_with (go_at_call 20; (with_reducible refine (Next_any (w.heap.size + 1) k3 3 _ ht3 (by omega) (by omega)).mono ?_); rintro e w4 ⟨u, rfl, hu, ht4, hg4⟩)
      go_meet
      exact ⟨_, rfl, fun _ => hm0, hF3.next hg4 ht4 (by omega)⟩
    · have hd : decide ((0 : Int) < m) = false := by simp; omega
      go_wp2
      go_meet
      exact ⟨_, rfl, (fun h => by cases h), hF3.up (by omega)⟩
  case rest =>
    clear hF3 ht3
    obtain ⟨b, rfl, hbm, hF4⟩ := hcut
    obtain ⟨k4, hk4, ht4⟩ := hF4.1.tape
    go_upto_if 32 with fail
    go_cut [] from 33 (fun w' => FSt 4000 w a2 n2 c2 l2 w')
    case first =>
      cases b with
      | false =>
        go_wp2
        go_meet
        exact hF4.1.up (by omega)
      | true =>
        have hm0 := hbm rfl
        go_wp2_with (go_at_call 20; (with_reducible refine (Next_any (w.heap.size + 1) k4 m _ ht4 (by omega) (by omega)).mono ?_); rintro e w5 ⟨u, rfl, hu, ht5, hg5⟩; have hum : u < m := (by unfold Below1 at hu; omega); have hF5 := hF4.next (K' := 4000) hg5 ht5 (by omega); refine Stop.of ?_)
        obtain ⟨k, hk⟩ : ∃ k, M[u]? = some k := ⟨_, List.getElem?_eq_getElem (by have := HML.out; omega)⟩
        have hkR := Lib.hid (HA.out.1 k (List.mem_of_getElem? hk))
        have hr5 := hF5.2.1.2.1
        have hth := hF5.1.there
        have HK := Lib.hid hk
        clear hk hF4 hg5 ht4
        refine Stop.out ?_
        go_wp2_with (first
          | ((with_reducible refine atSlot 38 ?_); refine wpList_of_wp rfl (owp_ix (o := ⟨some 38, _, _, _, _, _⟩) _ _ rfl Try.elC rfl hr5 u rfl rfl hum ?_); intro b6 o6 hc6; have hrg6 := range_pre (range_get HK.out hc6); clear hc6)
          | ((with_reducible refine atSlot 40 ?_); refine wpList_of_wp rfl (wp_load_mid (op := ⟨some 40, _, _, _, _, _⟩) 44 _ rfl b6 o6 rfl [.int .u64 k.s, .int .i64 k.z] _ hrg6 Try.underlying44 rfl (by kernel_rfl) ?_))
          | ((with_reducible refine atStore 3 ?_); refine wpList_store_mid rfl 44 _ _ rfl w.heap.size 0 #[.int .u64 k.s, .int .i64 k.z] rfl rfl hth (by kernel_rfl) (by simp [Value.oneCell']) ?_))
        go_meet
        exact hF5.1.put hkR.out
    case rest =>
      clear hF4 ht4
      rename World => w6
      have hF6 : FSt 4000 w a2 n2 c2 l2 w6 := hcut
      obtain ⟨S, good, hS⟩ : ∃ S good, pkSalv l2 = (S, good) := ⟨_, _, rfl⟩
      have hln := hF6.by_.len
      have HS := Lib.hid hS
      have HSR := Lib.hid (salv_right hS).1
      clear hS hcut
      go_wp2_with (go_at_call 17; (with_reducible refine (refSalvage_any a2 n2 c2 l2 _ hF6.by_ (by omega)).mono ?_); rintro e w7 hp7; obtain ⟨n7, c7, a7, L7, rfl, hO7, hL7, hx7, hn7⟩ := hp7.is HS.out; refine Stop.of ?_)
      have hF7 : FSl 4000 w a2 n2 c2 l2 a7 n7 c7 L7 w7 := ⟨hF6.on hx7, hO7.chunks, hO7.over.mono hF6.lt⟩
      have hRR : ∀ k ∈ L7, rightB k.s k.z k.l = true := fun k hk => HSR.out k.d (by rw [← hL7]; exact List.mem_map_of_mem hk)
      have HRR := Lib.hid hRR
      have HL7 := Lib.hid hO7.len
      clear hF6 hO7 hx7 hL7 hRR hp7
      obtain ⟨k7, hk7, ht7⟩ := hF7.1.tape
      refine Stop.out ?_
      go_upto_region 7 with fail
      go_cut [53] from 54 (fun s53 w' => ∃ b, s53 = .bool b ∧ (b = true → 0 < n7) ∧ FSl 5000 w a2 n2 c2 l2 a7 n7 c7 L7 w')
      case first =>
        by_cases hm0 : 0 < n7
        · have hd : decide ((0 : Int) < n7) = true := by simp; omega
          go_wp2_with (go_at_call 20; (with_reducible refine (Next_any (w.heap.size + 1) k7 3 _ ht7 (by omega) (by omega)).mono ?_); rintro e w8 ⟨u, rfl, hu, ht8, hg8⟩)
          go_meet
          exact ⟨_, rfl, fun _ => hm0, hF7.next hg8 ht8 (by omega)⟩
        · have hd : decide ((0 : Int) < n7) = false := by simp; omega
          go_wp2
          go_meet
          exact ⟨_, rfl, (fun h => by cases h), hF7.up (by omega)⟩
      case rest =>
        clear hF7 ht7
        obtain ⟨b, rfl, hbm, hF8⟩ := hcut
        obtain ⟨k8, hk8, ht8⟩ := hF8.1.tape
        go_upto_if 53 with fail
        go_cut [] from 54 (fun w' => FSt 6000 w a2 n2 c2 l2 w')
        case first =>
          cases b with
          | false =>
            go_wp2
            go_meet
            exact hF8.1.up (by omega)
          | true =>
            have hm0 := hbm rfl
            go_wp2_with (go_at_call 20; (with_reducible refine (Next_any (w.heap.size + 1) k8 n7 _ ht8 (by omega) (by omega)).mono ?_); rintro e w9 ⟨u, rfl, hu, ht9, hg9⟩; have hum : u < n7 := (by unfold Below1 at hu; omega); have hF9 := hF8.next (K' := 6000) hg9 ht9 (by omega); refine Stop.of ?_)
            obtain ⟨k, hk⟩ : ∃ k, L7[u]? = some k := ⟨_, List.getElem?_eq_getElem (by have := HL7.out; omega)⟩
            have hkR := Lib.hid (HRR.out k (List.mem_of_getElem? hk))
            have hr9 := hF9.2.1.2.1
            have hth := hF9.1.there
            have HK := Lib.hid hk
            clear hk hF8 hg9 ht8
            refine Stop.out ?_
            go_wp2_with (first
              | ((with_reducible refine atSlot 59 ?_); refine wpList_of_wp rfl (owp_ix (o := ⟨some 59, _, _, _, _, _⟩) _ _ rfl Try.elC rfl hr9 u rfl rfl hum ?_); intro b6 o6 hc6; have hrg6 := range_pre (range_get HK.out hc6); clear hc6)
              | ((with_reducible refine atSlot 61 ?_); refine wpList_of_wp rfl (wp_load_mid (op := ⟨some 61, _, _, _, _, _⟩) 44 _ rfl b6 o6 rfl [.int .u64 k.s, .int .i64 k.z] _ hrg6 Try.underlying44 rfl (by kernel_rfl) ?_))
              | ((with_reducible refine atStore 3 ?_); refine wpList_store_mid rfl 44 _ _ rfl w.heap.size 0 #[.int .u64 k.s, .int .i64 k.z] rfl rfl hth (by kernel_rfl) (by simp [Value.oneCell']) ?_))
            go_meet
            exact hF9.1.put hkR.out
        case rest =>
          clear hF8 ht8
          rename World => wa
          have hFa : FSt 6000 w a2 n2 c2 l2 wa := hcut
          clear hcut
          obtain ⟨s, z, hrg, hrgx⟩ := hFa.range
          have hba := hFa.by_
          have hxa := hFa.ext
          obtain ⟨D, er, hD⟩ : ∃ D er, decRes l2 = (D, er) := ⟨_, _, rfl⟩
          obtain ⟨fb, fe, hFR⟩ : ∃ fb fe, findRes l2 s z = (fb, fe) := ⟨_, _, rfl⟩
          have hDn := dec_few hD
          have HD := Lib.hid hD
          have HFR := Lib.hid hFR
          have HDN := Lib.hid hDn
          clear hFa hD hFR hDn
          go_wp2_with (first
            | (go_at_call 27; (with_reducible refine (Index_any a2 n2 c2 l2 _ hba (by omega) HD.out (fun h0 => dec_err_nil HD.out h0)).mono ?_); rintro e wb ⟨ab, nb, cb, rfl, hlb, hob, hxb⟩; have hbb := hba.ext hxb)
            | (go_at_call 28; (with_reducible refine (refIndex_any a2 n2 c2 l2 _ hbb (by omega) HD.out).mono ?_); rintro e wd ⟨ad, nd, cd, rfl, hld, hod, hxd⟩; have hbd := hbb.ext hxd; have hrg1 := hrgx _ (hxb.trans' hxd))
            | ((with_reducible refine atSlot 74 ?_); refine wpList_of_wp rfl (wp_load_mid (op := ⟨some 74, _, _, _, _, _⟩) 44 _ rfl w.heap.size 0 rfl [.int .u64 s, .int .i64 z] _ hrg1 Try.underlying44 rfl (by kernel_rfl) ?_))
            | (go_at_call 26; (with_reducible refine (Find_any a2 n2 c2 l2 s z _ hbd (by omega)).mono ?_); rintro e we hpe; obtain ⟨ae, ne, ce, rfl, hbe, hxe⟩ := hpe.is HFR.out; have hrg2 := hrgx _ ((hxb.trans' hxd).trans' hxe); have hb2e := hbd.ext hxe)
            | ((with_reducible refine atSlot 80 ?_); refine wpList_of_wp rfl (wp_load_mid (op := ⟨some 80, _, _, _, _, _⟩) 44 _ rfl w.heap.size 0 rfl [.int .u64 s, .int .i64 z] _ hrg2 Try.underlying44 rfl (by kernel_rfl) ?_))
            | (go_at_call 29; (with_reducible refine (refFind_any a2 n2 c2 l2 s z _ hb2e (by omega)).mono ?_); rintro e wf hpf; obtain ⟨af, nf, cf, rfl, hbf, hxf⟩ := hpf.is HFR.out)
            | (go_at_call 14; (with_reducible refine (known_any _).mono ?_); rintro e wg ⟨rfl, hxg⟩; refine Stop.of ?_))
          have hxt := ((((hxa.trans' hxb).trans' hxd).trans' hxe).trans' hxf).trans' hxg
          have hr1 := Row.of_own (own_ext (own_ext (own_ext (own_ext hob hxd) hxe) hxf) hxg)
          have hr2 := Row.of_own (own_ext (own_ext (own_ext hod hxe) hxf) hxg)
          have hbe' := (hbe.ext hxf).ext hxg
          have hbf' := hbf.ext hxg
          have hnn : nd = nb := by omega
          subst hnn
          have hnd : nd ≤ 1048576 := by have := HDN.out; omega
          have hbe2 : ∀ w', Ext wg w' → Bytes w' ae ne ce fb := fun w' h => hbe'.ext h
          have hbf2 : ∀ w', Ext wg w' → Bytes w' af nf cf fb := fun w' h => hbf'.ext h
          clear hxa hxb hxd hxe hxf hxg hob hod hbe hbf hba hbb hbd hb2e hrg hrg1 hrg2 hrgx hpe hpf
          refine Stop.out ?_
          go_wp2_with (first
            | (go_at_call 30; (with_reducible refine (SameIDs_any ab nd cb ad cd D _ hr1 hr2 (by omega)).mono ?_); rintro e wh ⟨rfl, hxh⟩; have hbe3 := hbe2 _ hxh; have hbf3 := hbf2 _ hxh)
            | ((with_reducible refine atSlot 102 ?_); refine wpList_of_wp rfl (owp_conv (o := ⟨some 102, _, _, _, _, _⟩) _ rfl rfl hbe3 Try.underlying28 Try.underlying5 Try.underlying9 ?_))
            | ((with_reducible refine atSlot 104 ?_); refine wpList_of_wp rfl (owp_conv (o := ⟨some 104, _, _, _, _, _⟩) _ rfl rfl hbf3 Try.underlying28 Try.underlying5 Try.underlying9 ?_)))
          go_ret
          exact ⟨rfl, hxt.trans' hxh⟩
end Go.Proofs.Ytncdcpaelecikaa
