/-
  The reference's Sorted.
-/
import Derived.Test.YtncdcpaelecikaaPackG
import Derived.Test.YtncdcpaelecikaaOrdY
import Derived.Test.YtncdcpaelecikaaOwnS
namespace Go.Proofs.Ytncdcpaelecikaa
open Go.RowKit

structure Bs where
  a : Option Addr
  n : Nat
  c : Nat
  l : List UInt8
def Bs.v (b : Bs) : Value := .slice b.a b.n b.c
/-- A list of byte strings. -/
def Lists (w : World) (a : Option Addr) (n c : Nat) (L : List Bs) : Prop := L.length = n ∧ Row w a n c 1 (L.map Bs.v) ∧ ∀ b ∈ L, Bytes w b.a b.n b.c b.l
theorem Lists.ext {w w' : World} {a : Option Addr} {n c : Nat} {L : List Bs} (h : Lists w a n c L) (hx : Ext w w') : Lists w' a n c L := ⟨h.1, h.2.1.ext hx, fun b hb => (h.2.2 b hb).ext hx⟩

/-- A chunk whose bytes are one's own. -/
def OwnK (w : World) (B : Nat) (k : Ck) : Prop := w.ownsRow B 5 1 (.slice k.a k.n k.c) k.n (k.l.map u8) ∧ k.n ≤ 8192 ∧ (k.s : Int) ≤ 18446744073709551615 ∧ k.z ≤ 9223372036854775807
theorem OwnK.in {w : World} {B : Nat} {k : Ck} (h : OwnK w B k) : k.In w := ⟨Bytes.of_own h.1, Nat.le_trans h.2.1 (by decide), h.2.2.1⟩
theorem OwnK.ext {w w' : World} {B : Nat} {k : Ck} (h : OwnK w B k) (hx : Ext w w') : OwnK w' B k := ⟨own_ext h.1 hx, h.2⟩
theorem OwnK.base {w : World} {B B' : Nat} {k : Ck} (h : OwnK w B k) (hB : B' ≤ B) : OwnK w B' k := ⟨own_base h.1 hB, h.2⟩
/-- Right chunks, ascending. -/
def Asc (L : List Ck) : Prop := (∀ k ∈ L, rightB k.s k.z k.l = true) ∧ L.Pairwise fun x y => lessB x y = true
/-- A list of chunks of one's own. -/
def OwnCks (w : World) (B : Nat) (a : Option Addr) (n c : Nat) (L : List Ck) : Prop := w.ownsRow B 46 3 (.slice a n c) n (L.flatMap Ck.cells) ∧ ∀ k ∈ L, OwnK w B k
theorem cells_len (L : List Ck) : (L.flatMap Ck.cells).length = L.length * 3 := by
  induction L with
  | nil => rfl
  | cons k L ih => rw [List.flatMap_cons, List.length_append, ih, List.length_cons]; simp [Ck.cells]; omega
theorem OwnCks.len {w : World} {B n c : Nat} {a : Option Addr} {L : List Ck} (h : OwnCks w B a n c L) : L.length = n := by
  have := h.1.1
  rw [cells_len] at this
  omega
theorem OwnCks.chunks {w : World} {B n c : Nat} {a : Option Addr} {L : List Ck} (h : OwnCks w B a n c L) : Chunks w a n c L := ⟨h.len, Row.of_own h.1, fun k hk => (h.2 k hk).in⟩
theorem OwnCks.ext {w w' : World} {B n c : Nat} {a : Option Addr} {L : List Ck} (h : OwnCks w B a n c L) (hx : Ext w w') : OwnCks w' B a n c L :=
  ⟨own_ext h.1 hx, fun k hk => (h.2 k hk).ext hx⟩
def SortPost (w : World) (n : Nat) (e : Ending) (w' : World) : Prop :=
  ∃ (a : Option Addr) (m c : Nat) (L : List Ck), e = .returned (.slice a m c) ∧ OwnCks w' w.heap.size a m c L ∧ m ≤ n ∧ Asc L ∧ Ext w w'
def SRel (w : World) (n : Nat) (out i : Value) (wr : World) : Prop :=
  ∃ (j m c : Nat) (a : Option Addr) (L : List Ck), i = .int .i64 j ∧ out = .slice a m c ∧ j ≤ n ∧ OwnCks wr w.heap.size a m c L ∧ m ≤ j ∧ Asc L ∧ Ext w wr
theorem OwnCks.nil (w : World) (B : Nat) : OwnCks w B none 0 0 [] := ⟨own_nil _ _ _ _, fun k hk => by cases hk⟩
theorem Asc.nil : Asc [] := ⟨(fun k hk => by cases hk), List.Pairwise.nil⟩
theorem Try.elBB : Elem Try.prog 35 28 1 24 (.slice none 0 0) := ⟨Try.underlying35, by kernel_rfl, rfl, by decide⟩

theorem grown_setRow (w : World) (g : Nat) (cs : Array Value) : w.grownBy (w.setRow g cs) (some g) :=
  ⟨rfl, rfl, rfl, by simp [World.setRow], fun k _ hk => setRow_other w g k _ (fun e => hk (by rw [e]))⟩
theorem Ext.setRow {w w' : World} {g : Nat} {cs : Array Value} (h : Ext w w') (hg : w.heap.size ≤ g) : Ext w (w'.setRow g cs) :=
  h.grown (grown_setRow w' g cs) h.size (fun k hk => by cases hk; exact hg)
theorem own_setRow {w : World} {B e s n c g : Nat} {a : Option Addr} {xs : List Value} {cs : Array Value} (h : w.ownsRow B e s (.slice a n c) n xs) (hg : blockOf a ≠ some g) : (w.setRow g cs).ownsRow B e s (.slice a n c) n xs :=
  h.kept (row := some g) (grown_setRow w g cs) (by
    rw [ownBlock_slice]
    cases ha : blockOf a with
    | none => simp
    | some b => rw [ha] at hg; simpa using hg)

theorem lessB_trans {x y z : Ck} (h : lessB x y = true) (k : lessB y z = true) : lessB x z = true := by
  simp only [lessB, decide_eq_true_eq] at *
  omega
theorem Asc.insert {M : List Ck} {k : Nat} {x : Ck} (hA : Asc M) (hr : rightB x.s x.z x.l = true) (hlt : ∀ i y, i < k → M[i]? = some y → lessB y x = true) (hge : ∀ y, M[k]? = some y → lessB x y = true) :
    Asc (M.take k ++ x :: M.drop k) := by
  have hd : ∀ y ∈ M.drop k, lessB x y = true := by
    intro y hy
    cases hk : M[k]? with
    | none =>
      rw [List.drop_of_length_le (by simpa using hk)] at hy
      cases hy
    | some u =>
      obtain ⟨hl, rfl⟩ := List.getElem?_eq_some_iff.1 hk
      rw [List.drop_eq_getElem_cons hl] at hy
      have hu := hge _ hk
      rcases List.mem_cons.1 hy with rfl | hy
      · exact hu
      · have hp := hA.2.drop (i := k)
        rw [List.drop_eq_getElem_cons hl, List.pairwise_cons] at hp
        exact lessB_trans hu (hp.1 y hy)
  have ht : ∀ y ∈ M.take k, lessB y x = true := by
    intro y hy
    obtain ⟨i, hi⟩ := List.mem_iff_getElem?.1 hy
    rw [List.getElem?_take] at hi
    split at hi
    · rename_i hik; exact hlt i y hik hi
    · cases hi
  refine ⟨fun y hy => ?_, List.pairwise_append.2 ⟨hA.2.take, List.pairwise_cons.2 ⟨hd, hA.2.drop⟩, fun y hy z hz => ?_⟩⟩
  · rcases List.mem_append.1 hy with h | h
    · exact hA.1 y (List.mem_of_mem_take h)
    · rcases List.mem_cons.1 h with rfl | h
      · exact hr
      · exact hA.1 y (List.mem_of_mem_drop h)
  · rcases List.mem_cons.1 hz with rfl | hz
    · exact ht y hy
    · exact lessB_trans (ht y hy) (hd z hz)
theorem cells_take (M : List Ck) (k : Nat) : (M.flatMap Ck.cells).take (k * 3) = (M.take k).flatMap Ck.cells := by
  induction M generalizing k with
  | nil => simp
  | cons x M ih =>
    cases k with
    | zero => simp
    | succ k =>
      rw [List.flatMap_cons, List.take_succ_cons, List.flatMap_cons, ← ih, List.take_append]
      have hc : x.cells.length = 3 := rfl
      rw [List.take_of_length_le (by omega), hc, show (k + 1) * 3 - 3 = k * 3 by omega]
theorem cells_drop (M : List Ck) (k : Nat) : (M.flatMap Ck.cells).drop (k * 3) = (M.drop k).flatMap Ck.cells := by
  induction M generalizing k with
  | nil => simp
  | cons x M ih =>
    cases k with
    | zero => simp
    | succ k =>
      rw [List.flatMap_cons, List.drop_succ_cons, ← ih, List.drop_append]
      have hc : x.cells.length = 3 := rfl
      rw [List.drop_of_length_le (by omega), hc, show (k + 1) * 3 - 3 = k * 3 by omega, List.nil_append]
theorem cells_oneCell (M : List Ck) : ∀ u ∈ M.flatMap Ck.cells, u.oneCell' = true := by
  intro u hu
  obtain ⟨k, -, hk⟩ := List.mem_flatMap.1 hu
  simp only [Ck.cells, List.mem_cons, List.not_mem_nil, or_false] at hk
  rcases hk with rfl | rfl | rfl <;> rfl
theorem box_id {w : World} {g : Nat} {s z u : Value} (h : ∀ w' j, Ext w w' → w'.cell? ⟨g, j, none⟩ = #[s, z, u][j]?) : ∀ w', Ext w w' → w'.rangeAt g 0 [s, z] := fun w' hx j v hj => by
  have hlt : j < 2 := (List.getElem?_eq_some_iff.1 hj).1
  rw [Nat.zero_add, h w' j hx]
  rcases j with _ | _ | j
  · exact hj
  · exact hj
  · omega
theorem box_all {w : World} {g : Nat} {s z u : Value} (h : ∀ w' j, Ext w w' → w'.cell? ⟨g, j, none⟩ = #[s, z, u][j]?) : ∀ w', Ext w w' → w'.rangeAt g 0 [s, z, u] := fun w' hx j v hj => by
  rw [Nat.zero_add, h w' j hx, ← hj]; simp
def insC (M : List Ck) (k : Nat) (x : Ck) : List Value := (M.flatMap Ck.cells).take (k * 3) ++ x.cells ++ (M.flatMap Ck.cells).drop (k * 3)
theorem cells_insert (M : List Ck) (k : Nat) (x : Ck) : insC M k x = (M.take k ++ x :: M.drop k).flatMap Ck.cells := by
  rw [insC, cells_take, cells_drop, List.flatMap_append, List.flatMap_cons, List.append_assoc]
theorem oneCell_take {M : List Ck} {k : Nat} : ∀ u ∈ (M.flatMap Ck.cells).take k, u.oneCell' = true := fun u hu => cells_oneCell M u (List.mem_of_mem_take hu)
theorem oneCell_drop {M : List Ck} {k : Nat} : ∀ u ∈ (M.flatMap Ck.cells).drop k, u.oneCell' = true := fun u hu => cells_oneCell M u (List.mem_of_mem_drop hu)
theorem oneCell_ck (x : Ck) : ∀ u ∈ x.cells, u.oneCell' = true := fun u hu => cells_oneCell [x] u (by simpa using hu)
theorem mem_insert {M : List Ck} {k : Nat} {x y : Ck} (h : y ∈ M.take k ++ x :: M.drop k) : y = x ∨ y ∈ M := by
  rcases List.mem_append.1 h with h | h
  · exact .inr (List.mem_of_mem_take h)
  · rcases List.mem_cons.1 h with h | h
    · exact .inl h
    · exact .inr (List.mem_of_mem_drop h)
/-- Behind the insertion. -/
def MidI (w8 : World) (N : Nat) (cs : List Value) (v : Nat → Value) (w' : World) : Prop :=
  ∃ (c' : Nat) (a' : Option Addr), v 3 = .slice a' N c' ∧ w'.ownsRow w8.heap.size 46 3 (.slice a' N c') N cs ∧ Ext w8 w'
def IRel (M : List Ck) (x : Ck) (w5 : World) (at_ : Value) (wr : World) : Prop :=
  ∃ k : Nat, at_ = .int .i64 k ∧ k ≤ M.length ∧ (∀ i y, i < k → M[i]? = some y → lessB y x = true) ∧ Ext w5 wr

theorem alloc_gt (w : World) (o : Obj) : w.heap.size < (w.alloc o).heap.size := by simp
def Mid5 (w1 : World) (b : Bs) (v : Nat → Value) (w' : World) : Prop :=
  ∃ (g c2 : Nat) (a2 : Option Addr), v 5 = .pointer (some ⟨g, 0, none⟩) ∧
    w'.heap[g]? = some (.cells #[.int .u64 (fp b.l : Nat), .int .i64 b.n, .slice a2 b.n c2] 46 (0, 0)) ∧ w'.ownsRow w1.heap.size 5 1 (.slice a2 b.n c2) b.n (b.l.map u8) ∧ Ext w1 w'

set_option maxRecDepth 100000 in
set_option maxHeartbeats 600000 in
theorem Sorted_any (a : Option Addr) (n c : Nat) (L : List Bs) (w : World) (hL : Lists w a n c L) (hn : n ≤ 1000000) (hz : ∀ b ∈ L, 1 ≤ b.n ∧ b.n ≤ 8192) :
    Calls Try.prog 44 #[.slice a n c] w (SortPost w n) := by
  have HL := Lib.hid hL.1
  go_enter Try.func44, Try.ntmps44
  go_wp2
  go_loopw [3, 4] (SRel w n) (fun _ i _ => n - (intOf i).toNat)
  case atStart => exact ⟨0, 0, 0, none, [], rfl, rfl, by omega, OwnCks.nil _ _, by omega, Asc.nil, Below.refl _ _⟩
  case round =>
    obtain ⟨j, m, d, q, M, rfl, rfl, hj, hM, hmj, hA, hx⟩ := hrel
    rename World => w1
    by_cases hjn : j < n
    · obtain ⟨b, hb⟩ : ∃ b, L[j]? = some b := ⟨_, List.getElem?_eq_getElem (by have := HL.out; omega)⟩
      have hL1 := hL.ext hx
      obtain ⟨hb1, hb2⟩ := hz b (List.mem_of_getElem? hb)
      have hbb := hL1.2.2 b (List.mem_of_getElem? hb)
      have hr1 := hL1.2.1
      have HB := Lib.hid (show (L.map Bs.v)[j * 1 + 0]? = some b.v by rw [Nat.mul_one, Nat.add_zero, List.getElem?_map, hb]; rfl)
      clear hb hL1
      go_wp2
      refine wp_region_e [12] (.qs [0, 1, 2, 3, 5, 6, 7, 8] (.alt 4 (.alt 9 (.qs [10] (.l 11 (.l 12 .nil))) (.alt 11 (.l 9 (.qs [10] (.l 12 .nil))) .stop)) (.alt 11 (.l 4 (.l 9 (.qs [10] (.l 12 .nil)))) .stop))) (by kernel_rfl) (by kernel_rfl) ?_
      refine wpY_midA (Meets [5, 13, 14, 15, 16, 17, 18, 19, 20, 21, 22, 23] (Mid5 w1 b)) ?_ ?_
      · iterate 2 ((refine wpY_q rfl rfl _ (fun w' hx' => by go_simp; try rfl) ?_; go_simp))
        refine wpY_ix rfl rfl (.tmp 13) (.tmp 14) rfl Try.elBB rfl (fun w' h => hr1.ext h) j rfl rfl hjn ?_
        intro b1 o1 hc1
        have hc1' : ∀ w', Below w1.heap.size w1 w' → w'.cell? ⟨b1, o1, none⟩ = some (.slice b.a b.n b.c) := fun w' h => (hc1 0 (by omega) w' h).trans HB.out
        iterate 3 ((refine wpY_q rfl rfl _ (fun w' hx' => by go_simp; try rfl) ?_; go_simp))
        refine wpY_ix rfl rfl (.tmp 18) (.tmp 19) rfl Try.elBB rfl (fun w' h => hr1.ext h) j rfl rfl hjn ?_
        intro b2 o2 hc2
        have hc2' : ∀ w', Below w1.heap.size w1 w' → w'.cell? ⟨b2, o2, none⟩ = some (.slice b.a b.n b.c) := fun w' h => (hc2 0 (by omega) w' h).trans HB.out
        ((refine wpY_q rfl rfl _ (fun w' hx' => by go_simp; try rfl) ?_; go_simp))
        have E1 : Ext w1 w1.drew := Ext.drew' _
        refine wpY_alt rfl rfl ?_ (wpY_alt rfl rfl ?_ wpY_stop)
        · go_simp
          refine (refOf_any b.a b.n b.c b.l _ (hbb.ext E1) (by omega)).mono ?_
          rintro e w2 ⟨rfl, hx2⟩
          have E2 := E1.trans' hx2
          refine ⟨E2, ?_⟩
          go_simp
          refine wpY_alt rfl rfl ?_ (wpY_alt rfl rfl ?_ wpY_stop)
          · refine owp_clone _ _ rfl Try.elB rfl rfl (hbb.ext E2).row (u8_oneCell _) (by omega) ?_
            intro a3 c3 w3 ho3 hx3
            have E3 := E2.trans' hx3
            refine ⟨fun _ => E3, ?_⟩
            go_simp
            ((refine wpY_q rfl rfl _ (fun w' hx' => by go_simp; try rfl) ?_; go_simp))
            refine wpY_l rfl rfl ?_
            go_simp
            have E4 := E3.trans' (Ext.alloc' w3 (.cells #[.int .u64 0, .int .i64 0, .slice none 0 0] 46))
            refine ⟨E4, ?_⟩
            refine wpY_l rfl rfl (wp_store_row _ _ _ rfl _ _ rfl rfl _ _ (heap_alloc_new _ _) (by kernel_rfl) rfl (by simp [Value.oneCell']) ?_)
            refine ⟨(fun h => by cases h), wpY_nil ?_⟩
            go_simp
            have g1 := own_base (own_setRow (g := w3.heap.size) (cs := #[.int .u64 (fp b.l : Nat), .int .i64 b.n, .slice a3 b.n c3]) (own_ext ho3 (Ext.alloc' w3 (.cells #[.int .u64 0, .int .i64 0, .slice none 0 0] 46))) (fun h => Nat.lt_irrefl _ (own_block ho3 _ h).2)) E2.size
            refine Meets.mk (by kernel_rfl) ?_
            exact ⟨_, _, _, rfl, setRow_heap _ _ _ _ _ _ (heap_alloc_new _ _), g1, E4.setRow (E3.size)⟩
          · go_simp
            have E3 := E2.trans' (Ext.alloc' w2 (.cells #[.int .u64 0, .int .i64 0, .slice none 0 0] 46))
            refine ⟨E3, ?_⟩
            refine wpY_l rfl rfl (owp_clone _ _ rfl Try.elB rfl rfl (hbb.ext E3).row (u8_oneCell _) (by omega) ?_)
            intro a3 c3 w3 ho3 hx3
            have E4 := E3.trans' hx3
            refine ⟨fun _ => E4, ?_⟩
            go_simp
            ((refine wpY_q rfl rfl _ (fun w' hx' => by go_simp; try rfl) ?_; go_simp))
            have hh := hx3.heap' (heap_alloc_new w2 (.cells #[.int .u64 0, .int .i64 0, .slice none 0 0] 46))
            refine wpY_l rfl rfl (wp_store_row _ _ _ rfl _ _ rfl rfl _ _ hh (by kernel_rfl) rfl (by simp [Value.oneCell']) ?_)
            refine ⟨(fun h => by cases h), wpY_nil ?_⟩
            go_simp
            have g1 := own_base (own_setRow (g := w2.heap.size) (cs := #[.int .u64 (fp b.l : Nat), .int .i64 b.n, .slice a3 b.n c3]) ho3 (fun h => Nat.lt_irrefl _ (Nat.lt_of_lt_of_le (alloc_gt w2 (.cells #[.int .u64 0, .int .i64 0, .slice none 0 0] 46)) (own_block ho3 _ h).1))) E3.size
            refine Meets.mk (by kernel_rfl) ?_
            exact ⟨_, _, _, rfl, setRow_heap _ _ _ _ _ _ hh, g1, E4.setRow (E2.size)⟩
        · go_simp
          have E2 := E1.trans' (Ext.alloc' w1.drew (.cells #[.int .u64 0, .int .i64 0, .slice none 0 0] 46))
          refine ⟨E2, ?_⟩
          refine wpY_l rfl rfl ?_
          go_simp
          refine (refOf_any b.a b.n b.c b.l _ (hbb.ext E2) (by omega)).mono ?_
          rintro e w2 ⟨rfl, hx2⟩
          have E3 := E2.trans' hx2
          refine ⟨E3, ?_⟩
          go_simp
          · refine wpY_l rfl rfl (owp_clone _ _ rfl Try.elB rfl rfl (hbb.ext E3).row (u8_oneCell _) (by omega) ?_)
            intro a3 c3 w3 ho3 hx3
            have E4 := E3.trans' hx3
            refine ⟨fun _ => E4, ?_⟩
            go_simp
            ((refine wpY_q rfl rfl _ (fun w' hx' => by go_simp; try rfl) ?_; go_simp))
            have hh := hx3.heap' (hx2.heap' (heap_alloc_new w1.drew (.cells #[.int .u64 0, .int .i64 0, .slice none 0 0] 46)))
            have hz2 := hx2.size
            refine wpY_l rfl rfl (wp_store_row _ _ _ rfl _ _ rfl rfl _ _ hh (by kernel_rfl) rfl (by simp [Value.oneCell']) ?_)
            refine ⟨(fun h => by cases h), wpY_nil ?_⟩
            go_simp
            have g1 := own_base (own_setRow (g := w1.heap.size) (cs := #[.int .u64 (fp b.l : Nat), .int .i64 b.n, .slice a3 b.n c3]) ho3 (fun h => Nat.lt_irrefl _ (Nat.lt_of_lt_of_le (alloc_gt w1 (.cells #[.int .u64 0, .int .i64 0, .slice none 0 0] 46)) (Nat.le_trans hz2 (own_block ho3 _ h).1)))) E3.size
            refine Meets.mk (by kernel_rfl) ?_
            exact ⟨_, _, _, rfl, setRow_heap _ _ _ _ _ _ hh, g1, E4.setRow (Nat.le_refl _)⟩
      · rintro a' w5 ⟨v, rfl, g, c2, a2, hv5, hg5, ho5, hx5⟩
        simp only [fill, hv5]
        go_simp
        clear hv5
        obtain ⟨x, hx0⟩ : ∃ x : Ck, x = ⟨fp b.l, b.n, a2, b.n, c2, b.l⟩ := ⟨_, rfl⟩
        have hXs : x.s = fp b.l := by rw [hx0]
        have hM5 := hM.ext hx5
        have hmM := hM.len
        have hR : rightB x.s x.z x.l = true := by rw [hx0]; simp [rightB]; have := hbb.len; omega
        have hxin : OwnK w5 w.heap.size x := by rw [hx0]; exact ⟨own_base ho5 hx.size, (by show b.n ≤ _; omega), (by show ((fp b.l : Nat) : Int) ≤ _; have := fp_lt b.l; omega), (by show ((b.n : Nat) : Int) ≤ _; omega)⟩
        have hg5' : w5.heap[g]? = some (.cells #[.int .u64 x.s, .int .i64 x.z, .slice x.a x.n x.c] 46 (0, 0)) := by rw [hx0]; exact hg5
        have hxw5 : Ext w w5 := hx.trans' hx5
        clear hg5 hx0 hXs ho5 hbb hr1 HB hx5 hM hx
        have HmM := Lib.hid hmM
        clear hmM
        have hml : M.length ≤ m := by have := HmM.out; omega
        go_wp2
        go_loopw [6] (IRel M x w5) (fun i _ => m - (intOf i).toNat)
        case atStart => exact ⟨0, rfl, by omega, fun i y hi => by omega, Below.refl _ _⟩
        case round =>
          obtain ⟨k, rfl, hk, hlt, hx6⟩ := hrel
          rename World => w6
          have hM6 := hM5.ext hx6
          have hrM := Row.of_own hM6.1
          have hbox := hx6.heap' hg5'
          have HLT := Lib.hid hlt
          clear hlt
          have hk' : k ≤ m := by have := HmM.out; omega
          by_cases hkm : k < m
          focus
            obtain ⟨y, hy⟩ : ∃ y, M[k]? = some y := ⟨_, List.getElem?_eq_getElem (by have := HmM.out; omega)⟩
            have HY := Lib.hid hy
            clear hy
            go_wp2
            refine wp_region_e [] (.qs [0, 1, 2, 3, 4, 5, 6, 7, 8, 9, 10, 11] (.l 12 (.qs [13] .nil))) (by kernel_rfl) (by kernel_rfl) ?_
            have hA0 : ∀ w' j, Ext w6 w' → w'.cell? ⟨g, j, none⟩ = #[.int .u64 x.s, .int .i64 x.z, .slice x.a x.n x.c][j]? := fun w' j hx => cell_of_row _ _ _ _ _ _ (hx.heap' hbox)
            iterate 7 ((refine wpY_q rfl rfl _ (fun w' hx' => by go_simp; try rfl) ?_; go_simp))
            refine wpY_ix rfl rfl (.tmp 29) (.tmp 30) rfl Try.elC rfl (fun w' h => hrM.ext h) k rfl rfl hkm ?_
            intro b6 o6 hc6
            have hi6 := range_id HY.out hc6
            ((refine wpY_q rfl rfl _ (fun w' hx' => by go_simp; try rfl) ?_; go_simp))
            refine wpY_ld rfl rfl (.tmp 32) rfl b6 o6 rfl [.int .u64 y.s, .int .i64 y.z] _ hi6 Try.underlying44 rfl (by kernel_rfl) ?_
            ((refine wpY_q rfl rfl _ (fun w' hx' => by go_simp; try rfl) ?_; go_simp))
            refine wpY_ld rfl rfl (.tmp 34) rfl g 0 rfl [.int .u64 x.s, .int .i64 x.z] _ (box_id hA0) Try.underlying44 rfl (by kernel_rfl) ?_
            refine wpY_l rfl rfl ?_
            go_simp
            refine (Less_any y.s x.s y.z x.z _).mono ?_
            rintro e w7 ⟨rfl, hx7⟩
            have hx7' := (Ext.drew' w6).trans' hx7
            refine ⟨hx7', ?_⟩
            have eless : decide (y.s < x.s ∨ y.s = x.s ∧ y.z < x.z) = lessB y x := rfl
            rw [eless]
            clear eless
            by_cases hless : lessB y x = true
            · rw [hless]
              have HS := Lib.hid hless
              clear hless
              go_simp
              ((refine wpY_q rfl rfl _ (fun w' hx' => by go_simp; try rfl) ?_; go_simp))
              refine wpY_nil ?_
              go_wp2
              go_roundw
              case rel => exact ⟨k + 1, by go_num, by have := HmM.out; omega, fun i u hi hu => by
                by_cases hik : i = k
                · subst hik; rw [HY.out] at hu; cases hu; exact HS.out
                · exact HLT.out i u (by omega) hu, hx6.trans' hx7'⟩
              case measure => simp [intOf]; omega
            have hless' := Bool.eq_false_iff.2 hless
            rw [hless']
            have HS := Lib.hid hless'
            clear hless hless'
            go_simp
            ((refine wpY_q rfl rfl _ (fun w' hx' => by go_simp; try rfl) ?_; go_simp))
            refine wpY_nil ?_
            go_wp2
            have hx67 : Ext w6 w7 := hx7'
            have hrM7 := hrM.ext hx67
            have hbox7 := hx67.heap' hbox
            have hA7 : ∀ w' j, Ext w7 w' → w'.cell? ⟨g, j, none⟩ = #[.int .u64 x.s, .int .i64 x.z, .slice x.a x.n x.c][j]? := fun w' j hx => cell_of_row _ _ _ _ _ _ (hx.heap' hbox7)
            clear hA0 hc6 hi6 hx7 hx7' hbox
            refine wp_region_e [] (.qs [0, 1, 2, 3, 4, 5, 6, 7, 8, 9, 10, 11, 12, 13] .nil) (by kernel_rfl) (by kernel_rfl) ?_
            iterate 7 ((refine wpY_q rfl rfl _ (fun w' hx' => by go_simp; try rfl) ?_; go_simp))
            refine wpY_ix rfl rfl (.tmp 45) (.tmp 46) rfl Try.elC rfl (fun w' h => hrM7.ext h) k rfl rfl hkm ?_
            intro b7 o7 hc7
            have hi7 := range_id HY.out hc7
            ((refine wpY_q rfl rfl _ (fun w' hx' => by go_simp; try rfl) ?_; go_simp))
            refine wpY_ld rfl rfl (.tmp 48) rfl b7 o7 rfl [.int .u64 y.s, .int .i64 y.z] _ hi7 Try.underlying44 rfl (by kernel_rfl) ?_
            ((refine wpY_q rfl rfl _ (fun w' hx' => by go_simp; try rfl) ?_; go_simp))
            refine wpY_ld rfl rfl (.tmp 50) rfl g 0 rfl [.int .u64 x.s, .int .i64 x.z] _ (box_id hA7) Try.underlying44 rfl (by kernel_rfl) ?_
            by_cases hid : (y.s : Int) = x.s ∧ y.z = x.z
            · obtain ⟨hid1, hid2⟩ := hid
              have hid1' : ((y.s : Int) == (x.s : Int)) = true := by simpa using hid1
              have hid2' : (y.z == x.z) = true := by simpa using hid2
              clear hid1 hid2
              iterate 2 ((refine wpY_q rfl rfl _ (fun w' hx' => by go_simp; try rfl) ?_; go_simp))
              refine wpY_nil ?_
              go_wp2
              go_roundw
              case rel => exact ⟨j + 1, m, d, q, M, by go_num, rfl, by omega, (hM6.ext hx67).ext (Ext.drew' _), by omega, hA, ((hxw5.trans' hx6).trans' hx67).trans' (Ext.drew' _)⟩
              case measure => simp [intOf]; omega
            have hasc : Asc (M.take k ++ x :: M.drop k) := hA.insert hR HLT.out fun u hu => by
              rw [HY.out] at hu; cases hu
              have h := HS.out
              simp only [lessB, decide_eq_false_iff_not, decide_eq_true_eq] at *
              omega
            have HASC := Lib.hid hasc
            clear hasc HS
            by_cases hid1 : (y.s : Int) = x.s
            focus
              have hid1' : ((y.s : Int) == (x.s : Int)) = true := by simpa using hid1
              have hid2' : (y.z == x.z) = false := by simpa [hid1] using hid
              clear hid hid1
              iterate 2 ((refine wpY_q rfl rfl _ (fun w' hx' => by go_simp; try rfl) ?_; go_simp))
              refine wpY_nil ?_
            rotate_left
            focus
              have hid1' : ((y.s : Int) == (x.s : Int)) = false := by simpa using hid1
              clear hid hid1
              iterate 2 ((refine wpY_q rfl rfl _ (fun w' hx' => by go_simp; try rfl) ?_; go_simp))
              refine wpY_nil ?_
            all_goals
              have hx8 : Ext w6 w7.drew := hx67.trans' (Ext.drew' _)
              clear hA7 hc7 hi7 hbox7 hrM7
              generalize w7.drew = w8 at hx8 ⊢
              go_wp2
          rotate_left 2
          focus
            have hd : decide (k < m) = false := by simp; omega
            have hasc : Asc (M.take k ++ x :: M.drop k) := hA.insert hR HLT.out fun u hu => by
              obtain ⟨h1, -⟩ := List.getElem?_eq_some_iff.1 hu
              have := HmM.out
              omega
            have HASC := Lib.hid hasc
            clear hasc
            go_wp2
            refine wp_region_e [] (.qs [0, 1, 2, 3, 4, 5, 6, 7, 8, 9, 10, 11] (.l 12 (.qs [13] .nil))) (by kernel_rfl) (by kernel_rfl) ?_
            iterate 12 (first | ((refine wpY_q rfl rfl _ (fun w' hx' => by go_simp; try rfl) ?_; go_simp)) | ((refine wpY_skip rfl rfl ?_; go_simp)))
            refine wpY_lskip rfl rfl ?_
            go_simp
            (first | ((refine wpY_q rfl rfl _ (fun w' hx' => by go_simp; try rfl) ?_; go_simp)) | ((refine wpY_skip rfl rfl ?_; go_simp)))
            refine wpY_nil ?_
            go_wp2
            refine wp_region_e [] (.qs [0, 1, 2, 3, 4, 5, 6, 7, 8, 9, 10, 11, 12, 13] .nil) (by kernel_rfl) (by kernel_rfl) ?_
            iterate 14 (first | ((refine wpY_q rfl rfl _ (fun w' hx' => by go_simp; try rfl) ?_; go_simp)) | ((refine wpY_skip rfl rfl ?_; go_simp)))
            refine wpY_nil ?_
            have hx8 : Ext w6 w6.drew.drew := (Ext.drew' _).trans' (Ext.drew' _)
            clear hd hbox
            generalize w6.drew.drew = w8 at hx8 ⊢
            go_wp2
          all_goals
            have hM8 := hM6.ext hx8
            have hrM8 := Row.of_own hM8.1
            have hbox8 := (hx6.trans' hx8).heap' hg5'
            have hA8 : ∀ w' j, Ext w8 w' → w'.cell? ⟨g, j, none⟩ = #[.int .u64 x.s, .int .i64 x.z, .slice x.a x.n x.c][j]? := fun w' j hx => cell_of_row _ _ _ _ _ _ (hx.heap' hbox8)
            have E8 : Ext w8 w8.drew := Ext.drew' _
            refine wp_region_e [] (.qs [0, 1, 2, 4, 7, 8, 9] (.alt 3 (.l 5 (.l 6 (.l 10 (.qs [11] .nil)))) (.alt 5 (.l 3 (.l 6 (.l 10 (.qs [11] .nil)))) .stop))) (by kernel_rfl) (by kernel_rfl) ?_
            refine wpY_midA (Meets [3, 54, 55, 56, 57, 58, 59, 60, 61, 62, 63, 64] (MidI w8 (k + 1 + (m - k)) (insC M k x))) ?_ ?_
            · iterate 2 ((refine wpY_q rfl rfl _ (fun w' hx' => by go_simp; try rfl) ?_; go_simp))
              refine wpY_sl_hi rfl rfl (.tmp 54) (.tmp 55) rfl Try.elC rfl (fun w' h => hrM8.ext h) k rfl rfl hk' ?_
              intro a1 hr1
              refine wpY_ld rfl rfl (.tmp 5) rfl g 0 rfl x.cells _ (box_all hA8) Try.underlying46 rfl (by kernel_rfl) ?_
              iterate 2 ((refine wpY_q rfl rfl _ (fun w' hx' => by go_simp; try rfl) ?_; go_simp))
              refine wpY_sl_lo rfl rfl (.tmp 61) (.tmp 62) rfl Try.elC rfl (fun w' h => hrM8.ext h) k rfl rfl hk' ?_
              intro a2' hr2
              refine wpY_alt rfl rfl (owp_clone _ _ rfl Try.elC rfl rfl (hr1 _ E8) oneCell_take (by omega) ?_) (wpY_alt rfl rfl ?_ wpY_stop)
              intro a3 c3 w9 ho9 hx9
              have E9 := E8.trans' hx9
              refine ⟨fun _ => E9, ?_⟩
              go_simp
              refine wpY_l rfl rfl ?_
              go_simp
              have E10 := E9.trans' (Ext.alloc' w9 (.cells #[.int .u64 x.s, .int .i64 x.z, .slice x.a x.n x.c] 46))
              have ho9' := own_ext ho9 (Ext.alloc' w9 (.cells #[.int .u64 x.s, .int .i64 x.z, .slice x.a x.n x.c] 46))
              refine ⟨E10, ?_⟩
              refine wpY_l rfl rfl (owp_app _ _ rfl Try.elC rfl ho9' rfl (Row.new w9 #[.int .u64 x.s, .int .i64 x.z, .slice x.a x.n x.c] 46 1 3 rfl (by decide)) (oneCell_ck x) (by omega) (by unfold maxLen; omega) E10.size ?_)
              intro a4 c4 w10 ho10 hg10
              have E11 : Ext w8 w10 := below_app E10 ho9' hg10 E10.size
              refine ⟨fun _ => E11, ?_⟩
              go_simp
              refine wpY_l rfl rfl (owp_app _ _ rfl Try.elC rfl ho10 rfl (hr2 _ E11) oneCell_drop (by omega) (by unfold maxLen; omega) E11.size ?_)
              intro a5 c5 w11 ho11 hg11
              have E12 : Ext w8 w11 := below_app E11 ho10 hg11 E11.size
              refine ⟨fun _ => E12, ?_⟩
              go_simp
              ((refine wpY_q rfl rfl _ (fun w' hx' => by go_simp; try rfl) ?_; go_simp))
              refine wpY_nil (Meets.mk (by kernel_rfl) ⟨c5, a5, rfl, ?_, E12⟩)
              exact ho11
              go_simp
              have EB := E8.trans' (Ext.alloc' w8.drew (.cells #[.int .u64 x.s, .int .i64 x.z, .slice x.a x.n x.c] 46))
              refine ⟨EB, ?_⟩
              refine wpY_l rfl rfl (owp_clone _ _ rfl Try.elC rfl rfl (hr1 _ EB) oneCell_take (by omega) ?_)
              intro a3 c3 w9 ho9 hx9
              have E10 := EB.trans' hx9
              have ho9' := own_base ho9 EB.size
              refine ⟨fun _ => E10, ?_⟩
              go_simp
              refine wpY_l rfl rfl (owp_app _ _ rfl Try.elC rfl ho9' rfl ((Row.new w8.drew #[.int .u64 x.s, .int .i64 x.z, .slice x.a x.n x.c] 46 1 3 rfl (by decide)).ext hx9) (oneCell_ck x) (by omega) (by unfold maxLen; omega) E10.size ?_)
              intro a4 c4 w10 ho10 hg10
              have E11 : Ext w8 w10 := below_app E10 ho9' hg10 E10.size
              refine ⟨fun _ => E11, ?_⟩
              go_simp
              refine wpY_l rfl rfl (owp_app _ _ rfl Try.elC rfl ho10 rfl (hr2 _ E11) oneCell_drop (by omega) (by unfold maxLen; omega) E11.size ?_)
              intro a5 c5 w11 ho11 hg11
              have E12 : Ext w8 w11 := below_app E11 ho10 hg11 E11.size
              refine ⟨fun _ => E12, ?_⟩
              go_simp
              ((refine wpY_q rfl rfl _ (fun w' hx' => by go_simp; try rfl) ?_; go_simp))
              refine wpY_nil (Meets.mk (by kernel_rfl) ⟨c5, a5, rfl, ?_, E12⟩)
              exact ho11
            · rintro a' w9 ⟨v, rfl, c9, a9, hv3, ho9, hx9⟩
              simp only [fill, hv3]
              go_simp
              clear hv3
              rw [cells_insert] at ho9
              go_wp2
              go_roundw
              case rel =>
                have hx69 := hx8.trans' hx9
                have hw9 := (hxw5.trans' hx6).trans' hx69
                refine ⟨j + 1, _, c9, a9, M.take k ++ x :: M.drop k, by go_num, rfl, by omega, ⟨own_base ho9 ((hxw5.trans' hx6).trans' hx8).size, fun y hy => ?_⟩, by omega, HASC.out, hw9⟩
                rcases mem_insert hy with rfl | hy
                · exact hxin.ext (hx6.trans' hx69)
                · exact ((hM8.ext hx9).2 y hy)
              case measure => simp [intOf]; omega
    · obtain rfl : j = n := by omega
      go_wp2
      go_ret
      exact ⟨q, m, d, M, rfl, hM, hmj, hA, hx⟩
end Go.Proofs.Ytncdcpaelecikaa
