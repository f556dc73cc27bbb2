/-
  Lists of IDs: equal lists, Index of both sides.
-/
import Derived.Test.YtncdcpaelecikaaPackX
namespace Go.Proofs.Ytncdcpaelecikaa
open Go.RowKit

def Ck.id (k : Ck) : List Value := [.int .u64 k.s, .int .i64 k.z]
theorem Try.elID : Elem Try.prog 53 44 2 16 (.agg #[.int .u64 0, .int .i64 0]) := ⟨Try.underlying53, by kernel_rfl, rfl, by decide⟩
theorem ids_len (L : List Ck) : (L.flatMap Ck.id).length = L.length * 2 := by
  induction L with
  | nil => rfl
  | cons k L ih => rw [List.flatMap_cons, List.length_append, ih, List.length_cons, Nat.add_mul, Nat.one_mul]; simp [Ck.id]; omega
theorem ids_get {L : List Ck} {i : Nat} {k : Ck} (h : L[i]? = some k) : ∀ j, j < 2 → (L.flatMap Ck.id)[i * 2 + j]? = k.id[j]? := by
  induction L generalizing i with
  | nil => cases h
  | cons x L ih =>
    intro j hj
    rw [List.flatMap_cons]
    cases i with
    | zero =>
      simp only [List.getElem?_cons_zero, Option.some.injEq] at h
      subst h
      rw [Nat.zero_mul, Nat.zero_add, List.getElem?_append_left (by simp [Ck.id]; exact hj)]
    | succ i =>
      simp only [List.getElem?_cons_succ] at h
      rw [List.getElem?_append_right (by simp [Ck.id]; omega)]
      simp only [Ck.id, List.length_cons, List.length_nil]
      rw [show (i + 1) * 2 + j - (0 + 1 + 1) = i * 2 + j by omega]
      exact ih h j hj
theorem ids_oneCell (M : List Ck) : ∀ u ∈ M.flatMap Ck.id, u.oneCell' = true := by
  intro u hu
  obtain ⟨k, -, hk⟩ := List.mem_flatMap.1 hu
  simp only [Ck.id, List.mem_cons, List.not_mem_nil, or_false] at hk
  rcases hk with rfl | rfl <;> rfl
theorem range_of_ids {w : World} {b o i : Nat} {L : List Ck} {k : Ck} (hk : L[i]? = some k) (hc : ∀ j, j < 2 → ∀ w', Ext w w' → w'.cell? ⟨b, o + j, none⟩ = (L.flatMap Ck.id)[i * 2 + j]?) :
    ∀ w', Ext w w' → w'.rangeAt b o [.int .u64 k.s, .int .i64 k.z] := fun w' hx j v hj => by
  have hlt : j < 2 := (List.getElem?_eq_some_iff.1 hj).1
  rw [hc j hlt w' hx, ids_get hk j hlt]
  exact hj

set_option maxRecDepth 100000 in
set_option maxHeartbeats 2000000 in
theorem SameIDs_any (a1 : Option Addr) (n c1 : Nat) (a2 : Option Addr) (c2 : Nat) (L : List Ck) (w : World) (h1 : Row w a1 n c1 2 (L.flatMap Ck.id)) (h2 : Row w a2 n c2 2 (L.flatMap Ck.id)) (hn : n ≤ 1000000000000) :
    Calls Try.prog 30 #[.slice a1 n c1, .slice a2 n c2] w (NewNone (.bool true) w) := by
  have HL := Lib.hid (show L.length = n by have := h1.len; rw [ids_len] at this; omega)
  go_enter Try.func30, Try.ntmps30
  go_wp2
  go_loopw [5] (SameRel w n) (fun i _ => n - (intOf i).toNat)
  case atStart => exact ⟨0, rfl, by omega, Below.refl _ _⟩
  case round =>
    obtain ⟨j, rfl, hj, hx⟩ := hrel
    rename World => w1
    by_cases hjn : j < n
    · obtain ⟨k, hk⟩ : ∃ k, L[j]? = some k := ⟨_, List.getElem?_eq_getElem (by have := HL.out; omega)⟩
      have hr1 := h1.ext hx
      have hr2 := h2.ext hx
      have HK := Lib.hid hk
      clear hk
      go_wp2
      refine wp_region_e [] (.qs [0, 1, 2, 3, 4, 5, 6, 7, 8] .nil) (by kernel_rfl) (by kernel_rfl) ?_
      iterate 2 ((refine wpY_q rfl rfl _ (fun w' hx' => by go_simp; try rfl) ?_; go_simp))
      refine wpY_ix rfl rfl (.tmp 17) (.tmp 18) rfl Try.elID rfl (fun w' h => hr1.ext h) j rfl rfl hjn ?_
      intro b3 o3 hc3
      have hi3 := range_of_ids HK.out hc3
      clear hc3
      refine wpY_ld rfl rfl (.tmp 19) rfl b3 o3 rfl [.int .u64 k.s, .int .i64 k.z] _ hi3 Try.underlying44 rfl (by kernel_rfl) ?_
      iterate 2 ((refine wpY_q rfl rfl _ (fun w' hx' => by go_simp; try rfl) ?_; go_simp))
      refine wpY_ix rfl rfl (.tmp 21) (.tmp 22) rfl Try.elID rfl (fun w' h => hr2.ext h) j rfl rfl hjn ?_
      intro b4 o4 hc4
      have hi4 := range_of_ids HK.out hc4
      clear hc4
      refine wpY_ld rfl rfl (.tmp 23) rfl b4 o4 rfl [.int .u64 k.s, .int .i64 k.z] _ hi4 Try.underlying44 rfl (by kernel_rfl) ?_
      ((refine wpY_q rfl rfl _ (fun w' hx' => by go_simp; try rfl) ?_; go_simp))
      refine wpY_nil ?_
      clear hi3 hi4
      go_wp2
      go_roundw
      case rel => exact ⟨j + 1, by go_num, by omega, hx.trans' (Ext.drew' _)⟩
      case measure => simp [intOf]; omega
    · have hd : decide (j < n) = false := by simpa using hjn
      go_wp2
      go_ret
      exact ⟨rfl, hx⟩

/-- The operation at hand stores at the address in slot k. -/
theorem atStore {P : Program} {ops : Array Oper} {Q : Exit → Act → World → Prop} {rest : List Oper} {a : Act} {w : World} (k : Nat) {sty : TypeId} {v : Operand} {ty : TypeId} {pos : String} {af : Array Edge} {gd : Option (Nat × Bool)}
    (h : wpList P ops Q (⟨none, .store sty (.tmp k) v, ty, pos, af, gd⟩ :: rest) a w) : wpList P ops Q (⟨none, .store sty (.tmp k) v, ty, pos, af, gd⟩ :: rest) a w := h
theorem own_there {w : World} {B e s n c g i m : Nat} {xs : List Value} (h : w.ownsRow B e s (.slice (some ⟨g, 0, none⟩) n c) n xs) (hi : i + m ≤ n * s) : w.there g i m := fun j hj => by
  obtain ⟨g', cur, h1, h2, h3, _, h4⟩ := own_some h (Nat.pos_of_ne_zero fun h0 => by subst h0; omega)
  obtain rfl : g = g' := by simpa using h1
  have hl := h.1
  refine ⟨?_, frozen_none h3 _⟩
  rw [cell_of_row w g _ _ _ _ h3, h4 _ (by omega), List.getElem?_eq_getElem (by omega)]
  rfl
theorem range_pre {w : World} {b o : Nat} {k : Ck} (h : w.rangeAt b o k.cells) : w.rangeAt b o [.int .u64 k.s, .int .i64 k.z] := fun j v hj => h j v (by
  rcases j with _ | _ | j
  · exact hj
  · exact hj
  · simp at hj)
/-- IDs of one's own. -/
def IdsPost (w : World) (S : List Ck) (er : Int) (e : Ending) (w' : World) : Prop :=
  ∃ (a : Option Addr) (n c : Nat), e = .returned (.tuple #[.slice a n c, .int .i64 er]) ∧ S.length = n ∧ w'.ownsRow w.heap.size 44 2 (.slice a n c) n (S.flatMap Ck.id) ∧ Ext w w'
def RIxRel (w : World) (S : List Ck) (out i : Value) (wr : World) : Prop :=
  ∃ (j c : Nat) (a : Option Addr), i = .int .i64 j ∧ out = .slice a j c ∧ j ≤ S.length ∧ wr.ownsRow w.heap.size 44 2 (.slice a j c) j ((S.take j).flatMap Ck.id) ∧ Ext w wr
theorem ids_d (L : List Ck) : (L.map Ck.d).flatMap Ck.id = L.flatMap Ck.id := by
  induction L with
  | nil => rfl
  | cons k L ih => rw [List.map_cons, List.flatMap_cons, List.flatMap_cons, ih]; rfl
theorem ids_take {L : List Ck} {i : Nat} {k : Ck} (h : L[i]? = some k) : (L.take (i + 1)).flatMap Ck.id = (L.take i).flatMap Ck.id ++ k.id := by
  rw [List.take_add_one, h, List.flatMap_append]; simp

set_option maxRecDepth 100000 in
set_option maxHeartbeats 2000000 in
theorem refIndex_any (a : Option Addr) (n c : Nat) (l : List UInt8) (w : World) (hb : Bytes w a n c l) (hn : n ≤ 140737488355328) {S : List Ck} {er : Int} (hd : decRes l = (S, er)) :
    Calls Try.prog 28 #[.slice a n c] w (IdsPost w S er) := by
  have HD := Lib.hid hd
  clear hd
  go_enter Try.func28, Try.ntmps28
  go_wp2_with (go_at_call 23; (with_reducible refine (refDecode_any a n c l _ hb hn).mono ?_); rintro e w1 hp1; obtain ⟨cn, cc, ca, L, rfl, hO1, hL1, hx1, hcn⟩ := hp1.is HD.out)
  have hLS : S.length = L.length := by rw [← hL1, List.length_map]
  have hLn := hO1.len
  have HL := Lib.hid (show L.flatMap Ck.id = S.flatMap Ck.id by rw [← hL1, ids_d])
  clear hL1
  have hr1 := Row.of_own hO1.1
  go_loopw [6, 7] (RIxRel w1 L) (fun _ i _ => cn - (intOf i).toNat)
  case atStart => exact ⟨0, 0, none, rfl, rfl, by omega, by simpa using own_nil _ _ _ _, Below.refl _ _⟩
  case round =>
    obtain ⟨j, cj, aj, rfl, rfl, hj, ho, hx⟩ := hrel
    rename World => w2
    by_cases hjn : j < cn
    · obtain ⟨k, hk⟩ : ∃ k, L[j]? = some k := ⟨_, List.getElem?_eq_getElem (by omega)⟩
      have hr2 := hr1.ext hx
      have HK := Lib.hid hk
      clear hk
      go_wp2_with (first
        | ((with_reducible refine atSlot 22 ?_); refine wpList_of_wp rfl (owp_ix (o := ⟨some 22, _, _, _, _, _⟩) _ _ rfl Try.elC rfl hr2 j rfl rfl hjn ?_); intro b3 o3 hc3; have hrg3 := range_pre (range_get HK.out hc3); clear hc3)
        | ((with_reducible refine atSlot 24 ?_); refine wpList_of_wp rfl (wp_load_mid (op := ⟨some 24, _, _, _, _, _⟩) 44 _ rfl b3 o3 rfl [.int .u64 k.s, .int .i64 k.z] _ hrg3 Try.underlying44 rfl (by kernel_rfl) ?_))
        | (at_builtin; go_loud (refine wpList_app rfl _ _ rfl Try.elID (B := w1.heap.size) rfl (own_ext ho (Ext.alloc' _ _)) rfl (Row.new _ #[.int .u64 k.s, .int .i64 k.z] 44 1 2 rfl (by decide)) (by intro u hu; exact ids_oneCell [k] u (by simpa [Ck.id] using hu)) (by omega) (by unfold maxLen; omega) (by have := hx.size; simp; omega) ?_); intro a4 c4 w4 ho4 hg4))
      have hx4 : Ext w1 w4 := below_app (hx.trans' (Ext.alloc' _ _)) (own_ext ho (Ext.alloc' _ _)) hg4 (by have := hx.size; simp; omega)
      go_roundw
      case rel => exact ⟨j + 1, c4, a4, by go_num, rfl, by omega, by rw [ids_take HK.out]; exact ho4, hx4⟩
      case measure => simp [intOf]; omega
    · obtain rfl : j = cn := by omega
      go_wp2
      go_ret2
      have h := ho
      rw [List.take_of_length_le (by omega), HL.out] at h
      exact ⟨aj, j, cj, rfl, by omega, own_base h hx1.size, hx1.trans' hx⟩

def IxRel (w1 : World) (L : List Ck) (g n : Nat) (i : Value) (wr : World) : Prop :=
  ∃ (j : Nat) (rest : List Value), i = .int .i64 j ∧ j ≤ n ∧ rest.length = (n - j) * 2 ∧ wr.ownsRow w1.heap.size 44 2 (.slice (some ⟨g, 0, none⟩) n n) n ((L.take j).flatMap Ck.id ++ rest) ∧ Ext w1 wr

set_option maxRecDepth 100000 in
set_option maxHeartbeats 2000000 in
theorem Index_any (a : Option Addr) (n c : Nat) (l : List UInt8) (w : World) (hb : Bytes w a n c l) (hn : n ≤ 140737488355328) {S : List Ck} {er : Int} (hd : decRes l = (S, er)) (he : er ≠ 0 → S = []) :
    Calls Try.prog 27 #[.slice a n c] w (IdsPost w S er) := by
  have HD := Lib.hid hd
  clear hd
  by_cases h0 : er = 0
  rotate_left
  · obtain ⟨q0, q1⟩ := ne0 h0
    have hS := he h0
    subst hS
    clear h0 he
    go_enter Try.func27, Try.ntmps27
    go_wp2_with (go_at_call 22; (with_reducible refine (Decode_any a n c l _ hb hn).mono ?_); rintro e w1 hp1; obtain ⟨cn, cc, ca, L, rfl, hO1, hL1, hx1, hcn⟩ := hp1.is HD.out)
    go_ret2
    exact ⟨none, 0, 0, rfl, rfl, own_nil _ _ _ _, hx1⟩
  subst h0
  clear he
  go_enter Try.func27, Try.ntmps27
  go_wp2_with (first
    | (go_at_call 22; (with_reducible refine (Decode_any a n c l _ hb hn).mono ?_); rintro e w1 hp1; obtain ⟨cn, cc, ca, L, rfl, hO1, hL1, hx1, hcn⟩ := hp1.is HD.out)
    | (refine wpList_mk rfl _ _ rfl Try.elID cn cn rfl rfl rfl rfl (Nat.le_refl _) (by omega) (by unfold maxLen; omega) ?_; intro g w2 ho2 hx2))
  have hLS : S.length = L.length := by rw [← hL1, List.length_map]
  have hLn := hO1.len
  have HL := Lib.hid (show L.flatMap Ck.id = S.flatMap Ck.id by rw [← hL1, ids_d])
  clear hL1
  have hr1 := Row.of_own hO1.1
  go_loopw [22] (IxRel w1 L g cn) (fun i _ => cn - (intOf i).toNat)
  case atStart => exact ⟨0, _, rfl, by omega, zeros_length _ cn 2, by simpa using ho2, hx2⟩
  case round =>
    obtain ⟨j, rest, rfl, hj, hrl, ho, hx⟩ := hrel
    rename World => w3
    by_cases hjn : j < cn
    · obtain ⟨k, hk⟩ : ∃ k, L[j]? = some k := ⟨_, List.getElem?_eq_getElem (by omega)⟩
      have hr3 := hr1.ext hx
      have HK := Lib.hid hk
      clear hk
      go_wp2_with (first
        | ((with_reducible refine atSlot 25 ?_); refine wpList_of_wp rfl (owp_ix (o := ⟨some 25, _, _, _, _, _⟩) _ _ rfl Try.elC rfl hr3 j rfl rfl hjn ?_); intro b3 o3 hc3; have hrg3 := range_get HK.out hc3; clear hc3)
        | ((with_reducible refine atSlot 26 ?_); refine wpList_of_wp rfl (wp_load_mid (op := ⟨some 26, _, _, _, _, _⟩) 46 _ rfl b3 o3 rfl k.cells _ hrg3 Try.underlying46 rfl (by kernel_rfl) ?_); simp only [Ck.cells])
        | ((with_reducible refine atStore 31 ?_); refine wpList_store_mid rfl 44 _ _ rfl g (j * 2) #[.int .u64 k.s, .int .i64 k.z] rfl rfl (own_there (own_ext ho (Ext.alloc' _ _)) (by simp; omega)) (by kernel_rfl) (by simp [Value.oneCell']) ?_))
      have hE := Ext.alloc' w3 (.cells #[.int .u64 k.s, .int .i64 k.z, .slice k.a k.n k.c] 46)
      have h4 := own_setCells k.id (j * 2) _ _ (own_ext ho hE) (by simp [Ck.id]; omega)
      have hx4 : Ext w1 (World.setCells (w3.alloc (.cells #[.int .u64 k.s, .int .i64 k.z, .slice k.a k.n k.c] 46)) g (j * 2) k.id) := (hx.trans' hE).grown (grown_setCells g _ _ _) (hx.trans' hE).size (fun b hb => by cases hb; exact own_fresh ho _ rfl)
      go_roundw
      case rel =>
        refine ⟨j + 1, rest.drop 2, by go_num, by omega, by rw [List.length_drop, hrl]; omega, ?_, hx4⟩
        have e : ((L.take j).flatMap Ck.id ++ rest).take (j * 2) ++ k.id ++ ((L.take j).flatMap Ck.id ++ rest).drop (j * 2 + k.id.length) = (L.take (j + 1)).flatMap Ck.id ++ rest.drop 2 := by
          have hl : ((L.take j).flatMap Ck.id).length = j * 2 := by rw [ids_len, List.length_take]; omega
          rw [ids_take HK.out, ← hl, List.take_left, List.drop_append, show k.id.length = 2 from rfl, List.drop_eq_nil_of_le (by omega), List.nil_append, Nat.add_sub_cancel_left]
        rw [e] at h4
        exact h4
      case measure => simp [intOf]; omega
    · obtain rfl : j = cn := by omega
      go_wp2
      go_ret2
      have h := ho
      rw [List.take_of_length_le (by omega), HL.out, List.eq_nil_of_length_eq_zero (l := rest) (by omega), List.append_nil] at h
      exact ⟨_, j, _, rfl, by omega, own_base h hx1.size, hx1.trans' hx⟩
end Go.Proofs.Ytncdcpaelecikaa
