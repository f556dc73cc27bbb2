/-
  The reference's Make.
-/
import Derived.Test.YtkhjeeaojlaagaaDelE
namespace Go.Proofs.Ytkhjeeaojlaagaa
open Go.RowKit

/-! ### Bounds of a normal delta -/
theorem addD_inv {D : List Dp} {o : Dp} (h : Nm D) (ho : o.fine) : Nm (addD D o) ∧ atomsD (addD D o) = atomsD D ++ o.atoms := by
  rw [addD_atoms ho]; exact foldl_nm o.atoms D h
theorem size_mem {D : List Dp} {o : Dp} (ho : o ∈ D) : o.size ≤ sizeD D := by
  unfold sizeD
  induction D with
  | nil => cases ho
  | cons x D ih =>
    rw [List.map_cons, List.sum_cons]
    rcases List.mem_cons.1 ho with rfl | h
    · omega
    · have := ih h; omega
theorem nice_size {o : Dp} (h : o.nice) : 1 ≤ o.size ∧ o.l.length ≤ o.size := by
  unfold Dp.size
  rcases h with ⟨h1, h2, h3⟩ | ⟨h1, h2, h3⟩
  · rw [if_pos (by simp [Dp.copies, h1, h3]), h3]; simp; omega
  · rw [if_neg (by simp [Dp.copies]; omega)]
    cases hl : o.l with
    | nil => exact absurd hl h3
    | cons c l => simp
theorem length_size {D : List Dp} (h : ∀ o ∈ D, o.nice) : D.length ≤ sizeD D := by
  unfold sizeD
  induction D with
  | nil => simp
  | cons x D ih =>
    rw [List.map_cons, List.sum_cons, List.length_cons]
    have h1 := (nice_size (h x (List.mem_cons_self ..))).1
    have h2 := ih (fun o ho => h o (List.mem_cons_of_mem _ ho))
    omega
theorem nm_sum {D : List Dp} {o : Dp} {n : Nat} (h : Nm D) (hb : ∀ x ∈ atomsD D, x.below n) (ho : o ∈ D) : o.f + o.z ≤ n := by
  have hok : o.ok n := ok_of_below (h.2 o ho) fun x hx => hb x (List.mem_flatMap.2 ⟨o, ho, hx⟩)
  rcases hok with h1 | h1
  · exact h1.2.2
  · simp only [Dp.literal, Bool.and_eq_true, decide_eq_true_eq] at h1; omega
theorem below_append {A B : List Atom} {n : Nat} (hA : ∀ x ∈ A, x.below n) (hB : ∀ x ∈ B, x.below n) : ∀ x ∈ A ++ B, x.below n := fun x hx => by
  rcases List.mem_append.1 hx with h | h
  · exact hA x h
  · exact hB x h
/-- What is kept of a delta under way: normal, its atoms in the base, of so many bytes. -/
def Way (n m : Nat) (D : List Dp) : Prop := Nm D ∧ (∀ x ∈ atomsD D, x.below n) ∧ (atomsD D).length = m
theorem Way.nil (n : Nat) : Way n 0 [] := ⟨⟨trivial, fun o ho => by cases ho⟩, (fun x hx => by cases hx), rfl⟩
theorem Way.add {n m : Nat} {D : List Dp} {o : Dp} (h : Way n m D) (ho : o.ok n) : Way n (m + o.size) (addD D o) := by
  obtain ⟨h1, h2, h3⟩ := h
  obtain ⟨g1, g2⟩ := addD_inv h1 ho.fine
  exact ⟨g1, by rw [g2]; exact below_append h2 (atoms_below ho), by rw [g2, List.length_append, h3, atoms_length]⟩
structure WayB (w : World) (n m : Nat) (L : List Od) : Prop where
  few : L.length ≤ m
  short : ∀ k ∈ L, k.n ≤ m
  fine : ∀ k ∈ L, k.d.fine
  sum : ∀ k ∈ L, k.f + k.z ≤ n
theorem Way.bounds {w : World} {a : Option Addr} {n m N c : Nat} {L : List Od} (h : Way n m (L.map Od.d)) (hL : Ops w a N c L) : WayB w n m L where
  few := by
    have := length_size (D := L.map Od.d) h.1.2
    rw [List.length_map, ← atomsD_length, h.2.2] at this
    exact this
  short k hk := by
    have h1 := size_mem (D := L.map Od.d) (List.mem_map_of_mem hk)
    have h2 := (nice_size (h.1.2 k.d (List.mem_map_of_mem hk))).2
    rw [← atomsD_length, h.2.2] at h1
    have h3 := (hL.2.2 k hk).1.len
    have h4 : k.d.l.length = k.n := h3
    omega
  fine k hk := (h.1.2 k.d (List.mem_map_of_mem hk)).fine
  sum k hk := nm_sum h.1 h.2.1 (List.mem_map_of_mem hk)

def OpsRes (w : World) (D : List Dp) (er : Int) (e : Ending) (w' : World) : Prop :=
  ∃ (a : Option Addr) (n c : Nat) (L : List Od), e = .returned (.tuple #[.slice a n c, .int .i64 er]) ∧ Ops w' a n c L ∧ L.map Od.d = D ∧ Ext w w'
theorem Ops.nil (w : World) : Ops w none 0 0 [] := ⟨rfl, Row.empty w 3, fun k hk => by cases hk⟩
def RmRel (w : World) (b t : List UInt8) (out i : Value) (wr : World) : Prop :=
  ∃ (at_ n c : Nat) (a : Option Addr) (L : List Od), i = .int .i64 at_ ∧ out = .slice a n c ∧ at_ ≤ t.length ∧ Ops wr a n c L ∧ Way b.length at_ (L.map Od.d) ∧ makeD b t = makeF b (t.drop at_).length (t.drop at_) (L.map Od.d) ∧ Ext w wr

set_option maxRecDepth 100000 in
set_option maxHeartbeats 4000000 in
theorem refMake_any (a1 : Option Addr) (n1 c1 : Nat) (b : List UInt8) (a2 : Option Addr) (n2 c2 : Nat) (t : List UInt8) (w : World) (h1 : Bytes w a1 n1 c1 b) (h2 : Bytes w a2 n2 c2 t) (hn1 : n1 ≤ 140737488355328) (hn2 : n2 ≤ 140737488355328)
    {D : List Dp} {er : Int} (hr : makeRes b t = (D, er)) :
    Calls Try.prog 32 #[.slice a1 n1 c1, .slice a2 n2 c2] w (OpsRes w D er) := by
  have hl1 := h1.len
  have hl2 := h2.len
  unfold makeRes at hr
  rw [hl1, hl2] at hr
  by_cases hb1 : 2048 < n1
  · rw [if_pos (.inl hb1)] at hr
    cases hr
    have hd : decide ((2048 : Int) < n1) = true := decide_eq_true (by omega)
    go_enter Try.func32, Try.ntmps32
    go_wp2
    go_ret2
    exact ⟨none, 0, 0, [], rfl, Ops.nil _, rfl, Below.refl _ _⟩
  have hd1 : decide ((2048 : Int) < n1) = false := decide_eq_false (by omega)
  by_cases hb2 : 2048 < n2
  · rw [if_pos (.inr hb2)] at hr
    cases hr
    have hd : decide ((2048 : Int) < n2) = true := decide_eq_true (by omega)
    go_enter Try.func32, Try.ntmps32
    go_wp2
    go_ret2
    exact ⟨none, 0, 0, [], rfl, Ops.nil _, rfl, Below.refl _ _⟩
  have hd2 : decide ((2048 : Int) < n2) = false := decide_eq_false (by omega)
  rw [if_neg (by omega)] at hr
  simp only [Prod.mk.injEq] at hr
  obtain ⟨hD, rfl⟩ := hr
  have HD := Lib.hid hD
  have HL1 := Lib.hid hl1
  have HL2 := Lib.hid hl2
  have hm1 : n1 ≤ 2048 := by omega
  have hm2 : n2 ≤ 2048 := by omega
  clear hD hl1 hl2 hb1 hb2
  go_enter Try.func32, Try.ntmps32
  go_wp2
  clear hd1 hd2
  go_loopw [6, 7] (RmRel w b t) (fun _ i _ => n2 - (intOf i).toNat)
  case atStart => exact ⟨0, 0, 0, none, [], rfl, rfl, by omega, Ops.nil _, Way.nil _, rfl, Below.refl _ _⟩
  case round =>
    obtain ⟨at_, n, c, a, L, rfl, rfl, hat, hL, hW, hmk, hx⟩ := hrel
    rename World => w1
    have hatn : at_ ≤ n2 := by have := HL2.out; omega
    have hB := hW.bounds hL
    have HW := Lib.hid hW
    have HM := Lib.hid hmk
    have HLL := Lib.hid hL.1
    have hn : n ≤ at_ := by have := hB.few; have := hL.1; omega
    clear hW hmk hat
    have hb1 := h1.ext hx
    have hb2 := h2.ext hx
    by_cases hlt : at_ < n2
    · obtain ⟨k0, f0, hmt⟩ : ∃ k0 f0, matchD b (t.drop at_) = (k0, f0) := ⟨_, _, rfl⟩
      have hbd := matchD_bound b (t.drop at_)
      rw [hmt, List.length_drop, HL2.out, HL1.out] at hbd
      have HMT := Lib.hid hmt
      obtain ⟨hk0, hk1⟩ := hbd
      have hk0' : k0 ≤ n2 - at_ := hk0
      have hf0 : 0 < k0 → f0 + k0 ≤ n1 := fun h => (hk1 h).1
      clear hmt hk0 hk1
      by_cases hk4 : 4 ≤ k0
      · have hfk := hf0 (by omega)
        clear hf0
        have hd : decide ((4 : Int) ≤ k0) = true := decide_eq_true (by omega)
        have hok : (⟨f0, k0, []⟩ : Dp).ok b.length := .inl ⟨by simp [Dp.copies]; omega, by show (0 : Int) ≤ f0; omega, by show (f0 : Int) + k0 ≤ b.length; have := HL1.out; omega⟩
        have hsz : (⟨f0, k0, []⟩ : Dp).size = k0 := by unfold Dp.size; rw [if_pos (by simp [Dp.copies]; omega)]; rfl
        have HOK := Lib.hid hok
        have HSZ := Lib.hid hsz
        clear hok hsz
        have hIn : ∀ w', (⟨f0, k0, none, 0, 0, []⟩ : Od).In w' := fun w' => ⟨Bytes.nil _, Nat.zero_le _, by unfold i64B; show -9223372036854775808 ≤ (f0 : Int) ∧ (f0 : Int) ≤ _; omega, by unfold i64B; show -9223372036854775808 ≤ (k0 : Int) ∧ (k0 : Int) ≤ _; omega⟩
        have hadd : ∀ w', Ops w' a n c L → Calls Try.prog 49 #[.slice a n c, .agg #[.int .i64 (f0 : Int), .int .i64 (k0 : Int), .slice none 0 0]] w' (NewOps w' (addD (L.map Od.d) ⟨f0, k0, []⟩) (at_ + at_)) := fun w' h => refAdd_any a n c L ⟨f0, k0, none, 0, 0, []⟩ at_ _ h (by omega) (hIn _) (Nat.zero_le _) hB.short (by omega) HOK.out.fine hB.fine (by show (f0 : Int) + k0 ≤ _; omega) (fun y hy => by have := hB.sum y hy; have := HL1.out; omega)
        clear hIn
        go_wp2_with (first
          | (go_at_call 48; (with_reducible refine (match_any a1 n1 c1 b a2 n2 c2 t at_ _ hb1 hb2 hn1 hn2 hatn HMT.out).mono ?_); rintro e w2 ⟨rfl, hx2⟩; have hL2 := hL.ext hx2)
          | (go_at_call 49; (with_reducible refine (hadd _ hL2).mono ?_); rintro e w3 ⟨a3, n3, c3, L3, rfl, hL3, hD3, -, hx3⟩))
        have HD3 := Lib.hid hD3
        clear hD3
        go_roundw
        case rel =>
          refine ⟨at_ + k0, n3, c3, a3, L3, by go_num, rfl, by have := HL2.out; omega, hL3, ?_, ?_, hx.trans' (hx2.trans' hx3)⟩
          · have := HW.out.add HOK.out
            rw [HSZ.out] at this
            rw [HD3.out]; exact this
          · rw [HM.out, make_copy _ HMT.out hk4, List.drop_drop, HD3.out]
        case measure => simp [intOf]; omega
      · have hd : decide ((4 : Int) ≤ k0) = false := decide_eq_false (by omega)
        clear hf0
        obtain ⟨x, hxx⟩ : ∃ x, t[at_]? = some x := ⟨_, List.getElem?_eq_getElem (by have := HL2.out; omega)⟩
        have hdr : t.drop at_ = x :: t.drop (at_ + 1) := by
          obtain ⟨h, e⟩ := List.getElem?_eq_some_iff.1 hxx
          rw [← e]; exact List.drop_eq_getElem_cons h
        have HDR := Lib.hid hdr
        have hok : (⟨0, 0, [x]⟩ : Dp).ok b.length := .inr (by simp [Dp.literal])
        have hsz : (⟨0, 0, [x]⟩ : Dp).size = 1 := by unfold Dp.size; rw [if_neg (by simp [Dp.copies])]; rfl
        have HOK := Lib.hid hok
        have HSZ := Lib.hid hsz
        clear hok hsz hdr hxx
        have hlit : ∀ w' a' c', Ops w' a n c L → Bytes w' a' 1 c' ((x :: t.drop (at_ + 1)).take 1) → Calls Try.prog 49 #[.slice a n c, .agg #[.int .i64 0, .int .i64 0, .slice a' 1 c']] w' (NewOps w' (addD (L.map Od.d) ⟨0, 0, [x]⟩) (at_ + 1 + (at_ + 1))) := fun w' a' c' h h' => refAdd_any a n c L ⟨0, 0, a', 1, c', [x]⟩ (at_ + 1) _ h (by omega) ⟨h', by show 1 ≤ _; omega, by unfold i64B; show -9223372036854775808 ≤ (0 : Int) ∧ (0 : Int) ≤ _; omega, by unfold i64B; show -9223372036854775808 ≤ (0 : Int) ∧ (0 : Int) ≤ _; omega⟩ (by show 1 ≤ _; omega) (fun y hy => by have := hB.short y hy; omega) (by omega) HOK.out.fine hB.fine (by show (0 : Int) + 0 ≤ _; omega) (fun y hy => by have := hB.sum y hy; have := HL1.out; omega)
        have HLIT := Lib.hid hlit
        clear hlit
        go_wp2_with (first
          | (go_at_call 48; (with_reducible refine (match_any a1 n1 c1 b a2 n2 c2 t at_ _ hb1 hb2 hn1 hn2 hatn HMT.out).mono ?_); rintro e w2 ⟨rfl, hx2⟩; have hL2 := hL.ext hx2; have hb3 := hb2.ext hx2)
          | ((with_reducible refine atSlot 44 ?_); refine wpList_of_wp rfl (owp_sl_lh (o := ⟨some 44, _, _, _, _, _⟩) _ _ _ rfl Try.elB rfl hb3.row at_ 1 rfl rfl rfl (by omega) (by omega) ?_); intro a4 hr4; have hb4 := Bytes.sub hr4; rw [HDR.out] at hb4; have hadd := HLIT.out _ a4 (c2 - at_) hL2 hb4)
          | (go_at_call 49; (with_reducible refine hadd.mono ?_); rintro e w3 ⟨a3, n3, c3, L3, rfl, hL3, hD3, -, hx3⟩; clear hadd))
        have HD3 := Lib.hid hD3
        clear hD3
        go_roundw
        case rel =>
          refine ⟨at_ + 1, n3, c3, a3, L3, by go_num, rfl, by have := HL2.out; omega, hL3, ?_, ?_, hx.trans' (hx2.trans' hx3)⟩
          · have := HW.out.add HOK.out
            rw [HSZ.out] at this
            rw [HD3.out]; exact this
          · rw [HM.out, HDR.out, make_lit _ (by rw [← HDR.out, HMT.out]; exact hk4), HD3.out]
        case measure => simp [intOf]; omega
    · obtain rfl : at_ = n2 := by omega
      have hd : L.map Od.d = D := by
        rw [← HD.out, HM.out, List.drop_eq_nil_of_le (by have := HL2.out; omega)]; rfl
      have HDD := Lib.hid hd
      clear hd
      go_wp2
      go_ret2
      exact ⟨a, n, c, L, rfl, hL, HDD.out, hx⟩
end Go.Proofs.Ytkhjeeaojlaagaa
