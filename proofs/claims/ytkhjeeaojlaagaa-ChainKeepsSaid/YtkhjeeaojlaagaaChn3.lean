/-
  Several texts in one: MathN, ChaG.
-/
import Derived.Test.YtkhjeeaojlaagaaMathC
import Derived.Test.YtkhjeeaojlaagaaChn1
import Derived.Test.YtkhjeeaojlaagaaBts
/-
  Plain laws of chains whose contents grow by one byte.
-/
namespace Go.Proofs.Ytkhjeeaojlaagaa

theorem matchF_stay {b T : List UInt8} {best : Nat} : ∀ (n s fr : Nat), (∀ x, s ≤ x → cmn (b.drop x) T ≤ best) → matchF b T n s best fr = (best, fr)
  | 0, _, _, _ => rfl
  | n + 1, s, fr, h => by
    unfold matchF
    rw [if_neg (by have := h s (Nat.le_refl _); omega)]
    exact matchF_stay n (s + 1) fr fun x hx => h x (by omega)
theorem cmn_app : ∀ (a b : List UInt8), cmn a (a ++ b) = a.length
  | [], b => by cases b <;> rfl
  | x :: a, b => by rw [List.cons_append]; unfold cmn; rw [if_pos rfl, cmn_app a b]; rfl
theorem make_snoc {c : List UInt8} (h : 4 ≤ c.length) (x : UInt8) : makeD c (c ++ [x]) = [⟨0, c.length, []⟩, ⟨0, 0, [x]⟩] := by
  have hm : matchD c (c ++ [x]) = (c.length, 0) := by
    unfold matchD
    obtain ⟨n, hn⟩ : ∃ n, c.length = n + 1 := ⟨c.length - 1, by omega⟩
    rw [hn]
    unfold matchF
    rw [List.drop_zero, cmn_app, if_pos (by omega), matchF_stay n 1 0 (fun s hs => by have := (cmn_le (c.drop s) (c ++ [x])).1; rw [List.length_drop] at this; omega), hn]
  unfold makeD
  rw [make_copy [] hm h, List.drop_left]
  have h1 : addD [] ⟨((0 : Nat) : Int), (c.length : Nat), []⟩ = [⟨0, c.length, []⟩] := by
    show addD [] _ = _
    unfold addD
    simp [Dp.copies]
    omega
  rw [h1, make_lit _ (by have := (matchD_bound c [x]).1; simp at this; omega)]
  show addD _ _ = _
  unfold addD
  simp [Dp.copies]
  intro h0
  subst h0
  simp at h
theorem enc_snoc {c : List UInt8} (h : 4 ≤ c.length) (h2 : c.length < 63) (x : UInt8) : encD (makeD c (c ++ [x])) = [2, UInt8.ofNat (2 * c.length + 1), 0, 2, x] := by
  rw [make_snoc h]
  have e1 : (2 * c.length + 1) < 128 := by omega
  have h1 : (1 : Int) ≤ (c.length : Int) := by omega
  simp [encD, encOps, Dp.enc, Dp.copies, enc_lt, e1, h1]
def a16 : List UInt8 := [97, 98, 99, 100, 101, 102, 103, 104, 105, 106, 107, 108, 109, 110, 111, 112]
def cont (x : UInt8) (i : Nat) : List UInt8 := a16 ++ List.replicate i x
theorem cont_len (x : UInt8) (i : Nat) : (cont x i).length = 16 + i := by unfold cont; rw [List.length_append, List.length_replicate]; rfl
theorem cont_succ (x : UInt8) (i : Nat) : cont x (i + 1) = cont x i ++ [x] := by unfold cont; rw [List.replicate_succ', List.append_assoc]
/-- What is so of the chain of growing contents. -/
def Deep (x : UInt8) (L : List Ln) (S : List (List UInt8 × Nat)) (n : Nat) : Prop := Val L S ∧ S.length = n ∧ ∀ i y, S[i]? = some y → y = (cont x i, i % 9)
theorem Deep.nil (x : UInt8) : Deep x [] [] 0 := ⟨Val.nil, rfl, fun i y h => by simp at h⟩
theorem Deep.step {x : UInt8} {L : List Ln} {S : List (List UInt8 × Nat)} {n : Nat} (h : Deep x L S n) (hn : n ≤ 40) : ∃ S', Deep x (L ++ [apL S (cont x n)]) S' (n + 1) := by
  obtain ⟨hV, hl, hS⟩ := h
  have key : ∀ d, lnS S (apL S (cont x n)) = ((cont x n, d), 0) → d = n % 9 → ∃ S', Deep x (L ++ [apL S (cont x n)]) S' (n + 1) := fun d h1 h2 => by
    refine ⟨S ++ [(cont x n, d)], hV.snoc h1, by rw [List.length_append, hl]; rfl, fun i y hy => ?_⟩
    by_cases hi : i < S.length
    · rw [List.getElem?_append_left hi] at hy; exact hS i y hy
    · have hi2 : i = S.length := by have := (List.getElem?_eq_some_iff.1 hy).1; rw [List.length_append, List.length_singleton] at this; omega
      subst hi2
      rw [List.getElem?_concat_length] at hy
      cases hy
      rw [hl, h2]
  have hc := cont_len x n
  rcases apL_ok (S := S) (b := cont x n) (by omega) with ⟨h1, h2⟩ | ⟨c, d, h1, h2, h3, h4, h5, h6, h7⟩
  · refine key 0 h2 ?_
    rcases Nat.eq_zero_or_pos n with h0 | h0
    · subst h0; rfl
    · obtain ⟨m, rfl⟩ : ∃ m, n = m + 1 := ⟨n - 1, by omega⟩
      obtain ⟨y, hy⟩ : ∃ y, S[m]? = some y := ⟨_, List.getElem?_eq_getElem (by omega)⟩
      have hy2 := hS m y hy
      have hlast : S.getLast? = some (cont x m, m % 9) := by rw [List.getLast?_eq_getElem?, hl]; rw [← hy2]; exact hy
      have hcm := cont_len x m
      by_cases hd : m % 9 < 8
      · exfalso
        have he := enc_snoc (c := cont x m) (by omega) (by omega) x
        rw [← cont_succ] at he
        have h9 : apL S (cont x (m + 1)) = ⟨((S.length - 1 : Nat) : Int), encD (makeD (cont x m) (cont x (m + 1)))⟩ := by
          unfold apL; rw [hlast]
          exact if_pos ⟨hd, by omega, by omega, by rw [he]; show 5 < _; omega⟩
        rw [h9] at h1
        have := congrArg Ln.b h1
        simp only at this
        omega
      · omega
  · refine key (d + 1) h7 ?_
    rcases Nat.eq_zero_or_pos n with h0 | h0
    · subst h0
      rw [List.eq_nil_of_length_eq_zero hl] at h1; cases h1
    · obtain ⟨m, rfl⟩ : ∃ m, n = m + 1 := ⟨n - 1, by omega⟩
      rw [List.getLast?_eq_getElem?, hl] at h1
      have h8 := hS m _ h1
      simp only [Prod.mk.injEq] at h8
      omega
theorem Deep.depth {x : UInt8} {L : List Ln} {S : List (List UInt8 × Nat)} {n i : Nat} (h : Deep x L S n) (hi : i < n) : (S.getD i ([], 0)).2 = i % 9 := by
  obtain ⟨y, hy⟩ : ∃ y, S[i]? = some y := ⟨_, List.getElem?_eq_getElem (by rw [h.2.1]; exact hi)⟩
  rw [List.getD_eq_getElem?_getD, hy, h.2.2 i y hy]
  rfl
/-! ### The example -/
def a8 : List UInt8 := [97, 97, 97, 97, 97, 97, 97, 97]
theorem known_app1 : apC [] a8 = ([⟨-1, a8⟩], 0) := by rw [apC_ok Val.nil (by decide) (by decide)]; rfl
theorem known_val1 : Val [⟨-1, a8⟩] [(a8, 0)] := by
  have h := Val.nil.snoc (x := ⟨-1, a8⟩) (lnS_full (acc := []) (l := a8) (by decide))
  simpa using h
theorem known_apl : apL [(a8, 0)] (a8 ++ [98]) = ⟨0, [2, 17, 0, 2, 98]⟩ := by
  have he := enc_snoc (c := a8) (by decide) (by decide) 98
  unfold apL
  show (if _ then _ else _) = _
  rw [if_pos ⟨by decide, by decide, by decide, by rw [he]; decide⟩, he]
  rfl
theorem known_app2 : apC [⟨-1, a8⟩] (a8 ++ [98]) = ([⟨-1, a8⟩, ⟨0, [2, 17, 0, 2, 98]⟩], 0) := by
  rw [apC_ok known_val1 (by decide) (by decide), known_apl]
  rfl
theorem known_st : ∃ S, stC [⟨-1, a8⟩, ⟨0, [2, 17, 0, 2, 98]⟩] = (S, 0) ∧ (S.getD 1 ([], 0)).2 = 1 := by
  have h1 : lnS [(a8, 0)] ⟨0, [2, 17, 0, 2, 98]⟩ = ((a8 ++ [98], 1), 0) := by
    have he := enc_snoc (c := a8) (by decide) (by decide) 98
    have hd : decD ((a8.length : Nat) : Int) (encD (makeD a8 (a8 ++ [98]))) = some (makeD a8 (a8 ++ [98])) := decD_enc (by rw [make_check (by decide) (by decide)])
    rw [he] at hd
    have h4 := lnS_lean (acc := [(a8, 0)]) (j := 0) (c := a8) (d := 0) rfl hd (by decide)
    rwa [make_turns] at h4
  have h2 := known_val1.snoc h1
  exact ⟨_, h2.st (by decide), rfl⟩
end Go.Proofs.Ytkhjeeaojlaagaa
/-
  The chapter's example; Joined.
-/
namespace Go.Proofs.Ytkhjeeaojlaagaa
open Go.RowKit

def JoRel (w : World) (L : List Bt) (out i : Value) (wr : World) : Prop :=
  ∃ (j m c : Nat) (a : Option Addr), i = .int .i64 j ∧ out = .slice a m c ∧ j ≤ L.length ∧ wr.ownsRow w.heap.size 5 1 (.slice a m c) m (((L.take j).flatMap Bt.l).map u8) ∧ Ext w wr
theorem flat_take {L : List Bt} {j : Nat} {k : Bt} (h : L[j]? = some k) : (L.take (j + 1)).flatMap Bt.l = (L.take j).flatMap Bt.l ++ k.l := by
  rw [List.take_add_one, h, List.flatMap_append]; simp
theorem flat_le (L : List Bt) (j : Nat) : ((L.take j).flatMap Bt.l).length ≤ (L.flatMap Bt.l).length := by
  conv => rhs; rw [← List.take_append_drop j L, List.flatMap_append, List.length_append]
  omega

set_option maxRecDepth 100000 in
set_option maxHeartbeats 2000000 in
theorem Joined_any (a : Option Addr) (n c : Nat) (L : List Bt) (w : World) (hL : Bts w a n c L) (hn : n ≤ 1000000) (hT : (L.flatMap Bt.l).length ≤ 100000000) :
    Calls Try.prog 35 #[.slice a n c] w (NewBytes w (L.flatMap Bt.l)) := by
  have HLN := Lib.hid hL.1
  have HT := Lib.hid hT
  have hrow := hL.2.1
  clear hT
  go_enter Try.func35, Try.ntmps35
  go_wp2
  go_loopw [3, 4] (JoRel w L) (fun _ i _ => n - (intOf i).toNat)
  case atStart => exact ⟨0, 0, 0, none, rfl, rfl, Nat.zero_le _, own_nil _ _ _ _, Below.refl _ _⟩
  case round =>
    obtain ⟨j, m, oc, oa, rfl, rfl, hj, hown, hx3⟩ := hrel
    rename World => w3
    have hjn' : j ≤ n := by have := HLN.out; omega
    by_cases hjn : j < n
    rotate_left
    · obtain rfl : j = n := by omega
      have h := hown
      rw [List.take_of_length_le (by have := HLN.out; omega)] at h
      have H := Lib.hid h
      clear h hown
      go_wp2
      go_ret
      exact ⟨oa, m, oc, rfl, H.out, hx3⟩
    obtain ⟨k, hk⟩ : ∃ k, L[j]? = some k := ⟨_, List.getElem?_eq_getElem (by have := HLN.out; omega)⟩
    have hkb := (hL.2.2 k (List.mem_of_getElem? hk)).1.ext hx3
    have hkl := hkb.len
    have hr1 := hrow.ext hx3
    have hts := flat_take hk
    have hle := flat_le L (j + 1)
    rw [hts, List.length_append, own_len hown, hkl] at hle
    have hmk : m + k.n ≤ 100000000 := by have := HT.out; omega
    have HK := Lib.hid hk
    have HTS := Lib.hid hts
    clear hk hts hle hkl
    go_wp2_with (first
      | ((with_reducible refine atSlot 14 ?_); refine wpList_of_wp rfl (owp_ix (o := ⟨some 14, _, _, _, _, _⟩) _ _ rfl Try.elBs rfl hr1 j rfl rfl hjn ?_); intro b3 o3 hc3; have hd3 := bt_cell HK.out hc3; clear hc3)
      | ((with_reducible refine atSlot 16 ?_); refine wpList_of_wp rfl (owp_app (o := ⟨some 16, _, _, _, _, _⟩) _ _ rfl Try.elB rfl hown rfl hkb.row (u8_oneCell _) (by omega) (by unfold maxLen; omega) hx3.size ?_); intro a6 c6 w6 ho6 hg6)
      | fail)
    go_roundw
    case rel =>
      refine ⟨j + 1, m + k.n, c6, a6, by go_num, rfl, by have := HLN.out; omega, ?_, below_app hx3 hown hg6 hx3.size⟩
      rw [HTS.out, List.map_append]
      exact ho6
    case measure => simp [intOf]; omega

set_option maxRecDepth 100000 in
set_option maxHeartbeats 4000000 in
theorem known27_any (w : World) : Calls Try.prog 15 #[] w (LawPost w) := by
  have H8 := Lib.hid (show (a8 : List UInt8).length ≤ maxLen by decide)
  have H9 := Lib.hid (show (a8 ++ [98] : List UInt8).length ≤ maxLen by decide)
  have hc1 : ∀ (w1 : World) (p : Addr), Bytes w1 (some p) 8 8 a8 → Calls Try.prog 13 #[.slice none 0 0, .slice (some p) 8 8] w1 (LkR w1 [⟨-1, a8⟩] 0) := fun w1 p h =>
    chAppend_any none 0 0 [] _ 8 8 a8 w1 ⟨rfl, Row.empty _ 2, (fun k hk => by cases hk)⟩ h (by decide) (by decide) known_app1
  have hc2 : ∀ (w1 : World) (p : Addr) (a2 : Option Addr) (c2 : Nat) (L2 : List Lk), Links w1 a2 1 c2 L2 → L2.map Lk.d = [⟨-1, a8⟩] → Bytes w1 (some p) 9 9 (a8 ++ [98]) →
      Calls Try.prog 13 #[.slice a2 1 c2, .slice (some p) 9 9] w1 (LkR w1 [⟨-1, a8⟩, ⟨0, [2, 17, 0, 2, 98]⟩] 0) := fun w1 p a2 c2 L2 h1 h2 h3 =>
    chAppend_any a2 1 c2 L2 _ 9 9 (a8 ++ [98]) w1 h1 h3 (by decide) (by decide) (by rw [h2]; exact known_app2)
  have HC1 := Lib.hid hc1
  have HC2 := Lib.hid hc2
  clear hc1 hc2
  obtain ⟨SS, hSS, hS1⟩ := known_st
  have HSS := Lib.hid hSS
  have HS1 := Lib.hid hS1
  have t1 : True := trivial
  clear hSS hS1
  go_enter Try.func15, Try.ntmps15
  go_upto_region 3 with (first
    | ((with_reducible refine atSlot 7 ?_); refine wpList_of_wp rfl (owp_cc (o := ⟨some 7, _, _, _, _, _⟩) _ rfl rfl Try.underlying28 Try.underlying5 (heap_alloc_new w _) ?_); intro w1 hh1 hg1; have E1 : Ext w w1 := (Ext.alloc' w (.cells #[.int .u8 97, .int .u8 97, .int .u8 97, .int .u8 97, .int .u8 97, .int .u8 97, .int .u8 97, .int .u8 97] 5)).grown hg1 (by simp) (fun k hk => by cases hk; exact Nat.le_refl _); have hb1 : Bytes w1 (some ⟨w.heap.size, 0, none⟩) 8 8 a8 := Bytes.of_heap (l := a8) hh1 H8.out; clear hh1 hg1)
    | (go_at_call 13; have _t := t1; (with_reducible refine (HC1.out _ _ hb1).mono ?_); rintro e w2 ⟨a2, n2, c2, L2, rfl, hO2, hD2, hx2⟩; clear t1; have hn2 : n2 = 1 := (by have h := congrArg List.length hD2; rw [List.length_map, hO2.len] at h; exact h); subst hn2; have HO2 := Lib.hid hO2.links; have HD2 := Lib.hid hD2; clear hD2)
    | ((with_reducible refine atSlot 14 ?_); refine wpList_of_wp rfl (owp_cc (o := ⟨some 14, _, _, _, _, _⟩) _ rfl rfl Try.underlying28 Try.underlying5 (heap_alloc_new w2 _) ?_); intro w3 hh3 hg3; have E3 : Ext w2 w3 := (Ext.alloc' w2 (.cells #[.int .u8 97, .int .u8 97, .int .u8 97, .int .u8 97, .int .u8 97, .int .u8 97, .int .u8 97, .int .u8 97, .int .u8 98] 5)).grown hg3 (by simp) (fun k hk => by cases hk; exact Nat.le_refl _); have hb3 : Bytes w3 (some ⟨w2.heap.size, 0, none⟩) 9 9 (a8 ++ [98]) := Bytes.of_heap (l := a8 ++ [98]) hh3 H9.out; clear hh3 hg3)
    | (go_at_call 13; (with_reducible refine (HC2.out _ _ a2 c2 L2 (HO2.out.ext E3) HD2.out hb3).mono ?_); rintro e w4 ⟨a4, n4, c4, L4, rfl, hO4, hD4, hx4⟩)
    | fail)
  have hn4 : n4 = 2 := by have h := congrArg List.length hD4; rw [List.length_map, hO4.len] at h; exact h
  subst hn4
  have hL4 := hO4.links
  obtain ⟨k0, k1, rfl⟩ : ∃ k0 k1, L4 = [k0, k1] := by
    match L4, hO4.len with
    | [x, y], _ => exact ⟨x, y, rfl⟩
  simp only [List.map_cons, List.map_nil, List.cons.injEq, and_true] at hD4
  obtain ⟨hd0, hd1⟩ := hD4
  obtain ⟨b1, xa, xn, xc, xl⟩ := k1
  obtain rfl : b1 = 0 := congrArg Ln.b hd1
  obtain rfl : xl = [2, 17, 0, 2, 98] := congrArg Ln.l hd1
  have hI1 := hL4.2.2 ⟨0, xa, xn, xc, [2, 17, 0, 2, 98]⟩ (by simp)
  have hb5 : Bytes w4 xa xn xc [2, 17, 0, 2, 98] := hI1.1
  have hst : stC ([k0, ⟨0, xa, xn, xc, [2, 17, 0, 2, 98]⟩].map Lk.d) = (SS, 0) := by
    simp only [List.map_cons, List.map_nil]
    rw [hd0, hd1]; exact HSS.out
  have hdv : depV SS 0 2 1 = 1 := by
    unfold depV
    rw [if_neg (by decide)]
    show (((SS.getD 1 ([], 0)).2 : Nat) : Int) = 1
    rw [HS1.out]; rfl
  have hdc := chDepth_any a4 2 c4 _ 1 w4 hL4 (by decide) ⟨by decide, by decide⟩ hst
  rw [hdv] at hdc
  have hr4 := hL4.2.1
  have HDC := Lib.hid hdc
  have hk1 : ([k0, ⟨0, xa, xn, xc, [2, 17, 0, 2, 98]⟩] : List Lk)[1]? = some ⟨0, xa, xn, xc, [2, 17, 0, 2, 98]⟩ := rfl
  have HKK := Lib.hid hk1
  clear hd0 hd1 hI1 hst hdv hdc hk1 hO2 hO4
  go_wp2_with (first
    | ((with_reducible refine atSlot 31 ?_); refine wpList_of_wp rfl (owp_ix (o := ⟨some 31, _, _, _, _, _⟩) _ _ rfl Try.elLk rfl hr4 1 rfl rfl (by decide) ?_); intro b3 o3 hc3; have hd3 := (hc3 0 (by decide)).trans (lk_get HKK.out 0 (by decide)); simp only [Lk.cells, Nat.add_zero, List.getElem?_cons_zero] at hd3; clear hc3)
    | ((with_reducible refine atSlot 38 ?_); refine wpList_of_wp rfl (owp_ix (o := ⟨some 38, _, _, _, _, _⟩) _ _ rfl Try.elLk rfl hr4 1 rfl rfl (by decide) ?_); intro b4 o4 hc4; have hd4 := (hc4 1 (by decide)).trans (lk_get HKK.out 1 (by decide)); simp only [Lk.cells, List.getElem?_cons_succ, List.getElem?_cons_zero] at hd4; clear hc4)
    | ((with_reducible refine atSlot 41 ?_); refine wpList_of_wp rfl (owp_conv (o := ⟨some 41, _, _, _, _, _⟩) _ rfl rfl hb5 Try.underlying28 Try.underlying5 Try.underlying9 ?_))
    | (go_at_call 21; (with_reducible refine HDC.out.mono ?_); rintro e w6 ⟨rfl, hx6⟩)
    | fail)
  go_ret
  exact ⟨rfl, (((E1.trans' hx2).trans' E3).trans' hx4).trans' hx6⟩
end Go.Proofs.Ytkhjeeaojlaagaa
