/-
  Chains: Depth, Get, encoded, Cost.
-/
import Derived.Test.YtcljlglmnagodaaChaC
import Derived.Test.YtcljlglmnagodaaDelQ
namespace Go.Proofs.Ytcljlglmnagodaa
open Go.RowKit

def depV (S : List (List UInt8 × Nat)) (er : Int) (n : Nat) (i : Int) : Int := if er ≠ 0 ∨ i < 0 ∨ (n : Int) ≤ i then -1 else ((S.getD i.toNat ([], 0)).2 : Nat)
def getV (S : List (List UInt8 × Nat)) (er : Int) (n : Nat) (i : Int) : List UInt8 × Int := if er ≠ 0 then ([], er) else if i < 0 ∨ (n : Int) ≤ i then ([], 273) else ((S.getD i.toNat ([], 0)).1, 0)
theorem getD_of {S : List (List UInt8 × Nat)} {i : Nat} {y : List UInt8 × Nat} (h : S[i]? = some y) : S.getD i ([], 0) = y := by rw [List.getD_eq_getElem?_getD, h]; rfl

set_option maxRecDepth 100000 in
set_option maxHeartbeats 4000000 in
theorem chDepth_any (a : Option Addr) (n c : Nat) (L : List Lk) (i : Int) (w : World) (hL : Links w a n c L) (hn : n ≤ 140737488355328) (hi : i64B i) {S : List (List UInt8 × Nat)} {er : Int} (hr : stC (L.map Lk.d) = (S, er)) :
    Calls Try.prog 57 #[.slice a n c, .int .i64 i] w (NewNone (.int .i64 (depV S er n i)) w) := by
  have HM := Lib.hid (measure_any a n c L w hL hn hr)
  obtain ⟨v, hv⟩ : ∃ v, v = depV S er n i := ⟨_, rfl⟩
  rw [← hv]
  unfold depV at hv
  have hi' : -9223372036854775808 ≤ i ∧ i ≤ 9223372036854775807 := hi
  have HLN := Lib.hid hL.1
  have HR := Lib.hid hr
  clear hi hr
  by_cases he : er = 0
  rotate_left
  · rw [if_pos (.inl he)] at hv
    subst hv
    obtain ⟨q1, q2⟩ := neI he
    clear he
    go_enter Try.func57, Try.ntmps57
    go_wp2_with (first
      | (go_at_call 89; (with_reducible refine HM.out.mono ?_); rintro e w2 ⟨X, rfl, hX, -, hx2⟩)
      | ((with_reducible refine atStore 5 ?_); refine wpList_store_mid rfl 121 _ _ rfl w2.heap.size 0 (ints X) rfl rfl ((Arr.new w2).there hX) (ints_size hX) (ints_one _) ?_)
      | fail)
    go_ret
    exact ⟨rfl, (hx2.al _).sts hx2.size _ _⟩
  subst he
  by_cases hlt : i < 0
  · rw [if_pos (.inr (.inl hlt))] at hv
    subst hv
    have hd : decide (i < 0) = true := decide_eq_true hlt
    go_enter Try.func57, Try.ntmps57
    go_wp2_with (first
      | (go_at_call 89; (with_reducible refine HM.out.mono ?_); rintro e w2 ⟨X, rfl, hX, -, hx2⟩)
      | ((with_reducible refine atStore 5 ?_); refine wpList_store_mid rfl 121 _ _ rfl w2.heap.size 0 (ints X) rfl rfl ((Arr.new w2).there hX) (ints_size hX) (ints_one _) ?_)
      | fail)
    go_ret
    exact ⟨rfl, (hx2.al _).sts hx2.size _ _⟩
  obtain ⟨ii, rfl⟩ := Int.eq_ofNat_of_zero_le (show 0 ≤ i by omega)
  by_cases hge : (n : Int) ≤ ii
  · rw [if_pos (.inr (.inr hge))] at hv
    subst hv
    have hd : decide ((n : Int) ≤ ii) = true := decide_eq_true hge
    go_enter Try.func57, Try.ntmps57
    go_wp2_with (first
      | (go_at_call 89; (with_reducible refine HM.out.mono ?_); rintro e w2 ⟨X, rfl, hX, -, hx2⟩)
      | ((with_reducible refine atStore 5 ?_); refine wpList_store_mid rfl 121 _ _ rfl w2.heap.size 0 (ints X) rfl rfl ((Arr.new w2).there hX) (ints_size hX) (ints_one _) ?_)
      | fail)
    go_ret
    exact ⟨rfl, (hx2.al _).sts hx2.size _ _⟩
  · have hin : ii < n := by omega
    obtain ⟨hV, h256⟩ := stC_val HR.out
    rw [List.length_map, HLN.out] at h256
    obtain ⟨y, hy⟩ : ∃ y, S[ii]? = some y := ⟨_, List.getElem?_eq_getElem (by rw [hV.len, List.length_map, HLN.out]; exact hin)⟩
    rw [if_neg (by omega), Int.toNat_natCast, getD_of hy] at hv
    have HY := Lib.hid hy
    have HV := Lib.hid hv
    clear hv hy hV hge hlt
    go_enter Try.func57, Try.ntmps57
    go_wp2_with (first
      | (go_at_call 89; (with_reducible refine HM.out.mono ?_); rintro e w2 ⟨X, rfl, hX, hXS, hx2⟩; have hxi := hXS rfl ii y HY.out; clear hXS)
      | ((with_reducible refine atStore 5 ?_); refine wpList_store_mid rfl 121 _ _ rfl w2.heap.size 0 (ints X) rfl rfl ((Arr.new w2).there hX) (ints_size hX) (ints_one _) ?_; have hq := ((Arr.new w2).put hX).at_ hxi)
      | fail)
    go_ret
    exact ⟨by rw [HV.out]; rfl, (hx2.al _).sts hx2.size _ _⟩

set_option maxRecDepth 100000 in
set_option maxHeartbeats 4000000 in
theorem chGet_any (a : Option Addr) (n c : Nat) (L : List Lk) (i : Int) (w : World) (hL : Links w a n c L) (hn : n ≤ 140737488355328) (hi : i64B i) {S : List (List UInt8 × Nat)} {er : Int} (hr : stC (L.map Lk.d) = (S, er)) {l : List UInt8} {e0 : Int} (hg : getV S er n i = (l, e0)) :
    Calls Try.prog 60 #[.slice a n c, .int .i64 i] w (BytesRes w l e0) := by
  have HM := Lib.hid (chCheck_any a n c L w hL hn hr)
  unfold getV at hg
  have hi' : -9223372036854775808 ≤ i ∧ i ≤ 9223372036854775807 := hi
  have HLN := Lib.hid hL.1
  have HR := Lib.hid hr
  clear hi hr
  by_cases he : er = 0
  rotate_left
  · rw [if_pos he] at hg
    cases hg
    obtain ⟨q1, q2⟩ := neI he
    clear he
    go_enter Try.func60, Try.ntmps60
    go_wp2_with (first
      | (go_at_call 66; (with_reducible refine HM.out.mono ?_); rintro e w2 ⟨rfl, hx2⟩)
      | fail)
    go_ret2
    exact ⟨none, 0, 0, rfl, own_nil _ _ _ _, hx2⟩
  subst he
  rw [if_neg (by simp)] at hg
  by_cases hlt : i < 0
  · rw [if_pos (.inl hlt)] at hg
    cases hg
    have hd : decide (i < 0) = true := decide_eq_true hlt
    go_enter Try.func60, Try.ntmps60
    go_wp2_with (first
      | (go_at_call 66; (with_reducible refine HM.out.mono ?_); rintro e w2 ⟨rfl, hx2⟩)
      | fail)
    go_ret2
    exact ⟨none, 0, 0, rfl, own_nil _ _ _ _, hx2⟩
  obtain ⟨ii, rfl⟩ := Int.eq_ofNat_of_zero_le (show 0 ≤ i by omega)
  by_cases hge : (n : Int) ≤ ii
  · rw [if_pos (.inr hge)] at hg
    cases hg
    have hd : decide ((n : Int) ≤ ii) = true := decide_eq_true hge
    go_enter Try.func60, Try.ntmps60
    go_wp2_with (first
      | (go_at_call 66; (with_reducible refine HM.out.mono ?_); rintro e w2 ⟨rfl, hx2⟩)
      | fail)
    go_ret2
    exact ⟨none, 0, 0, rfl, own_nil _ _ _ _, hx2⟩
  · have hin : ii < n := by omega
    obtain ⟨hV, h256⟩ := stC_val HR.out
    obtain ⟨y, hy⟩ : ∃ y, S[ii]? = some y := ⟨_, List.getElem?_eq_getElem (by rw [hV.len, List.length_map, HLN.out]; exact hin)⟩
    rw [if_neg (by omega), Int.toNat_natCast, getD_of hy] at hg
    cases hg
    have HC := Lib.hid (fun w' hx => content_any a n c L S ii y w' hV (hL.ext hx) hy)
    clear hV h256 hy hge hlt
    go_enter Try.func60, Try.ntmps60
    go_wp2_with (first
      | (go_at_call 66; (with_reducible refine HM.out.mono ?_); rintro e w2 ⟨rfl, hx2⟩)
      | (go_at_call 91; (with_reducible refine (HC.out _ hx2).mono ?_); rintro e w3 ⟨a3, n3, c3, rfl, ho3, hx3⟩)
      | fail)
    go_ret2
    exact ⟨a3, n3, c3, rfl, own_base ho3 hx2.size, hx2.trans' hx3⟩

/-- The encoding of the delta from one content to another, and whether it is shorter. -/
def encV (b t : List UInt8) : List UInt8 × Bool := if 2048 < b.length ∨ 2048 < t.length then ([], false) else (encD (makeD b t), decide ((encD (makeD b t)).length < t.length))
def EncB (w : World) (l : List UInt8) (ok : Bool) (e : Ending) (w' : World) : Prop :=
  ∃ a n c, e = .returned (.tuple #[.slice a n c, .bool ok]) ∧ w'.ownsRow w.heap.size 5 1 (.slice a n c) n (l.map u8) ∧ Ext w w'

set_option maxRecDepth 100000 in
set_option maxHeartbeats 4000000 in
theorem encoded_any (a1 : Option Addr) (n1 c1 : Nat) (b : List UInt8) (a2 : Option Addr) (n2 c2 : Nat) (t : List UInt8) (w : World) (h1 : Bytes w a1 n1 c1 b) (h2 : Bytes w a2 n2 c2 t) (hn1 : n1 ≤ 140737488355328) (hn2 : n2 ≤ 140737488355328) {l : List UInt8} {ok : Bool} (hr : encV b t = (l, ok)) :
    Calls Try.prog 90 #[.slice a1 n1 c1, .slice a2 n2 c2] w (EncB w l ok) := by
  unfold encV at hr
  have hl1 := h1.len
  have hl2 := h2.len
  by_cases hbig : 2048 < b.length ∨ 2048 < t.length
  · rw [if_pos hbig] at hr
    cases hr
    have hmk : makeRes b t = ([], 262) := by unfold makeRes; rw [if_pos hbig]
    have HM := Lib.hid (Make_any a1 n1 c1 b a2 n2 c2 t w h1 h2 hn1 hn2 hmk)
    clear hmk hbig
    go_enter Try.func90, Try.ntmps90
    go_wp2_with (first
      | (go_at_call 26; (with_reducible refine HM.out.mono ?_); rintro e w2 ⟨a3, n3, c3, L3, rfl, hL3, -, hx2⟩)
      | fail)
    go_ret2
    exact ⟨none, 0, 0, rfl, own_nil _ _ _ _, hx2⟩
  · rw [if_neg hbig] at hr
    simp only [Prod.mk.injEq] at hr
    obtain ⟨rfl, hok⟩ := hr
    have hmk : makeRes b t = (makeD b t, 0) := by unfold makeRes; rw [if_neg hbig]
    have HM := Lib.hid (Make_any a1 n1 c1 b a2 n2 c2 t w h1 h2 hn1 hn2 hmk)
    have hck := make_check (b := b) (T := t) (by omega) (by omega)
    have hen : encDRes (n1 : Int) (makeD b t) = (encD (makeD b t), 0) := by unfold encDRes; rw [← hl1, hck]; rfl
    have hlen : (makeD b t).length ≤ 4096 := by obtain ⟨-, -, -, -, -, h⟩ := ckRes_ok hck; exact h
    have HEN := Lib.hid hen
    have HOK := Lib.hid hok
    clear hmk hbig hck hen hok
    go_enter Try.func90, Try.ntmps90
    go_wp2_with (first
      | (go_at_call 26; (with_reducible refine HM.out.mono ?_); rintro e w2 ⟨a3, n3, c3, L3, rfl, hL3, hD3, hx2⟩; have hn3 : n3 ≤ 4096 := (by rw [← hL3.1, ← List.length_map (f := Od.d), hD3]; exact hlen); have hen := HEN.out; rw [← hD3] at hen; have HE2 := Lib.hid hen; clear hen)
      | (go_at_call 45; (with_reducible refine (Encode_any (n1 : Int) a3 n3 c3 L3 _ hL3 (by omega) HE2.out).mono ?_); rintro e w4 ⟨a4, n4, c4, rfl, ho4, hx4⟩)
      | fail)
    rw [hD3] at ho4
    have h4 := own_len ho4
    go_ret2
    refine ⟨a4, n4, c4, ?_, own_base ho4 hx2.size, hx2.trans' hx4⟩
    rw [← HOK.out, h4, ← hl2, h2.len]
    simp
def lnSum (L : List Ln) : Nat := (L.map fun x => x.l.length).sum
theorem wrap_add' (a b : Int) : wrap64 (wrap64 a + b) = wrap64 (a + b) := by unfold wrap64; omega
theorem lnSum_take {L : List Lk} {j : Nat} {k : Lk} (h : L[j]? = some k) : lnSum ((L.take (j + 1)).map Lk.d) = lnSum ((L.take j).map Lk.d) + k.l.length := by
  rw [List.take_add_one, h]
  simp [lnSum]
  rfl
theorem cs_zero {L : List Lk} : (0 : Int) = RowKit.wrap64 ((lnSum ((L.take 0).map Lk.d) : Nat) : Int) := by
  rw [List.take_zero]; show (0 : Int) = RowKit.wrap64 ((0 : Nat) : Int); unfold RowKit.wrap64; omega
def CsRel (w : World) (L : List Lk) (s i : Value) (wr : World) : Prop := ∃ j : Nat, i = .int .i64 j ∧ s = .int .i64 (RowKit.wrap64 (lnSum ((L.take j).map Lk.d) : Nat)) ∧ j ≤ L.length ∧ Ext w wr

set_option maxRecDepth 100000 in
set_option maxHeartbeats 4000000 in
theorem chCost_any (a : Option Addr) (n c : Nat) (L : List Lk) (w : World) (hL : Links w a n c L) (hn : n ≤ 140737488355328) :
    Calls Try.prog 68 #[.slice a n c] w (NewNone (.int .i64 (RowKit.wrap64 (lnSum (L.map Lk.d) : Nat))) w) := by
  have HLN := Lib.hid hL.1
  have hrow := hL.2.1
  go_enter Try.func68, Try.ntmps68
  go_wp2
  go_loopw [3, 8] (CsRel w L) (fun _ i _ => n - (intOf i).toNat)
  case atStart => exact ⟨0, rfl, congrArg (Value.int IntKind.i64) cs_zero, Nat.zero_le _, Below.refl _ _⟩
  case round =>
    obtain ⟨j, rfl, rfl, hj, hx3⟩ := hrel
    rename World => w3
    have hjn' : j ≤ n := by have := HLN.out; omega
    by_cases hjn : j < n
    rotate_left
    · obtain rfl : j = n := by omega
      go_wp2
      go_ret
      exact ⟨by rw [List.take_of_length_le (by have := HLN.out; omega)]; rfl, hx3⟩
    obtain ⟨k, hk⟩ : ∃ k, L[j]? = some k := ⟨_, List.getElem?_eq_getElem (by have := HLN.out; omega)⟩
    have hr1 := hrow.ext hx3
    have hkl := (hL.2.2 k (List.mem_of_getElem? hk)).1.len
    have hst := lnSum_take hk
    obtain ⟨s, hs⟩ : ∃ s, s = lnSum ((L.take j).map Lk.d) := ⟨_, rfl⟩
    rw [← hs] at hst ⊢
    have hw1 : RowKit.wrap64 (RowKit.wrap64 (s : Nat) + (k.n : Int)) = RowKit.wrap64 ((lnSum ((L.take (j + 1)).map Lk.d) : Nat) : Int) := by
      rw [wrap_add', hst, hkl]; rfl
    have HK := Lib.hid hk
    have HW := Lib.hid hw1
    clear hk hst hs hw1 hkl
    go_wp2_with (first
      | ((with_reducible refine atSlot 10 ?_); refine wpList_of_wp rfl (owp_ix (o := ⟨some 10, _, _, _, _, _⟩) _ _ rfl Try.elLk rfl hr1 j rfl rfl hjn ?_); intro b3 o3 hc3; have hrg3 := lk_range HK.out hc3; clear hc3)
      | ((with_reducible refine atSlot 11 ?_); refine wpList_of_wp rfl (wp_load_mid (op := ⟨some 11, _, _, _, _, _⟩) 73 _ rfl b3 o3 rfl _ _ hrg3 Try.underlying73 rfl (by kernel_rfl) ?_); simp only [Lk.cells]; clear hrg3)
      | fail)
    go_roundw
    case rel => exact ⟨j + 1, by go_num, congrArg (Value.int IntKind.i64) HW.out, by have := HLN.out; omega, hx3.al _⟩
    case measure => simp [intOf]; omega

set_option maxRecDepth 100000 in
set_option maxHeartbeats 4000000 in
theorem refChCost_any (a : Option Addr) (n c : Nat) (L : List Lk) (w : World) (hL : Links w a n c L) (hn : n ≤ 140737488355328) :
    Calls Try.prog 69 #[.slice a n c] w (NewNone (.int .i64 (RowKit.wrap64 (lnSum (L.map Lk.d) : Nat))) w) := by
  have HLN := Lib.hid hL.1
  have hrow := hL.2.1
  go_enter Try.func69, Try.ntmps69
  go_wp2
  go_loopw [3, 4] (CsRel w L) (fun _ i _ => n - (intOf i).toNat)
  case atStart => exact ⟨0, rfl, congrArg (Value.int IntKind.i64) cs_zero, Nat.zero_le _, Below.refl _ _⟩
  case round =>
    obtain ⟨j, rfl, rfl, hj, hx3⟩ := hrel
    rename World => w3
    have hjn' : j ≤ n := by have := HLN.out; omega
    by_cases hjn : j < n
    rotate_left
    · obtain rfl : j = n := by omega
      go_wp2
      go_ret
      exact ⟨by rw [List.take_of_length_le (by have := HLN.out; omega)]; rfl, hx3⟩
    obtain ⟨k, hk⟩ : ∃ k, L[j]? = some k := ⟨_, List.getElem?_eq_getElem (by have := HLN.out; omega)⟩
    have hr1 := hrow.ext hx3
    have hkl := (hL.2.2 k (List.mem_of_getElem? hk)).1.len
    have hst := lnSum_take hk
    obtain ⟨s, hs⟩ : ∃ s, s = lnSum ((L.take j).map Lk.d) := ⟨_, rfl⟩
    rw [← hs] at hst ⊢
    have hw1 : RowKit.wrap64 (RowKit.wrap64 (s : Nat) + (k.n : Int)) = RowKit.wrap64 ((lnSum ((L.take (j + 1)).map Lk.d) : Nat) : Int) := by
      rw [wrap_add', hst, hkl]; rfl
    have HK := Lib.hid hk
    have HW := Lib.hid hw1
    clear hk hst hs hw1 hkl
    go_wp2_with (first
      | ((with_reducible refine atSlot 14 ?_); refine wpList_of_wp rfl (owp_ix (o := ⟨some 14, _, _, _, _, _⟩) _ _ rfl Try.elLk rfl hr1 j rfl rfl hjn ?_); intro b3 o3 hc3; have hd3 := (hc3 1 (by decide)).trans (lk_get HK.out 1 (by decide)); simp only [Lk.cells, List.getElem?_cons_succ, List.getElem?_cons_zero] at hd3; clear hc3)
      | fail)
    go_roundw
    case rel => exact ⟨j + 1, by go_num, congrArg (Value.int IntKind.i64) HW.out, by have := HLN.out; omega, hx3⟩
    case measure => simp [intOf]; omega
end Go.Proofs.Ytcljlglmnagodaa
