/-
  Several texts in one: CacP, Join, CacW.
-/
import Derived.Test.YtpiodpljiklfkaaCacO
import Derived.Test.YtpiodpljiklfkaaMathU
import Derived.Test.YtpiodpljiklfkaaBts
import Derived.Test.YtpiodpljiklfkaaRefL
/-
  The law's texts.
-/
namespace Go.Proofs.Ytpiodpljiklfkaa
open Go.RowKit

def TBRel2 (w : World) (g k n K : Nat) (out i : Value) (wr : World) : Prop :=
  ∃ (j c : Nat) (a : Option Addr) (l : List UInt8), i = .int .i64 j ∧ out = .slice a j c ∧ j ≤ n ∧ (∀ x ∈ l, x.toNat < K) ∧ wr.ownsRow w.heap.size 5 1 (.slice a j c) j (l.map u8) ∧ Tape wr g (k + j) ∧ w.grownBy wr (some g)

set_option maxRecDepth 100000 in
set_option maxHeartbeats 1000000 in
theorem TapeBytes_small (g k n K : Nat) (w : World) (ht : Tape w g k) (hk : k + n ≤ 100000000000000) (hK : 1 ≤ K) (hK' : K ≤ 256) :
    Calls Try.prog 54 #[.pointer (some ⟨g, 0, none⟩), .int .i64 n, .int .i64 K] w fun e w' =>
      ∃ (a : Option Addr) (c : Nat) (l : List UInt8), e = .returned (.slice a n c) ∧ (∀ x ∈ l, x.toNat < K) ∧ w'.ownsRow w.heap.size 5 1 (.slice a n c) n (l.map u8) ∧ Tape w' g (k + n) ∧ w.grownBy w' (some g) := by
  have hgl := ht.lt
  go_enter Try.func54, Try.ntmps54
  go_wp2_with (at_make; refine wpList_mk rfl _ _ rfl Try.elB 0 n rfl rfl (by simp) (by simp) (by omega) (by omega) (by unfold maxLen; omega) ?_; intro b w1 ho1 hx1)
  go_loopw [7, 8] (TBRel2 w g k n K) (fun _ i _ => n - (intOf i).toNat)
  case atStart => exact ⟨0, n, some ⟨b, 0, none⟩, [], rfl, rfl, by omega, (fun x hx => by cases hx), by simpa [zeros, madeCells] using ho1, ht.below (hx1.mono (by omega)), ⟨hx1.os, hx1.tape, hx1.output, hx1.size, fun k hk _ => hx1.block k hk⟩⟩
  case round =>
    obtain ⟨j, c, a, l, rfl, rfl, hj, hlt, ho, ht1, hg1⟩ := hrel
    have HLT := Lib.hid hlt
    clear hlt
    by_cases hjn : j < n
    · go_wp2_with (first
        | (go_at_call 18; (with_reducible refine (Next_any g (k + j) K _ ht1 (by omega) (by omega)).mono ?_); rintro e w2 ⟨u, rfl, hu, ht2, hg2⟩; have hu2 : (u : Int) < 256 := (by unfold Below1 at hu; omega); have HU := Lib.hid (show u < K by unfold Below1 at hu; omega); have ho2 := own_kept ho hg2 hgl; have hz2 : w.heap.size ≤ w2.heap.size := (by have := hg1.size; have := hg2.size; omega))
        | (at_builtin; go_loud (refine wpList_app rfl _ _ rfl Try.elB rfl (ho2.alloc _) rfl (Row.one _ _ _) (by intro u hu; simp at hu; subst hu; rfl) (by omega) (by unfold maxLen; omega) (by simp; omega) ?_); intro a3 c3 w3 ho3 hg3))
      have hu8 : Value.int .u8 (u : Int) = u8 (UInt8.ofNat u) := (u8_ofNat u (by omega)).symm
      have hb3 : ∀ b, blockOf a = some b → w.heap.size ≤ b := fun b hb => (own_block ho b hb).1
      go_roundw
      case rel =>
        refine ⟨j + 1, c3, a3, l ++ [UInt8.ofNat u], by go_num, rfl, by omega, ?_, by rw [List.map_append, List.map_cons, List.map_nil, ← hu8]; exact ho3, ?_, ?_⟩
        · intro x hx
          rcases List.mem_append.1 hx with hx | hx
          · exact HLT.out x hx
          · obtain rfl : x = UInt8.ofNat u := by simpa using hx
            rw [UInt8.toNat_ofNat_of_lt' (by show u < 256; omega)]
            exact HU.out
        · exact ((ht2.grown (World.grownBy_alloc w2 _ none) (fun _ h => nomatch h)).grown hg3 (fun b hb => by have := hb3 b hb; omega))
        · exact chg_trans (chg_trans (chg_trans hg1 hg2 (fun b hb => .inr (by cases hb; rfl))) (World.grownBy_alloc w2 _ none) (fun _ h => nomatch h)) hg3 (fun b hb => .inl (hb3 b hb))
      case measure => simp [intOf]; omega
    · obtain rfl : j = n := by omega
      go_wp2
      go_ret
      exact ⟨a, c, l, rfl, HLT.out, ho, ht1, hg1⟩
/-- One of few byte strings, in new memory. -/
def TextO (w : World) (g k : Nat) (e : Ending) (w' : World) : Prop :=
  ∃ (a : Option Addr) (n c k' : Nat) (l : List UInt8), e = .returned (.slice a n c) ∧ 1 ≤ n ∧ n ≤ 4 ∧ Sh l ∧ w'.ownsRow w.heap.size 5 1 (.slice a n c) n (l.map u8) ∧ Tape w' g k' ∧ k' ≤ k + 5 ∧ w.grownBy w' (some g)

set_option maxRecDepth 100000 in
set_option maxHeartbeats 2000000 in
theorem text38_any (g k : Nat) (w : World) (ht : Tape w g k) (hk : k ≤ 10000000000000) :
    Calls Try.prog 34 #[.pointer (some ⟨g, 0, none⟩)] w (TextO w g k) := by
  go_enter Try.func34, Try.ntmps34
  go_wp2_with (first
    | (go_at_call 18; (with_reducible refine (Next_any g k 4 _ ht (by omega) (by omega)).mono ?_); rintro e w1 ⟨u1, rfl, hu1, ht1, hg1⟩; have hu : u1 ≤ 3 := (by unfold Below1 at hu1; omega); clear hu1; refine Stop.of ?_)
    | fail)
  obtain ⟨m, hm⟩ : ∃ m, m = 1 + u1 := ⟨_, rfl⟩
  have hm1 : 1 ≤ m := by omega
  have hm4 : m ≤ 4 := by omega
  have htb := TapeBytes_small g (k + 1) m 2 w1 ht1 (by omega) (by omega) (by omega)
  have hmi : (1 : Int) + (u1 : Int) = m := by omega
  have HTB := Lib.hid htb
  have HG := Lib.hid hg1
  have HMI := Lib.hid hmi
  clear htb hm hg1 hmi
  refine Stop.out ?_
  go_wp2_with (first
    | (go_at_call 54; (try rw [HMI.out]); (refine HTB.out.mono ?_); rintro e w2 ⟨a2, c2, l2, rfl, hs2, ho2, ht2, hg2⟩)
    | fail)
  go_ret
  have hl2 := own_len ho2
  exact ⟨a2, m, c2, k + 1 + m, l2, rfl, hm1, hm4, ⟨by omega, by omega, hs2⟩, own_base ho2 HG.out.size, ht2, by omega, grown_trans' HG.out hg2⟩
end Go.Proofs.Ytpiodpljiklfkaa
/-
  The texts of a list, one behind the other.
-/
namespace Go.Proofs.Ytpiodpljiklfkaa
open Go.RowKit
def JoRel (w : World) (L : List Bt) (out i : Value) (wr : World) : Prop :=
  ∃ (j m c : Nat) (a : Option Addr), i = .int .i64 j ∧ out = .slice a m c ∧ j ≤ L.length ∧ wr.ownsRow w.heap.size 5 1 (.slice a m c) m (((L.take j).flatMap Bt.l).map u8) ∧ Ext w wr
theorem flat_take {L : List Bt} {j : Nat} {k : Bt} (h : L[j]? = some k) : (L.take (j + 1)).flatMap Bt.l = (L.take j).flatMap Bt.l ++ k.l := by
  rw [List.take_add_one, h, List.flatMap_append]; simp
theorem flat_le (L : List Bt) (j : Nat) : ((L.take j).flatMap Bt.l).length ≤ (L.flatMap Bt.l).length := by
  conv => rhs; rw [← List.take_append_drop j L, List.flatMap_append, List.length_append]
  omega

set_option maxRecDepth 100000 in
set_option maxHeartbeats 2000000 in
theorem Joined_any (a : Option Addr) (n c : Nat) (L : List Bt) (w : World) (hL : Bts w a n c L) (hn : n ≤ 1000000) (hT : (L.flatMap Bt.l).length ≤ 100000000) :
    Calls Try.prog 44 #[.slice a n c] w (NewBytes w (L.flatMap Bt.l)) := by
  have HLN := Lib.hid hL.1
  have HT := Lib.hid hT
  have hrow := hL.2.1
  clear hT
  go_enter Try.func44, Try.ntmps44
  go_wp2
  go_loopw [3, 4] (JoRel w L) (fun _ i _ => n - (intOf i).toNat)
  case atStart => exact ⟨0, 0, 0, none, rfl, rfl, Nat.zero_le _, own_nil _ _ _ _, Below.refl _ _⟩
  case round =>
    obtain ⟨j, m, oc, oa, rfl, rfl, hj, hown, hx3⟩ := hrel
    rename World => w3
    have hjn' : j ≤ n := by have := HLN.out; omega
    by_cases hjn : j < n
    rotate_left
    · obtain rfl : j = n := by omega
      have h := hown
      rw [List.take_of_length_le (by have := HLN.out; omega)] at h
      have H := Lib.hid h
      clear h hown
      go_wp2
      go_ret
      exact ⟨oa, m, oc, rfl, H.out, hx3⟩
    obtain ⟨k, hk⟩ : ∃ k, L[j]? = some k := ⟨_, List.getElem?_eq_getElem (by have := HLN.out; omega)⟩
    have hkb := (hL.2.2 k (List.mem_of_getElem? hk)).1.ext hx3
    have hkl := hkb.len
    have hr1 := hrow.ext hx3
    have hts := flat_take hk
    have hle := flat_le L (j + 1)
    rw [hts, List.length_append, own_len hown, hkl] at hle
    have hmk : m + k.n ≤ 100000000 := by have := HT.out; omega
    have HK := Lib.hid hk
    have HTS := Lib.hid hts
    clear hk hts hle hkl
    go_wp2_with (first
      | ((with_reducible refine atSlot 14 ?_); refine wpList_of_wp rfl (owp_ix (o := ⟨some 14, _, _, _, _, _⟩) _ _ rfl Try.elBs rfl hr1 j rfl rfl hjn ?_); intro b3 o3 hc3; have hd3 := bt_cell HK.out hc3; clear hc3)
      | ((with_reducible refine atSlot 16 ?_); refine wpList_of_wp rfl (owp_app (o := ⟨some 16, _, _, _, _, _⟩) _ _ rfl Try.elB rfl hown rfl hkb.row (u8_oneCell _) (by omega) (by unfold maxLen; omega) hx3.size ?_); intro a6 c6 w6 ho6 hg6)
      | fail)
    go_roundw
    case rel =>
      refine ⟨j + 1, m + k.n, c6, a6, by go_num, rfl, by have := HLN.out; omega, ?_, below_app hx3 hown hg6 hx3.size⟩
      rw [HTS.out, List.map_append]
      exact ho6
    case measure => simp [intOf]; omega
end Go.Proofs.Ytpiodpljiklfkaa
/-
  The law's contents.
-/
namespace Go.Proofs.Ytpiodpljiklfkaa
open Go.RowKit
/-- Chunks of one's own. -/
structure OwnChs (w : World) (B : Nat) (a : Option Addr) (n c : Nat) (L : List Ch) : Prop where
  len : L.length = n
  own : w.ownsRow B 90 3 (.slice a n c) n (L.flatMap Ch.cells)
  dat : ∀ y ∈ L, w.ownsRow B 5 1 (.slice y.a y.n y.c) y.n (y.l.map u8) ∧ y.n ≤ 4 ∧ y.s ≤ 18446744073709551615 ∧ -9223372036854775808 ≤ y.z ∧ y.z ≤ 9223372036854775807
theorem OwnChs.nil (w : World) (B : Nat) : OwnChs w B none 0 0 [] := ⟨rfl, own_nil _ _ _ _, fun y hy => by cases hy⟩
theorem OwnChs.chs {w : World} {B n c : Nat} {a : Option Addr} {L : List Ch} (h : OwnChs w B a n c L) : Chs w a n c L :=
  ⟨h.len, Row.of_own h.own, fun k hk => ⟨Bytes.of_own (h.dat k hk).1, by have := (h.dat k hk).2.1; omega, (h.dat k hk).2.2⟩⟩
theorem OwnChs.ext {w w' : World} {B n c : Nat} {a : Option Addr} {L : List Ch} (h : OwnChs w B a n c L) (hx : Ext w w') : OwnChs w' B a n c L :=
  ⟨h.len, own_ext h.own hx, fun k hk => ⟨own_ext (h.dat k hk).1 hx, (h.dat k hk).2⟩⟩
theorem OwnChs.kept {w w' : World} {B n c g : Nat} {a : Option Addr} {L : List Ch} (h : OwnChs w B a n c L) (hg : w.grownBy w' (some g)) (hB : g < B) : OwnChs w' B a n c L :=
  ⟨h.len, own_kept h.own hg hB, fun k hk => ⟨own_kept (h.dat k hk).1 hg hB, (h.dat k hk).2⟩⟩
theorem OwnChs.base {w : World} {B B' n c : Nat} {a : Option Addr} {L : List Ch} (h : OwnChs w B a n c L) (hB : B' ≤ B) : OwnChs w B' a n c L :=
  ⟨h.len, own_base h.own hB, fun k hk => ⟨own_base (h.dat k hk).1 hB, (h.dat k hk).2⟩⟩
theorem OwnChs.push {w w' : World} {B n c c' : Nat} {a a' : Option Addr} {L : List Ch} {y : Ch} (h : OwnChs w B a n c L) (hg : w.grownBy w' (blockOf a)) (ho : w'.ownsRow B 90 3 (.slice a' (n + 1) c') (n + 1) (L.flatMap Ch.cells ++ y.cells))
    (hd : w.ownsRow B 5 1 (.slice y.a y.n y.c) y.n (y.l.map u8)) (hb : y.n ≤ 4 ∧ y.s ≤ 18446744073709551615 ∧ -9223372036854775808 ≤ y.z ∧ y.z ≤ 9223372036854775807) : OwnChs w' B a' (n + 1) c' (L ++ [y]) where
  len := by rw [List.length_append, h.len]; rfl
  own := by rw [List.flatMap_append]; simpa using ho
  dat := by
    intro x hx
    rcases List.mem_append.1 hx with hx | hx
    · exact ⟨own_app_other (h.dat x hx).1 h.own (by decide) hg, (h.dat x hx).2⟩
    · obtain rfl : x = y := by simpa using hx
      exact ⟨own_app_other hd h.own (by decide) hg, hb⟩
theorem OwnChs.other {w w' : World} {B n c g : Nat} {a : Option Addr} {L : List Ch} (h : OwnChs w B a n c L) (hg : w.grownBy w' (some g)) {cs : Array Value} {t : TypeId} {fr : Nat × Nat} (hh : w.heap[g]? = some (.cells cs t fr)) (ht : t ≠ 5) (ha : ∀ b, blockOf a = some b → b ≠ g) : OwnChs w' B a n c L :=
  ⟨h.len, own_other h.own hg (fun e => ha g e rfl), fun k hk => ⟨own_other (h.dat k hk).1 hg (fun e => own_apart (h.dat k hk).1 hh ht e.symm), (h.dat k hk).2⟩⟩
theorem OwnChs.otherT {w w' : World} {B n c g : Nat} {a : Option Addr} {L : List Ch} (h : OwnChs w B a n c L) (hg : w.grownBy w' (some g)) {cs : Array Value} {t : TypeId} {fr : Nat × Nat} (hh : w.heap[g]? = some (.cells cs t fr)) (ht : t ≠ 5) (ht2 : t ≠ 90) : OwnChs w' B a n c L :=
  h.other hg hh ht fun b hb e => own_apart h.own hh ht2 (by rw [hb, e])
/-- What the law's content returns. -/
def ContO (w : World) (g k : Nat) (wrong : Bool) (e : Ending) (w' : World) : Prop :=
  ∃ (S : Int) (ka : Option Addr) (kn kc : Nat) (a : Option Addr) (n c : Nat) (H : List Ch) (ja : Option Addr) (jn jc : Nat) (Ls : List (List UInt8)) (k' : Nat),
    e = .returned (.tuple #[.agg #[.int .i64 S, .slice ka kn kc], .slice a n c, .slice ja jn jc]) ∧ Ls.length = kn ∧ kn ≤ 4 ∧ (∀ l ∈ Ls, Sh l) ∧ (S = sumK (Ls.map idOf) ∨ S = sumK (Ls.map idOf) + 1) ∧
    w'.ownsRow w.heap.size 45 2 (.slice ka kn kc) kn ((Ls.map idOf).flatMap idCells) ∧ OwnChs w' w.heap.size a n c H ∧ n ≤ 4 ∧ (∀ x ∈ H, Sh x.l) ∧ (wrong = false → S = sumK (Ls.map idOf) ∧ Full H Ls) ∧
    w'.ownsRow w.heap.size 5 1 (.slice ja jn jc) jn (Ls.flatten.map u8) ∧ Tape w' g k' ∧ k' ≤ k + 60 ∧ w.grownBy w' (some g)
def C1Rel (w : World) (g k : Nat) (p i : Value) (wr : World) : Prop :=
  ∃ (j n c k1 : Nat) (a : Option Addr) (L : List Bt), i = .int .i64 j ∧ p = .slice a n c ∧ n + j ≤ 4 ∧ OwnBts wr w.heap.size a n c L ∧ (∀ y ∈ L, Sh y.l) ∧ ManAt wr w.heap.size 0 none 0 0 ∧ Tape wr g k1 ∧ k1 + 5 * j ≤ k + 21 ∧ w.grownBy wr (some g)
/-- What stands while the chunks are made. -/
structure CtS (w : World) (g b9 : Nat) (S : Int) (ka : Option Addr) (kn kc : Nat) (K : List (Nat × Int)) (pa : Option Addr) (pc : Nat) (LB : List Bt) (wr : World) : Prop where
  res : ManAt wr w.heap.size 0 none 0 0
  man : ManAt wr b9 S ka kn kc
  ids : wr.ownsRow w.heap.size 45 2 (.slice ka kn kc) kn (K.flatMap idCells)
  bts : OwnBts wr w.heap.size pa kn pc LB
  grw : w.grownBy wr (some g)
  lt : g < w.heap.size
section
variable {w wr w' : World} {g b9 kn kc pc : Nat} {S : Int} {ka pa : Option Addr} {K : List (Nat × Int)} {LB : List Bt}
theorem heap_other {w w' : World} {o : Option Nat} {k : Nat} {x : Obj} (h : w.heap[k]? = some x) (hg : w.grownBy w' o) (hk : o ≠ some k) : w'.heap[k]? = some x := (hg.block k (Array.getElem?_eq_some_iff.1 h).1 (fun e => hk e.symm)).trans h
theorem CtS.ext (h : CtS w g b9 S ka kn kc K pa pc LB wr) (hx : Ext wr w') : CtS w g b9 S ka kn kc K pa pc LB w' :=
  ⟨hx.heap' h.res, hx.heap' h.man, own_ext h.ids hx, h.bts.ext hx, grown_trans' h.grw (grown_extS g hx), h.lt⟩
theorem CtS.tick (h : CtS w g b9 S ka kn kc K pa pc LB wr) (hg : wr.grownBy w' (some g)) (hb : w.heap.size ≤ b9) : CtS w g b9 S ka kn kc K pa pc LB w' :=
  ⟨heap_other h.res hg (fun e => by have := h.lt; cases e; omega), heap_other h.man hg (fun e => by have := h.lt; cases e; omega), own_kept h.ids hg h.lt, h.bts.kept hg h.lt, grown_trans' h.grw hg, h.lt⟩
/-- A block of another type changes. -/
theorem CtS.other (h : CtS w g b9 S ka kn kc K pa pc LB wr) {o : Option Nat} (hg : wr.grownBy w' o) (ho : ∀ b, o = some b → w.heap.size ≤ b ∧ ∃ (cs : Array Value) (fr : Nat × Nat), wr.heap[b]? = some (.cells cs 90 fr)) : CtS w g b9 S ka kn kc K pa pc LB w' := by
  have h1 : ∀ (b : Nat) (cs : Array Value) (t : TypeId) (fr : Nat × Nat), wr.heap[b]? = some (.cells cs t fr) → t ≠ 90 → o ≠ some b := fun b cs t fr hh ht e => by
    obtain ⟨-, cs', fr', h2⟩ := ho b e
    rw [hh] at h2
    simp only [Option.some.injEq, Obj.cells.injEq] at h2
    exact ht h2.2.1
  have h2 : ∀ {B t s n c : Nat} {a : Option Addr} {xs : List Value}, wr.ownsRow B t s (.slice a n c) n xs → t ≠ 90 → w'.ownsRow B t s (.slice a n c) n xs := fun {B t s n c a xs} hh ht => by
    cases hk : o with
    | none => rw [hk] at hg; exact own_ext hh (Ext.of_grown hg)
    | some b =>
      obtain ⟨-, cs', fr', h3⟩ := ho b hk
      rw [hk] at hg
      exact own_other hh hg (fun e => own_apart hh h3 (Ne.symm ht) e.symm)
  refine ⟨heap_other h.res hg (h1 _ _ _ _ h.res (by decide)), heap_other h.man hg (h1 _ _ _ _ h.man (by decide)), h2 h.ids (by decide), ⟨h.bts.len, h2 h.bts.own (by decide), fun y hy => ⟨h2 (h.bts.dat y hy).1 (by decide), (h.bts.dat y hy).2⟩⟩, ?_, h.lt⟩
  exact chg_trans h.grw hg (fun b hb => .inl (ho b hb).1)
theorem CtS.row (h : CtS w g b9 S ka kn kc K pa pc LB wr) : Row wr ka kn kc 2 (K.flatMap idCells) := Row.of_own h.ids
end
def C2J (w : World) (g k b9 : Nat) (S : Int) (ka : Option Addr) (kn kc : Nat) (K : List (Nat × Int)) (pa : Option Addr) (pc : Nat) (LB : List Bt) (wrong : Bool) (l : Value) (wr : World) (j : Nat) : Prop :=
  ∃ (a : Option Addr) (n c k1 : Nat) (H : List Ch), j ≤ kn ∧ l = .slice a n c ∧ n ≤ j ∧ CtS w g b9 S ka kn kc K pa pc LB wr ∧ OwnChs wr w.heap.size a n c H ∧ (∀ x ∈ H, Sh x.l) ∧ (wrong = false → Full H ((LB.map Bt.l).take j)) ∧ Tape wr g k1 ∧ k1 + 7 * (kn - j) ≤ k + 50
def C2Rel (w : World) (g k b9 : Nat) (S : Int) (ka : Option Addr) (kn kc : Nat) (K : List (Nat × Int)) (pa : Option Addr) (pc : Nat) (LB : List Bt) (wrong : Bool) (l i : Value) (wr : World) : Prop :=
  ∃ j : Nat, i = .int .i64 j ∧ C2J w g k b9 S ka kn kc K pa pc LB wrong l wr j
def chC (s : Nat) (z : Int) (a : Option Addr) (n c : Nat) : Array Value := #[.int .u64 s, .int .i64 z, .slice a n c]
/-- The chunk at hand. -/
def MidJ (w : World) (g k b9 : Nat) (S : Int) (ka : Option Addr) (kn kc : Nat) (K : List (Nat × Int)) (pa : Option Addr) (pc : Nat) (LB : List Bt) (wrong : Bool) (a : Option Addr) (n c : Nat) (H : List Ch) (b12 : Nat) (id : Nat × Int) (l0 : List UInt8) (wr : World) : Prop :=
  ∃ (xa : Option Addr) (xn xc k1 : Nat) (xl : List UInt8), wr.heap[b12]? = some (.cells (chC id.1 id.2 xa xn xc) 90 (0, 0)) ∧ wr.ownsRow w.heap.size 5 1 (.slice xa xn xc) xn (xl.map u8) ∧ Sh xl ∧ (wrong = false → xl = l0) ∧
    CtS w g b9 S ka kn kc K pa pc LB wr ∧ OwnChs wr w.heap.size a n c H ∧ Tape wr g k1 ∧ k1 ≤ k
def FinJ (w : World) (g k b9 : Nat) (S : Int) (ka : Option Addr) (kn kc : Nat) (K : List (Nat × Int)) (pa : Option Addr) (pc : Nat) (LB : List Bt) (a : Option Addr) (n c : Nat) (H : List Ch) (wr : World) : Prop :=
  ∃ (S2 : Int) (k1 : Nat), (S2 = S ∨ S2 = S + 1) ∧ CtS w g b9 S2 ka kn kc K pa pc LB wr ∧ OwnChs wr w.heap.size a n c H ∧ Tape wr g k1 ∧ k1 ≤ k
theorem CtS.store {w wr : World} {g b9 kn kc pc : Nat} {S S2 : Int} {ka pa : Option Addr} {K : List (Nat × Int)} {LB : List Bt} (h : CtS w g b9 S ka kn kc K pa pc LB wr) (hb : w.heap.size < b9) : CtS w g b9 S2 ka kn kc K pa pc LB (wr.setCell ⟨b9, 0, none⟩ (.int .i64 S2)) := by
  have hg := grown_setCell' wr b9 0 (.int .i64 S2)
  have h2 : ∀ {B t s n c : Nat} {a : Option Addr} {xs : List Value}, wr.ownsRow B t s (.slice a n c) n xs → t ≠ 60 → (wr.setCell ⟨b9, 0, none⟩ (.int .i64 S2)).ownsRow B t s (.slice a n c) n xs := fun hh ht =>
    own_other hh hg (fun e => own_apart hh h.man (Ne.symm ht) e.symm)
  exact ⟨heap_other h.res hg (fun e => by cases e; omega), heap_setCell_same wr b9 0 _ _ (.int .i64 S2) h.man, h2 h.ids (by decide), ⟨h.bts.len, h2 h.bts.own (by decide), fun y hy => ⟨h2 (h.bts.dat y hy).1 (by decide), (h.bts.dat y hy).2⟩⟩, chg_trans h.grw hg (fun b hb2 => .inl (by cases hb2; omega)), h.lt⟩

set_option maxRecDepth 100000 in
set_option maxHeartbeats 8000000 in
theorem content38_any (g k : Nat) (wrong : Bool) (w : World) (ht : Tape w g k) (hk : k ≤ 1000000000000) :
    Calls Try.prog 29 #[.pointer (some ⟨g, 0, none⟩), .bool wrong] w (ContO w g k wrong) := by
  have hgl := ht.lt
  have hx1 := Ext.alloc' w (.cells #[.int .i64 0, .slice none 0 0] 60)
  have hm1 : ManAt (w.alloc (.cells #[.int .i64 0, .slice none 0 0] 60)) w.heap.size 0 none 0 0 := heap_alloc_new w _
  have HT1 := Lib.hid (ht.ext hx1)
  have HG1 := Lib.hid (grown_extS g hx1)
  have HM1 := Lib.hid hm1
  clear ht hm1
  go_enter Try.func29, Try.ntmps29
  go_upto_region 2 with fail
  generalize w.alloc (.cells #[.int .i64 0, .slice none 0 0] 60) = w1 at hx1 HT1 HG1 HM1 ⊢
  go_wp2_with (first
    | (go_at_call 18; (with_reducible refine (Next_any g k 5 _ HT1.out (by omega) (by omega)).mono ?_); rintro e w2 ⟨u1, rfl, hu1, ht2, hg2⟩; have hu : u1 ≤ 4 := (by unfold Below1 at hu1; omega); have hm2 := heap_other HM1.out hg2 (fun e => by cases e; omega); have hg12 := grown_trans' HG1.out hg2; clear hu1)
    | fail)
  go_loopw [7, 8] (C1Rel w g k) (fun _ i _ => (intOf i).toNat)
  case atStart => exact ⟨u1, 0, 0, k + 1, none, [], rfl, rfl, by omega, OwnBts.nil _ _, (fun y hy => by cases hy), hm2, ht2, by omega, hg12⟩
  case round =>
    obtain ⟨j, n, c, k1, a, L, rfl, rfl, hnj, hO, hS, hm, ht, hkk, hg⟩ := hrel
    rename World => w3
    have HO := Lib.hid hO
    have HS := Lib.hid hS
    have HM := Lib.hid hm
    have HT := Lib.hid ht
    have HG := Lib.hid hg
    have hw3 := hg.size
    clear hO hS hm ht hg ht2 hg2 hm2 hg12
    by_cases hj : 0 < j
    · go_wp2_with (first
        | (go_at_call 34; (with_reducible refine (text38_any g k1 _ HT.out (by omega)).mono ?_); rintro e w4 ⟨a4, n4, c4, k4, l4, rfl, hn1, hn4, hs4, ho4, ht4, hk4, hg4⟩; have HO4 := Lib.hid (HO.out.kept hg4 hgl); have HY4 := Lib.hid (own_base ho4 hw3); have HT4 := Lib.hid ht4; have HS4 := Lib.hid hs4; have HM4 := Lib.hid (show ManAt w4 w.heap.size 0 none 0 0 from heap_other HM.out hg4 (fun e => by cases e; omega)); have HG4 := Lib.hid (grown_trans' HG.out hg4); clear ho4 ht4 hs4 hg4; have hal := Lib.hid (Ext.alloc' w4 (.cells #[.slice a4 n4 c4] 42)); have HO5 := Lib.hid (HO4.out.ext hal.out); have hz5 := Lib.hid (show w.heap.size ≤ (w4.alloc (.cells #[.slice a4 n4 c4] 42)).heap.size from Nat.le_trans HG4.out.size hal.out.size))
        | ((with_reducible refine atSlot 23 ?_); refine wpList_of_wp rfl (owp_app (o := ⟨some 23, _, _, _, _, _⟩) _ _ rfl Try.elBs rfl HO5.out.own rfl (Row.one w4 (.slice a4 n4 c4) 42) (fun q hq => bt_oneCell [⟨a4, n4, c4, []⟩] q (by simpa [Bt.v] using hq)) (by omega) (by unfold maxLen; omega) hz5.out ?_); intro a6 c6 w6 ho6 hg6)
        | fail)
      have hO6 := HO5.out.push (y := ⟨a4, n4, c4, l4⟩) hg6 ho6 (own_ext HY4.out hal.out) (by show n4 ≤ _; omega)
      have hm6 : ManAt w6 w.heap.size 0 none 0 0 := grown_box hg6 HO5.out.own (hal.out.heap' HM4.out) (by decide)
      have hb6 : ∀ b, blockOf a = some b → w.heap.size ≤ b := fun b hb => (own_block HO5.out.own b hb).1
      have ht6 := (HT4.out.ext hal.out).grown hg6 (fun b hb => by have := hb6 b hb; omega)
      have hgg := chg_trans (grown_trans' HG4.out (grown_extS g hal.out)) hg6 (fun b hb => .inl (hb6 b hb))
      have HREL := Lib.hid (show OwnBts w6 w.heap.size a6 (n + 1) c6 (L ++ [⟨a4, n4, c4, l4⟩]) ∧ (∀ y ∈ L ++ [(⟨a4, n4, c4, l4⟩ : Bt)], Sh y.l) ∧ ManAt w6 w.heap.size 0 none 0 0 ∧ Tape w6 g k4 from ⟨hO6, fun y hy => by
        rcases List.mem_append.1 hy with hy | hy
        · exact HS.out y hy
        · rw [List.mem_singleton.1 hy]; exact HS4.out, hm6, ht6⟩)
      have HGG := Lib.hid hgg
      clear hO6 hm6 hb6 ht6 hgg ho6 hg6
      go_roundw
      case rel => exact ⟨j - 1, n + 1, c6, k4, a6, L ++ [⟨a4, n4, c4, l4⟩], by go_num, rfl, by omega, HREL.out.1, HREL.out.2.1, HREL.out.2.2.1, HREL.out.2.2.2, by omega, HGG.out⟩
      case measure => simp [intOf]; omega
    · obtain rfl : j = 0 := by omega
      have hn4 : n ≤ 4 := by omega
      clear hj hnj hu
      have HOF := Lib.hid (refOf25_any a n c L w3 HO.out.bts (by omega) (fun y hy => by have := (HS.out y hy).2.1; omega))
      go_upto_region 7 with (first
        | (go_at_call 43; (with_reducible refine HOF.out.mono ?_); rintro e w4 ⟨ka, kc, rfl, hk4, hx4⟩; have HK4 := Lib.hid hk4; have HX4 := Lib.hid hx4; clear hk4 hx4; have HP := Lib.hid (put_new w4 #[.int .i64 0, .slice none 0 0] #[.int .i64 (sumK (idsOf L)), .slice ka n kc] 60); have HN := Lib.hid (heap_alloc_new w4 (.cells #[.int .i64 0, .slice none 0 0] 60)))
        | ((with_reducible refine atStore 9 ?_); refine wpList_of_wp rfl (wp_store_row (o := ⟨none, _, _, _, _, _⟩) _ _ _ rfl w4.heap.size #[.int .i64 (sumK (idsOf L)), .slice ka n kc] rfl rfl _ _ HN.out (by kernel_rfl) rfl (by simp [Value.oneCell']) ?_))
        | fail)
      obtain ⟨hx5, hh5⟩ := HP.out
      obtain ⟨b9, hbe⟩ : ∃ b9, b9 = w4.heap.size := ⟨_, rfl⟩
      generalize (w4.alloc (.cells #[.int .i64 0, .slice none 0 0] 60)).setRow w4.heap.size #[.int .i64 (sumK (idsOf L)), .slice ka n kc] = w5 at hx5 hh5 ⊢
      rw [← hbe] at hh5 ⊢
      have hx35 := HX4.out.trans' hx5
      have hb9 : w.heap.size < b9 := by have h1 := HX4.out.size; have h2 := (Array.getElem?_eq_some_iff.1 HM.out).1; omega
      obtain ⟨K, hK⟩ : ∃ K, K = idsOf L := ⟨_, rfl⟩
      obtain ⟨S, hS⟩ : ∃ S, S = sumK (idsOf L) := ⟨_, rfl⟩
      have hC5 : CtS w g b9 S ka n kc K a c L w5 := ⟨hx35.heap' HM.out, by rw [hS]; exact hh5, by rw [hK]; exact own_base (own_ext HK4.out hx5) hw3, HO.out.ext hx35, grown_trans' HG.out (grown_extS g hx35), hgl⟩
      rw [← hS]
      have HC5 := Lib.hid hC5
      have HT5 := Lib.hid (HT.out.ext hx35)
      have HSE := Lib.hid hS
      have HKE := Lib.hid hK
      have hkl : K.length = n := by rw [hK]; unfold idsOf; rw [List.length_map, HO.out.len]
      have HKL := Lib.hid hkl
      clear hC5 hS hK hbe hx5 hh5 hx35 HP HN HOF HO HM HT HG hkl HX4 HK4
      go_wp2
      go_loopw [10, 11] (C2Rel w g k b9 S ka n kc K a c L wrong) (fun _ i _ => n - (intOf i).toNat)
      case atStart => exact ⟨0, rfl, none, 0, 0, k1, [], Nat.zero_le _, rfl, Nat.le_refl _, HC5.out, OwnChs.nil _ _, (fun x hx => by cases hx), (fun _ l hl => by simp at hl), HT5.out, by omega⟩
      case round =>
        obtain ⟨j, rfl, la, ln, lc, k2, H, hj, rfl, hlj, hC, hH, hSH, hF, ht, hk2⟩ := hrel
        rename World => w6
        have HC := Lib.hid hC
        have HH := Lib.hid hH
        have HSH := Lib.hid hSH
        have HF := Lib.hid hF
        have HT := Lib.hid ht
        clear hC hH hSH hF ht
        by_cases hjn : j < n
        · obtain ⟨y, hy⟩ : ∃ y, L[j]? = some y := ⟨_, List.getElem?_eq_getElem (by have := HC.out.bts.len; omega)⟩
          have hkj : K[j]? = some (idOf y.l) := by rw [HKE.out]; unfold idsOf; rw [List.getElem?_map, hy]; rfl
          have hyd := HC.out.bts.dat y (List.mem_of_getElem? hy)
          have hyS := HS.out y (List.mem_of_getElem? hy)
          have HY := Lib.hid hy
          have HKJ := Lib.hid hkj
          have HTK := Lib.hid (show (L.map Bt.l).take (j + 1) = (L.map Bt.l).take j ++ [y.l] by rw [List.take_add_one, List.getElem?_map, hy]; rfl)
          have HMI := Lib.hid (fun w' (h : Ext w6 w') => ManAt.ids (h.heap' HC.out.man))
          have HRI := Lib.hid (fun w' (h : Ext w6 w') => HC.out.row.ext h)
          have HRB := Lib.hid (fun w' (h : Ext w6 w') => HC.out.bts.bts.2.1.ext h)
          have E6 := Ext.drew' w6
          have HYD := Lib.hid hyd.1
          have HYS := Lib.hid hyS
          clear hy hkj hyd hyS
          go_upto_region 11 with fail
          refine wp_region_e [11] (.qs [0, 1, 2, 3, 4, 5, 6, 7, 8, 9] (.l 10 (.l 11 .nil))) (by kernel_rfl) (by kernel_rfl) ?_
          ((refine wpY_q rfl rfl _ (fun w' hx' => by go_simp; try rfl) ?_; go_simp))
          refine wpY_q rfl rfl (.slice ka n kc) (fun w' hx' => by have hb' := HMI.out w' hx'; go_simp; try rfl) ?_
          go_simp
          ((refine wpY_q rfl rfl _ (fun w' hx' => by go_simp; try rfl) ?_; go_simp))
          refine wpY_ix rfl rfl (.tmp 33) (.tmp 34) rfl Try.elId rfl HRI.out j rfl rfl hjn ?_
          intro b3 o3 hc3
          have HC3 := Lib.hid hc3
          clear hc3
          refine wpY_ld rfl rfl (.tmp 35) rfl b3 o3 rfl [.int .u64 (idOf y.l).1, .int .i64 (idOf y.l).2] _ (fun w' h => id_range HKJ.out (fun q hq => HC3.out q hq w' h)) Try.underlying45 rfl (by kernel_rfl) ?_
          iterate 2 ((refine wpY_q rfl rfl _ (fun w' hx' => by go_simp; try rfl) ?_; go_simp))
          refine wpY_ix rfl rfl (.tmp 37) (.tmp 38) rfl Try.elBs rfl HRB.out j rfl rfl hjn ?_
          intro b4 o4 hc4
          have HC4 := Lib.hid hc4
          clear hc4
          refine wpY_q rfl rfl (.slice y.a y.n y.c) (fun w' hx' => by have hb' := bt_cell HY.out (fun i hi => HC4.out i hi w' hx'); go_simp; try rfl) ?_
          go_simp
          ((refine wpY_q rfl rfl _ (fun w' hx' => by go_simp; try rfl) ?_; go_simp))
          refine wpY_l rfl rfl ?_
          go_simp
          have hal := (Ext.alloc' w6 (.cells #[.int .u64 0, .int .i64 0, .slice none 0 0] 90)).trans' (Ext.drew' _)
          refine ⟨hal, ?_⟩
          have hh7 : (w6.alloc (.cells #[.int .u64 0, .int .i64 0, .slice none 0 0] 90)).drew.heap[w6.heap.size]? = some (.cells #[.int .u64 0, .int .i64 0, .slice none 0 0] 90 (0, 0)) := heap_alloc_new w6 _
          refine wpY_l rfl rfl (wp_store_row _ _ _ rfl w6.heap.size #[.int .u64 (idOf y.l).1, .int .i64 (idOf y.l).2, .slice y.a y.n y.c] rfl rfl _ _ hh7 (by kernel_rfl) rfl (by simp [Value.oneCell']) ?_)
          refine ⟨fun h => absurd h (by decide), wpY_nil ?_⟩
          have E8 : Ext w6 ((w6.alloc (.cells #[.int .u64 0, .int .i64 0, .slice none 0 0] 90)).drew.setRow w6.heap.size #[.int .u64 (idOf y.l).1, .int .i64 (idOf y.l).2, .slice y.a y.n y.c]) := hal.setRow (Nat.le_refl _)
          have hh8 := setRow_heap _ w6.heap.size _ #[.int .u64 (idOf y.l).1, .int .i64 (idOf y.l).2, .slice y.a y.n y.c] _ _ hh7
          obtain ⟨b12, hb12⟩ : ∃ b12, b12 = w6.heap.size := ⟨_, rfl⟩
          generalize (w6.alloc (.cells #[.int .u64 0, .int .i64 0, .slice none 0 0] 90)).drew.setRow w6.heap.size #[.int .u64 (idOf y.l).1, .int .i64 (idOf y.l).2, .slice y.a y.n y.c] = w8 at E8 hh8 ⊢
          rw [← hb12] at hh8 ⊢
          have hz6 : w.heap.size ≤ w6.heap.size := HC.out.grw.size
          have hb12z : w.heap.size ≤ b12 := by rw [hb12]; exact hz6
          have hlb : ∀ b, blockOf la = some b → b ≠ b12 := fun b hb => by rw [hb12]; exact Nat.ne_of_lt (own_block HH.out.own b hb).2
          have hmid : MidJ w g k2 b9 S ka n kc K a c L wrong la ln lc H b12 (idOf y.l) y.l w8 :=
            ⟨y.a, y.n, y.c, k2, y.l, hh8, own_ext HYD.out E8, HYS.out, fun _ => rfl, HC.out.ext E8, HH.out.ext E8, HT.out.ext E8, Nat.le_refl _⟩
          have HMID := Lib.hid hmid
          clear hmid hh8 E8 hal hh7 hb12 HMI HRI HRB HC HH HT HYD
          cases wrong with
          | false =>
            have hmid := HMID.out
            clear HMID
            have hc := hlb
            rename World => w9
            obtain ⟨xa, xn, xc, k9, xl, hh9, hx9, hs9, he9, hC9, hH9, ht9, hk9⟩ := hmid
            have hrd9 := range_heap (cs := [.int .u64 (idOf y.l).1, .int .i64 (idOf y.l).2, .slice xa xn xc]) hh9
            have hal := Ext.alloc' w9 (.cells #[.int .u64 (idOf y.l).1, .int .i64 (idOf y.l).2, .slice xa xn xc] 90)
            have hH10 := hH9.ext hal
            have hz10 : w.heap.size ≤ (w9.alloc (.cells #[.int .u64 (idOf y.l).1, .int .i64 (idOf y.l).2, .slice xa xn xc] 90)).heap.size := Nat.le_trans hC9.grw.size hal.size
            have hone := ch_oneCell [⟨(idOf y.l).1, (idOf y.l).2, xa, xn, xc, xl⟩]
            have HH10 := Lib.hid hH10
            have HC10 := Lib.hid (hC9.ext hal)
            have HX10 := Lib.hid (own_ext hx9 hal)
            have HT10 := Lib.hid (ht9.ext hal)
            have HE9 := Lib.hid he9
            have hxl := own_len hx9
            have hy4 := HYS.out.2.1
            clear hh9 hx9 hC9 hH9 ht9 he9 hal hH10
            go_wp2_with (first
              | ((with_reducible refine atSlot 59 ?_); refine wpList_of_wp rfl (wp_load_mid (op := ⟨some 59, _, _, _, _, _⟩) 90 _ rfl b12 0 rfl [.int .u64 (idOf y.l).1, .int .i64 (idOf y.l).2, .slice xa xn xc] _ hrd9 Try.underlying90 rfl (by kernel_rfl) ?_); clear hrd9)
              | ((with_reducible refine atSlot 61 ?_); refine wpList_of_wp rfl (owp_app (o := ⟨some 61, _, _, _, _, _⟩) _ _ rfl Try.elCh rfl HH10.out.own rfl (Row.new w9 #[.int .u64 (idOf y.l).1, .int .i64 (idOf y.l).2, .slice xa xn xc] 90 1 3 rfl (by decide)) hone (by omega) (by unfold maxLen; omega) hz10 ?_); intro a11 c11 w11 ho11 hg11)
              | fail)
            have hb11 : ∀ b, blockOf la = some b → w.heap.size ≤ b := fun b hb => (own_block HH10.out.own b hb).1
            have hC11 := HC10.out.other hg11 (fun b hb => ⟨hb11 b hb, (own_heap HH10.out.own hb).imp fun cur hcur => ⟨_, hcur⟩⟩)
            have hH11 := HH10.out.push (y := ⟨(idOf y.l).1, (idOf y.l).2, xa, xn, xc, xl⟩) hg11 ho11 HX10.out ⟨by show xn ≤ 4; have := hs9.2.1; omega, by have := fp_lt y.l; show fp y.l ≤ _; omega, by show (-9223372036854775808 : Int) ≤ (y.l.length : Int); omega, by show (y.l.length : Int) ≤ 9223372036854775807; omega⟩
            have ht11 := HT10.out.grown hg11 (fun b hb => by have := hb11 b hb; omega)
            have hJ : C2J w g k b9 S ka n kc K a c L false (.slice a11 (ln + 1) c11) w11 (j + 1) := by
              refine ⟨a11, ln + 1, c11, k9, _, hjn, rfl, by omega, hC11, hH11, fun x hx => ?_, fun hw => ?_, ht11, by omega⟩
              · rcases List.mem_append.1 hx with hx | hx
                · exact HSH.out x hx
                · rw [List.mem_singleton.1 hx]; exact hs9
              · intro l hl
                rw [HTK.out] at hl
                rcases List.mem_append.1 hl with hl | hl
                · obtain ⟨x, hx, h1⟩ := HF.out hw l hl
                  exact ⟨x, List.mem_append_left _ hx, h1⟩
                · rw [List.mem_singleton.1 hl]
                  exact ⟨_, List.mem_append_right _ (List.mem_singleton.2 rfl), rfl, HE9.out hw⟩
            have HJ := Lib.hid hJ
            clear hJ ht11 hH11 hC11 hb11 ho11 hg11 hone hz10
            go_roundw
            case rel => exact ⟨j + 1, by go_num, HJ.out⟩
            case measure => simp [intOf]; omega
          | true =>
            have hgb : g ≠ b12 := by omega
            obtain ⟨xa, xn, xc, k9, xl, hh9, hx9, hs9, he9, hC9, hH9, ht9, hk9⟩ := HMID.out
            have HH9 := Lib.hid hh9
            have HX9 := Lib.hid hx9
            have HS9 := Lib.hid hs9
            have HC9 := Lib.hid hC9
            have HL9 := Lib.hid hH9
            have HT9 := Lib.hid ht9
            clear hh9 hx9 hs9 hC9 hH9 ht9 HMID
            go_upto_if 47 with (first
              | (go_at_call 18; (with_reducible refine (Next_any g k9 5 _ HT9.out (by omega) (by omega)).mono ?_); rintro e w10 ⟨u10, rfl, hu10, ht10, hg10⟩)
              | fail)
            have hh10 := heap_other HH9.out hg10 (fun e => by cases e; exact hgb rfl)
            have hmid : MidJ w g (k2 + 1) b9 S ka n kc K a c L true la ln lc H b12 (idOf y.l) y.l w10 :=
              ⟨xa, xn, xc, k9 + 1, xl, hh10, own_kept HX9.out hg10 hgl, HS9.out, (fun h => by cases h), HC9.out.tick hg10 (by omega), HL9.out.kept hg10 hgl, ht10, by omega⟩
            have HMID := Lib.hid hmid
            clear hmid hh10 hg10 ht10 HH9 HX9 HS9 HC9 HL9 HT9 he9 hk9
            go_cut [46, 47] from 48 to 50 (fun _ _ w' => MidJ w g (k2 + 6) b9 S ka n kc K a c L true la ln lc H b12 (idOf y.l) y.l w')
            case first =>
              by_cases hu : u10 = 0
              · obtain ⟨q1, q2⟩ := eqI (x := (u10 : Int)) (y := 0) (by omega)
                clear hu hu10
                obtain ⟨xa, xn, xc, k9, xl, hh9, hx9, hs9, he9, hC9, hH9, ht9, hk9⟩ := HMID.out
                have HH9 := Lib.hid hh9
                have HC9 := Lib.hid hC9
                have HL9 := Lib.hid hH9
                have HT9 := Lib.hid ht9
                clear hh9 hx9 hs9 hC9 hH9 ht9 HMID he9
                go_wp2_with (first
                  | (go_at_call 34; (with_reducible refine (text38_any g k9 _ HT9.out (by omega)).mono ?_); rintro e w11 ⟨a11, n11, c11, k11, l11, rfl, hn1, hn4, hs11, ho11, ht11, hk11, hg11⟩; have HO11 := Lib.hid ho11; have HT11 := Lib.hid ht11; have HG11 := Lib.hid hg11; have HS11 := Lib.hid hs11; have HH11 := Lib.hid (heap_other HH9.out hg11 (fun e => by cases e; exact hgb rfl)); clear ho11 ht11 hg11 hs11; have hth := there_box' (i := 2) (m := 1) HH11.out (by show 2 + 1 ≤ 3; decide))
                  | ((with_reducible refine atStore 50 ?_); refine wpList_of_wp rfl (owp_st1 (o := ⟨none, _, _, _, _, _⟩) 42 _ _ rfl b12 2 (.slice a11 n11 c11) rfl rfl rfl hth (by kernel_rfl) rfl ?_))
                  | fail)
                go_meet
                have hgs := grown_setCell' w11 b12 2 (.slice a11 n11 c11)
                have hC11 := (HC9.out.tick HG11.out (by omega)).other hgs (fun b hb => by cases hb; exact ⟨hb12z, _, _, HH11.out⟩)
                refine ⟨a11, n11, c11, k11, l11, heap_setCell_same w11 b12 2 _ _ (.slice a11 n11 c11) HH11.out, ?_, HS11.out, (fun h => by cases h), hC11, (HL9.out.kept HG11.out hgl).other hgs HH11.out (by decide) hlb, HT11.out.grown hgs (fun b hb => by cases hb; omega), by omega⟩
                exact own_base (own_other HO11.out hgs (fun e => own_apart HO11.out HH11.out (by decide) e.symm)) HC9.out.grw.size
              · obtain ⟨q1, q2⟩ := neI (x := (u10 : Int)) (y := 0) (by omega)
                clear hu hu10
                go_wp2
                go_meet
                obtain ⟨xa, xn, xc, k9, xl, hh9, hx9, hs9, he9, hC9, hH9, ht9, hk9⟩ := HMID.out
                exact ⟨xa, xn, xc, k9, xl, hh9, hx9, hs9, he9, hC9, hH9, ht9, by omega⟩
            case rest =>
              rename World => w13
              obtain ⟨xa, xn, xc, k9, xl, hh9, hx9, hs9, he9, hC9, hH9, ht9, hk9⟩ := hcut
              have HH9 := Lib.hid hh9
              have HX9 := Lib.hid hx9
              have HS9 := Lib.hid hs9
              have HC9 := Lib.hid hC9
              have HL9 := Lib.hid hH9
              have HT9 := Lib.hid ht9
              clear hh9 hx9 hs9 hC9 hH9 ht9 HMID
              go_upto_if 57 with (first
                | (go_at_call 18; (with_reducible refine (Next_any g k9 5 _ HT9.out (by omega) (by omega)).mono ?_); rintro e w14 ⟨u14, rfl, hu14, ht14, hg14⟩)
                | fail)
              have hh14 := heap_other HH9.out hg14 (fun e => by cases e; exact hgb rfl)
              have hmid : MidJ w g (k2 + 7) b9 S ka n kc K a c L true la ln lc H b12 (idOf y.l) y.l w14 :=
                ⟨xa, xn, xc, k9 + 1, xl, hh14, own_kept HX9.out hg14 hgl, HS9.out, (fun h => by cases h), HC9.out.tick hg14 (by omega), HL9.out.kept hg14 hgl, ht14, by omega⟩
              have HMID := Lib.hid hmid
              clear hmid hh14 hg14 ht14 HH9 HX9 HS9 HC9 HL9 HT9 he9 hk9
              by_cases hu : u14 = 0
              · subst hu
                clear hu14
                obtain ⟨xa, xn, xc, k9, xl, hh9, hx9, hs9, he9, hC9, hH9, ht9, hk9⟩ := HMID.out
                have HJ := Lib.hid (show C2J w g k b9 S ka n kc K a c L true (.slice la ln lc) w14 (j + 1) from ⟨la, ln, lc, k9, H, hjn, rfl, by omega, hC9, hH9, HSH.out, (fun h => by cases h), ht9, by omega⟩)
                clear hh9 hx9 hs9 hC9 hH9 ht9 he9 HMID
                go_wp2
                go_roundw
                case rel => exact ⟨j + 1, by go_num, HJ.out⟩
                case measure => simp [intOf]; omega
              · have hu0 : 0 < u14 := by omega
                clear hu hu14
                have hmid := HMID.out
                clear HMID
                rename World => w9
                obtain ⟨xa, xn, xc, k9, xl, hh9, hx9, hs9, he9, hC9, hH9, ht9, hk9⟩ := hmid
                have hrd9 := range_heap (cs := [.int .u64 (idOf y.l).1, .int .i64 (idOf y.l).2, .slice xa xn xc]) hh9
                have hal := Ext.alloc' w9 (.cells #[.int .u64 (idOf y.l).1, .int .i64 (idOf y.l).2, .slice xa xn xc] 90)
                have hH10 := hH9.ext hal
                have hz10 : w.heap.size ≤ (w9.alloc (.cells #[.int .u64 (idOf y.l).1, .int .i64 (idOf y.l).2, .slice xa xn xc] 90)).heap.size := Nat.le_trans hC9.grw.size hal.size
                have hone := ch_oneCell [⟨(idOf y.l).1, (idOf y.l).2, xa, xn, xc, xl⟩]
                have HH10 := Lib.hid hH10
                have HC10 := Lib.hid (hC9.ext hal)
                have HX10 := Lib.hid (own_ext hx9 hal)
                have HT10 := Lib.hid (ht9.ext hal)
                have HE9 := Lib.hid he9
                have hxl := own_len hx9
                have hy4 := HYS.out.2.1
                clear hh9 hx9 hC9 hH9 ht9 he9 hal hH10
                go_wp2_with (first
                  | ((with_reducible refine atSlot 59 ?_); refine wpList_of_wp rfl (wp_load_mid (op := ⟨some 59, _, _, _, _, _⟩) 90 _ rfl b12 0 rfl [.int .u64 (idOf y.l).1, .int .i64 (idOf y.l).2, .slice xa xn xc] _ hrd9 Try.underlying90 rfl (by kernel_rfl) ?_); clear hrd9)
                  | ((with_reducible refine atSlot 61 ?_); refine wpList_of_wp rfl (owp_app (o := ⟨some 61, _, _, _, _, _⟩) _ _ rfl Try.elCh rfl HH10.out.own rfl (Row.new w9 #[.int .u64 (idOf y.l).1, .int .i64 (idOf y.l).2, .slice xa xn xc] 90 1 3 rfl (by decide)) hone (by omega) (by unfold maxLen; omega) hz10 ?_); intro a11 c11 w11 ho11 hg11)
                  | fail)
                have hb11 : ∀ b, blockOf la = some b → w.heap.size ≤ b := fun b hb => (own_block HH10.out.own b hb).1
                have hC11 := HC10.out.other hg11 (fun b hb => ⟨hb11 b hb, (own_heap HH10.out.own hb).imp fun cur hcur => ⟨_, hcur⟩⟩)
                have hH11 := HH10.out.push (y := ⟨(idOf y.l).1, (idOf y.l).2, xa, xn, xc, xl⟩) hg11 ho11 HX10.out ⟨by show xn ≤ 4; have := hs9.2.1; omega, by have := fp_lt y.l; show fp y.l ≤ _; omega, by show (-9223372036854775808 : Int) ≤ (y.l.length : Int); omega, by show (y.l.length : Int) ≤ 9223372036854775807; omega⟩
                have ht11 := HT10.out.grown hg11 (fun b hb => by have := hb11 b hb; omega)
                have hJ : C2J w g k b9 S ka n kc K a c L true (.slice a11 (ln + 1) c11) w11 (j + 1) := by
                  refine ⟨a11, ln + 1, c11, k9, _, hjn, rfl, by omega, hC11, hH11, fun x hx => ?_, fun hw => ?_, ht11, by omega⟩
                  · rcases List.mem_append.1 hx with hx | hx
                    · exact HSH.out x hx
                    · rw [List.mem_singleton.1 hx]; exact hs9
                  · intro l hl
                    rw [HTK.out] at hl
                    rcases List.mem_append.1 hl with hl | hl
                    · obtain ⟨x, hx, h1⟩ := HF.out hw l hl
                      exact ⟨x, List.mem_append_left _ hx, h1⟩
                    · rw [List.mem_singleton.1 hl]
                      exact ⟨_, List.mem_append_right _ (List.mem_singleton.2 rfl), rfl, HE9.out hw⟩
                have HJ := Lib.hid hJ
                clear hJ ht11 hH11 hC11 hb11 ho11 hg11 hone hz10
                go_roundw
                case rel => exact ⟨j + 1, by go_num, HJ.out⟩
                case measure => simp [intOf]; omega
        · obtain rfl : j = n := by omega
          have HFI := Lib.hid (show FinJ w g (k + 50) b9 S ka j kc K a c L la ln lc H w6 from ⟨S, k2, .inl rfl, HC.out, HH.out, HT.out, by omega⟩)
          cases wrong with
          | false =>
            have hfin := HFI.out
            have hSe := HFI.out
            have hgo : ∀ S2 : Int, CtS w g b9 S ka j kc K a c L w6 → CtS w g b9 S2 ka j kc K a c L w6 → S2 = S := fun S2 h1 h2 => by
              have h3 := h1.man.symm.trans h2.man
              simp only [manC, Option.some.injEq, Obj.cells.injEq, Array.mk.injEq, List.cons.injEq, Value.int.injEq, true_and, and_true] at h3
              exact h3.symm
            have HGO := Lib.hid (fun S2 h2 => hgo S2 HC.out h2)
            clear HC HH HT HFI hSe hgo hjn hj
            rename World => w9
            obtain ⟨S2, k9, hS2, hC9, hH9, ht9, hk9⟩ := hfin
            have hjo := Joined_any a j c L
            have HC9 := Lib.hid hC9
            have HH9 := Lib.hid hH9
            have HT9 := Lib.hid ht9
            have HS2 := Lib.hid hS2
            have HMR := Lib.hid (fun w' (h : ManAt w' b9 S2 ka j kc) => h.rd)
            have HSW := Lib.hid (show false = false → S2 = S from fun _ => HGO.out S2 HC9.out)
            have HSZ := Lib.hid (show (L.flatMap Bt.l).length ≤ 100000000 by
              have h1 : ∀ (M : List Bt), (∀ y ∈ M, Sh y.l) → (M.flatMap Bt.l).length ≤ 4 * M.length := fun M => by
                induction M with
                | nil => intro _; simp
                | cons y M ih =>
                  intro hM
                  have h2 := (hM y (List.mem_cons_self ..)).2.1
                  have h3 := ih fun z hz => hM z (List.mem_cons_of_mem _ hz)
                  rw [List.flatMap_cons, List.length_append, List.length_cons]
                  omega
              have h4 := h1 L HS.out
              have h5 := HC9.out.bts.len
              omega)
            have E9 := Ext.drew' w9
            clear hS2 hC9 hH9 ht9
            go_upto_region 18 with fail
            refine wp_region_z (fun w' => ManAt w' b9 S2 ka j kc) (E9.heap' HC9.out.man) [] (.qs [0, 1, 2] (.l 3 (.l 4 (.qs [5, 6] .nil)))) (by kernel_rfl) (by kernel_rfl) ?_
            refine wpZ_ld rfl rfl (.tmp 9) rfl b9 0 rfl [.int .i64 S2, .slice ka j kc] _ HMR.out Try.underlying60 rfl (by kernel_rfl) ?_
            go_simp
            iterate 2 ((refine wpZ_q rfl rfl _ (fun w' hx' => by go_simp; try rfl) ?_; go_simp))
            refine wpZ_l rfl rfl ?_
            go_simp
            refine (hjo _ (HC9.out.bts.bts.ext E9) (by omega) HSZ.out).mono ?_
            rintro e w10 ⟨ja, jn, jc, rfl, hj10, hx10⟩
            have E10 := E9.trans' hx10
            refine ⟨E10.heap' HC9.out.man, ?_⟩
            go_simp
            have hr10 : ManAt w10 w.heap.size 0 none 0 0 := E10.heap' HC9.out.res
            refine wpZ_l rfl rfl (wp_store_row _ _ _ rfl w.heap.size #[.int .i64 S2, .slice ka j kc] rfl rfl _ _ hr10 (by kernel_rfl) rfl (by simp [Value.oneCell']) ?_)
            have hgs := grown_setRow w10 w.heap.size #[.int .i64 S2, .slice ka j kc]
            refine ⟨fun _ => heap_other (E10.heap' HC9.out.man) hgs (fun e => by cases e; omega), ?_⟩
            go_simp
            iterate 2 ((refine wpZ_q rfl rfl _ (fun w' hx' => by go_simp; try rfl) ?_; go_simp))
            refine wpZ_nil ?_
            have hF := setRow_heap w10 w.heap.size _ #[.int .i64 S2, .slice ka j kc] _ _ hr10
            have hCX := HC9.out.ext E10
            have hid := own_other hCX.ids hgs (fun e => own_apart hCX.ids hr10 (by decide) e.symm)
            have hch := (HH9.out.ext E10).otherT hgs hr10 (by decide) (by decide)
            have hjo2 := own_other hj10 hgs (fun e => own_apart hj10 hr10 (by decide) e.symm)
            have htp := (HT9.out.ext E10).grown hgs (fun b hb => by cases hb; exact hgl)
            have hgw := chg_trans hCX.grw hgs (fun b hb => .inl (by cases hb; exact Nat.le_refl _))
            have hz9 := HC9.out.grw.size
            have HFIN := Lib.hid (show _ ∧ _ ∧ _ ∧ _ ∧ _ ∧ _ from ⟨hF, hid, hch, hjo2, htp, hgw⟩)
            generalize w10.setRow w.heap.size #[.int .i64 S2, .slice ka j kc] = wF at HFIN ⊢
            clear hF hCX hid hch hjo2 htp hgw hgs hr10 hx10 E10 E9
            go_wp2
            refine bodyPost_ret (results_c2 (ty := 60) rfl _ w.heap.size [.int .i64 S2, .slice ka j kc] _ rfl (range_of_heap2 HFIN.out.1) Try.underlying60 rfl (by kernel_rfl)) rfl ?_
            have hKL : K = (L.map Bt.l).map idOf := by rw [HKE.out, List.map_map]; rfl
            have hSK : S = sumK ((L.map Bt.l).map idOf) := by rw [HSE.out, ← HKE.out, hKL]
            have hll : (L.map Bt.l).length = j := by rw [List.length_map, HC9.out.bts.len]
            refine ⟨S2, ka, j, kc, la, ln, lc, H, ja, jn, jc, L.map Bt.l, k9, rfl, hll, hn4, fun l hl => ?_, by rw [← hSK]; exact HS2.out, by rw [← hKL]; exact HFIN.out.2.1, HFIN.out.2.2.1, by omega, HSH.out, fun hw => ⟨by rw [← hSK]; exact HSW.out (by first | exact hw | trivial | cases hw), ?_⟩, ?_, HFIN.out.2.2.2.2.1, by omega, HFIN.out.2.2.2.2.2⟩
            · obtain ⟨y, hy, rfl⟩ := List.mem_map.1 hl
              exact HS.out y hy
            · have h := HF.out (by first | exact hw | trivial | cases hw)
              rwa [List.take_of_length_le (by rw [hll]; exact Nat.le_refl _)] at h
            · have h := own_base HFIN.out.2.2.2.1 hz9
              rw [← List.flatMap_def]
              exact h
          | true =>
            have HNX := Lib.hid (Next_any g k2 9 _ HT.out (by omega) (by omega))
            clear HFI hjn hj
            go_upto_if 67 with (first
              | (go_at_call 18; (with_reducible refine HNX.out.mono ?_); rintro e w7 ⟨u7, rfl, hu7, ht7, hg7⟩)
              | fail)
            have HC7 := Lib.hid (HC.out.tick hg7 (by omega))
            have HH7 := Lib.hid (HH.out.kept hg7 hgl)
            have HT7 := Lib.hid ht7
            clear HC HH HT hg7 ht7 HNX
            have hsb : 0 ≤ S ∧ S ≤ 819200 := by
              have h1 := sumK_le (K := K) (by rw [HKE.out]; intro q hq; obtain ⟨y, hy, rfl⟩ := List.mem_map.1 hq; exact texts_ids1 (Ls := [y.l]) (fun l hl => by rw [List.mem_singleton.1 hl]; exact HS.out y hy) _ (by simp))
              rw [← HKE.out] at HSE
              rw [HSE.out]
              have h2 := HKL.out
              omega
            go_cut [66, 67] from 68 to 71 (fun _ _ w' => FinJ w g (k + 51) b9 S ka j kc K a c L la ln lc H w')
            case first =>
              have hcz := HC7.out.man.size
              by_cases hu : u7 = 0
              · obtain ⟨q1, q2⟩ := eqI (x := (u7 : Int)) (y := 0) (by omega)
                clear hu hu7
                have hth := there_box' (i := 0) (m := 1) HC7.out.man (by show 0 + 1 ≤ 2; decide)
                have HST := Lib.hid (HC7.out.store (S2 := S + 1) hb9)
                have hgs := grown_setCell' w7 b9 0 (.int .i64 (S + 1))
                have HHS := Lib.hid (HH7.out.otherT hgs HC7.out.man (by decide) (by decide))
                have HTS := Lib.hid (HT7.out.grown hgs (fun b hb => by cases hb; omega))
                have hwr : wrap64 (S + 1) = S + 1 := by unfold wrap64; omega
                clear hgs
                go_wp2_with (first
                  | ((with_reducible refine atStore 71 ?_); refine wpList_of_wp rfl (owp_st1 (o := ⟨none, _, _, _, _, _⟩) 3 _ _ rfl b9 0 (.int .i64 (S + 1)) rfl (by first | rfl | (go_simp; rfl)) rfl hth (by kernel_rfl) rfl ?_))
                  | fail)
                go_meet
                exact ⟨S + 1, k2 + 1, .inr rfl, HST.out, HHS.out, HTS.out, by omega⟩
              · obtain ⟨q1, q2⟩ := neI (x := (u7 : Int)) (y := 0) (by omega)
                clear hu hu7 hcz
                go_wp2
                go_meet
                exact ⟨S, k2 + 1, .inl rfl, HC7.out, HH7.out, HT7.out, by omega⟩
            case rest =>
              have hfin := hcut
              clear HC7 HH7 HT7 hcut
              rename World => w9
              obtain ⟨S2, k9, hS2, hC9, hH9, ht9, hk9⟩ := hfin
              have hjo := Joined_any a j c L
              have HC9 := Lib.hid hC9
              have HH9 := Lib.hid hH9
              have HT9 := Lib.hid ht9
              have HS2 := Lib.hid hS2
              have HMR := Lib.hid (fun w' (h : ManAt w' b9 S2 ka j kc) => h.rd)
              have HSW := Lib.hid (show true = false → S2 = S from fun h => by cases h)
              have HSZ := Lib.hid (show (L.flatMap Bt.l).length ≤ 100000000 by
                have h1 : ∀ (M : List Bt), (∀ y ∈ M, Sh y.l) → (M.flatMap Bt.l).length ≤ 4 * M.length := fun M => by
                  induction M with
                  | nil => intro _; simp
                  | cons y M ih =>
                    intro hM
                    have h2 := (hM y (List.mem_cons_self ..)).2.1
                    have h3 := ih fun z hz => hM z (List.mem_cons_of_mem _ hz)
                    rw [List.flatMap_cons, List.length_append, List.length_cons]
                    omega
                have h4 := h1 L HS.out
                have h5 := HC9.out.bts.len
                omega)
              have E9 := Ext.drew' w9
              clear hS2 hC9 hH9 ht9
              go_upto_region 18 with fail
              refine wp_region_z (fun w' => ManAt w' b9 S2 ka j kc) (E9.heap' HC9.out.man) [] (.qs [0, 1, 2] (.l 3 (.l 4 (.qs [5, 6] .nil)))) (by kernel_rfl) (by kernel_rfl) ?_
              refine wpZ_ld rfl rfl (.tmp 9) rfl b9 0 rfl [.int .i64 S2, .slice ka j kc] _ HMR.out Try.underlying60 rfl (by kernel_rfl) ?_
              go_simp
              iterate 2 ((refine wpZ_q rfl rfl _ (fun w' hx' => by go_simp; try rfl) ?_; go_simp))
              refine wpZ_l rfl rfl ?_
              go_simp
              refine (hjo _ (HC9.out.bts.bts.ext E9) (by omega) HSZ.out).mono ?_
              rintro e w10 ⟨ja, jn, jc, rfl, hj10, hx10⟩
              have E10 := E9.trans' hx10
              refine ⟨E10.heap' HC9.out.man, ?_⟩
              go_simp
              have hr10 : ManAt w10 w.heap.size 0 none 0 0 := E10.heap' HC9.out.res
              refine wpZ_l rfl rfl (wp_store_row _ _ _ rfl w.heap.size #[.int .i64 S2, .slice ka j kc] rfl rfl _ _ hr10 (by kernel_rfl) rfl (by simp [Value.oneCell']) ?_)
              have hgs := grown_setRow w10 w.heap.size #[.int .i64 S2, .slice ka j kc]
              refine ⟨fun _ => heap_other (E10.heap' HC9.out.man) hgs (fun e => by cases e; omega), ?_⟩
              go_simp
              iterate 2 ((refine wpZ_q rfl rfl _ (fun w' hx' => by go_simp; try rfl) ?_; go_simp))
              refine wpZ_nil ?_
              have hF := setRow_heap w10 w.heap.size _ #[.int .i64 S2, .slice ka j kc] _ _ hr10
              have hCX := HC9.out.ext E10
              have hid := own_other hCX.ids hgs (fun e => own_apart hCX.ids hr10 (by decide) e.symm)
              have hch := (HH9.out.ext E10).otherT hgs hr10 (by decide) (by decide)
              have hjo2 := own_other hj10 hgs (fun e => own_apart hj10 hr10 (by decide) e.symm)
              have htp := (HT9.out.ext E10).grown hgs (fun b hb => by cases hb; exact hgl)
              have hgw := chg_trans hCX.grw hgs (fun b hb => .inl (by cases hb; exact Nat.le_refl _))
              have hz9 := HC9.out.grw.size
              have HFIN := Lib.hid (show _ ∧ _ ∧ _ ∧ _ ∧ _ ∧ _ from ⟨hF, hid, hch, hjo2, htp, hgw⟩)
              generalize w10.setRow w.heap.size #[.int .i64 S2, .slice ka j kc] = wF at HFIN ⊢
              clear hF hCX hid hch hjo2 htp hgw hgs hr10 hx10 E10 E9
              go_wp2
              refine bodyPost_ret (results_c2 (ty := 60) rfl _ w.heap.size [.int .i64 S2, .slice ka j kc] _ rfl (range_of_heap2 HFIN.out.1) Try.underlying60 rfl (by kernel_rfl)) rfl ?_
              have hKL : K = (L.map Bt.l).map idOf := by rw [HKE.out, List.map_map]; rfl
              have hSK : S = sumK ((L.map Bt.l).map idOf) := by rw [HSE.out, ← HKE.out, hKL]
              have hll : (L.map Bt.l).length = j := by rw [List.length_map, HC9.out.bts.len]
              refine ⟨S2, ka, j, kc, la, ln, lc, H, ja, jn, jc, L.map Bt.l, k9, rfl, hll, hn4, fun l hl => ?_, by rw [← hSK]; exact HS2.out, by rw [← hKL]; exact HFIN.out.2.1, HFIN.out.2.2.1, by omega, HSH.out, fun hw => ⟨by rw [← hSK]; exact HSW.out (by first | exact hw | trivial | cases hw), ?_⟩, ?_, HFIN.out.2.2.2.2.1, by omega, HFIN.out.2.2.2.2.2⟩
              · obtain ⟨y, hy, rfl⟩ := List.mem_map.1 hl
                exact HS.out y hy
              · have h := HF.out (by first | exact hw | trivial | cases hw)
                rwa [List.take_of_length_le (by rw [hll]; exact Nat.le_refl _)] at h
              · have h := own_base HFIN.out.2.2.2.1 hz9
                rw [← List.flatMap_def]
                exact h
end Go.Proofs.Ytpiodpljiklfkaa
