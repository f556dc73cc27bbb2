/-
  Several texts in one: CacPl, MathV.
-/
import Derived.Test.YtpiodpljiklfkaaCacX
/-
  The law CachePlays.
-/
namespace Go.Proofs.Ytpiodpljiklfkaa
open Go.RowKit

/-- A step leaves what lies elsewhere. -/
theorem duo_is {w : World} {g k c room n cp : Nat} {a : Option Addr} {E : List En} {F : List Nat} (h : Duo w g k c room a n cp E F) :
    Calls Try.prog 33 #[.pointer (some ⟨c, 0, none⟩), .agg #[.int .i64 room, .slice a n cp]] w (NewNone (.bool true) w) := by
  obtain ⟨B1, B2, L, h1, h2, h3, h4, h5, h6, rfl, h8⟩ := h
  exact is38_any B1 B2 c room a n cp L F w h5 h6
def PlJ (w : World) (g c room b5 : Nat) (k : Nat) (a : Option Addr) (n cp : Nat) (E : List En) (F : List Nat) (wr : World) : Prop :=
  Duo wr g k c room a n cp E F ∧ RcB wr b5 room a n cp ∧ Ext w wr ∧ (∀ q ∈ F, w.heap.size ≤ q) ∧ w.heap.size ≤ g ∧ g < b5
theorem PlJ.step {w wr w' : World} {g c room b5 k k' n n' cp cp' : Nat} {a a' : Option Addr} {E E' : List En} {F F' : List Nat} (h : PlJ w g c room b5 k a n cp E F wr) (hD : Duo w' g k' c room a' n' cp' E' F') (hc : Chg (g :: F) wr w') (hF : ∀ j ∈ F', j ∈ F ∨ wr.heap.size ≤ j) :
    RcB w' b5 room a n cp ∧ PlJ w g c room b5 k' a' n' cp' E' F' (w'.setRow b5 #[.int .i64 room, .slice a' n' cp']) := by
  obtain ⟨h1, h2, h3, h4, h5, h6⟩ := h
  have hb := hc.heap h2 (RcB.not h2 h1.typed)
  have hgs := grown_setRow w' b5 #[.int .i64 room, .slice a' n' cp']
  refine ⟨hb, hD.box hb hgs h6 (by decide) (by decide) (by decide) (by decide), setRow_heap w' b5 _ #[.int .i64 room, .slice a' n' cp'] _ _ hb, ?_, fun q hq => ?_, h5, h6⟩
  · exact (ext_chg h3 hc (fun q hq => by rcases List.mem_cons.1 hq with rfl | hq; exact h5; exact h4 q hq)).setRow (by omega)
  · rcases hF q hq with h | h
    · exact h4 q h
    · exact Nat.le_trans h3.size h
theorem PlJ.ext {w wr w' : World} {g c room b5 k n cp : Nat} {a : Option Addr} {E : List En} {F : List Nat} (h : PlJ w g c room b5 k a n cp E F wr) (hx : Ext wr w') : PlJ w g c room b5 k a n cp E F w' :=
  ⟨h.1.ext hx, hx.heap' h.2.1, h.2.2.1.trans' hx, h.2.2.2⟩
theorem PlJ.tick {w wr w' : World} {g c room b5 k k' n cp : Nat} {a : Option Addr} {E : List En} {F : List Nat} (h : PlJ w g c room b5 k a n cp E F wr) (hg : wr.grownBy w' (some g)) (ht : Tape w' g k') : PlJ w g c room b5 k' a n cp E F w' :=
  ⟨h.1.tick hg ht, heap_other h.2.1 hg (fun e => by have := h.2.2.2.2.2; cases e; omega), h.2.2.1.grown hg h.2.2.1.size (fun q hq => by cases hq; exact h.2.2.2.2.1), h.2.2.2⟩
def PlRel (w : World) (g c room b5 : Nat) (i : Value) (wr : World) : Prop :=
  ∃ (j k : Nat) (a : Option Addr) (n cp : Nat) (E : List En) (F : List Nat), i = .int .i64 j ∧ k + 80 * j ≤ 100000 ∧ PlJ w g c room b5 k a n cp E F wr

set_option maxRecDepth 100000 in
set_option maxHeartbeats 8000000 in
theorem CachePlays_walk (a1 : Option Addr) (n1 c1 : Nat) (L1 : List Int) (w : World)
    (hl : Row w a1 n1 c1 1 (L1.map (Value.int .i64))) (hli : ∀ x ∈ L1, -9223372036854775808 ≤ x ∧ x ≤ 9223372036854775807) (ha1 : ∀ p, a1 = some p → 0 < n1 → p.block < w.heap.size) :
    Calls Try.prog 8 #[.slice a1 n1 c1] w (LawPost w) := by
  have ht : Tape (w.alloc (.cells #[.slice a1 n1 c1, .int .i64 0] 39)) w.heap.size 0 :=
    ⟨a1, n1, c1, L1, heap_alloc_new w _, hl.ext (Ext.alloc' _ _), ha1, hli⟩
  have hx1 : Ext w (w.alloc (.cells #[.slice a1 n1 c1, .int .i64 0] 39)) := Ext.alloc' _ _
  have HT := Lib.hid ht
  have HX1 := Lib.hid hx1
  clear ht hx1 hl hli ha1
  go_enter Try.func8, Try.ntmps8
  go_upto_region 2 with fail
  obtain ⟨g, hge⟩ : ∃ g, g = w.heap.size := ⟨_, rfl⟩
  rw [← hge] at HT ⊢
  have HGE := Lib.hid hge
  generalize w.alloc (.cells #[.slice a1 n1 c1, .int .i64 0] 39) = w1 at HT HX1 ⊢
  have hgz : w.heap.size ≤ g := Nat.le_of_eq hge.symm
  clear hge
  have HLV := Lib.hid (show Calls Try.prog 27 #[.pointer (some ⟨g, 0, none⟩), .int .i64 4] w1 (LivO w1 g 0) from lived38_any g 0 4 w1 HT.out (by omega) (by omega))
  go_upto_region 3 with (first
    | (go_at_call 27; (with_reducible refine HLV.out.mono ?_); rintro en w2 ⟨c, room, a, n, cp, E, F, k2, rfl, hD2, hr1, hr14, hk2, hg2, hF2⟩; have HD2 := Lib.hid hD2; have HX2 := Lib.hid (show Ext w w2 from HX1.out.grown hg2 HX1.out.size (fun q hq => by cases hq; exact hgz)); have HF2 := Lib.hid (show ∀ q ∈ F, w.heap.size ≤ q from fun q hq => Nat.le_trans HX1.out.size (hF2 q hq)); clear hD2 hg2 hF2; have HP := Lib.hid (put_new w2 #[.int .i64 0, .slice none 0 0] #[.int .i64 room, .slice a n cp] 28); have HN := Lib.hid (heap_alloc_new w2 (.cells #[.int .i64 0, .slice none 0 0] 28)))
    | ((with_reducible refine atStore 5 ?_); refine wpList_of_wp rfl (wp_store_row (o := ⟨none, _, _, _, _, _⟩) _ _ _ rfl w2.heap.size #[.int .i64 room, .slice a n cp] rfl rfl _ _ HN.out (by kernel_rfl) rfl (by simp [Value.oneCell']) ?_))
    | fail)
  obtain ⟨hx3, hh3⟩ := HP.out
  obtain ⟨b5, hb5⟩ : ∃ b5, b5 = w2.heap.size := ⟨_, rfl⟩
  generalize (w2.alloc (.cells #[.int .i64 0, .slice none 0 0] 28)).setRow w2.heap.size #[.int .i64 room, .slice a n cp] = w3 at hx3 hh3 ⊢
  rw [← hb5] at hh3 ⊢
  have hgb : g < b5 := by rw [hb5]; exact HD2.out.tape.lt
  have HD3 := Lib.hid (HD2.out.ext hx3)
  have HX3 := Lib.hid (HX2.out.trans' hx3)
  have HB3 := Lib.hid (show RcB w3 b5 room a n cp from hh3)
  have HF3 := HF2
  clear hx3 hh3 hb5 HP HN HLV HD2 HX2 HX1 HT
  have HKN := Lib.hid (known38_any w3)
  go_upto_region 5 with (first
    | (go_at_call 14; (with_reducible refine HKN.out.mono ?_); rintro en w4 ⟨rfl, hx4'⟩; have hx4 : Ext w3 w4 := hx4'; clear hx4'; have HD4 := Lib.hid (HD3.out.ext hx4); have HX4 := Lib.hid (HX3.out.trans' hx4); have HB4 := Lib.hid (show RcB w4 b5 room a n cp from hx4.heap' HB3.out); clear hx4)
    | fail)
  have hpj : PlJ w g c room b5 k2 a n cp E F w4 := ⟨HD4.out, HB4.out, HX4.out, HF3.out, hgz, hgb⟩
  have HTN := Lib.hid (Next_any g k2 24 w4 HD4.out.tape (by omega) (by omega))
  have HPJ := Lib.hid hpj
  clear hpj HD3 HX3 HB3 HKN HD4 HX4 HB4 HF2 HF3
  go_wp2_with (first
    | (go_at_call 18; (with_reducible refine HTN.out.mono ?_); rintro e w5 ⟨cn, rfl, hcn, ht5, hg5⟩; have hcn' : cn ≤ 23 := (by unfold Below1 at hcn; omega); have HP5 := Lib.hid (HPJ.out.tick hg5 ht5); clear hcn ht5 hg5)
    | fail)
  go_loopw [6, 7] (fun _ i w' => PlRel w g c room b5 i w') (fun _ i _ => (intOf i).toNat)
  case atStart => exact ⟨cn, k2 + 1, a, n, cp, E, F, rfl, by omega, HP5.out⟩
  case round =>
    obtain ⟨j, k, a, n, cp, E, F, rfl, hk, hpj⟩ := hrel
    rename World => w6
    have HPJ6 := Lib.hid hpj
    have hrd := range_of_heap2 hpj.2.1
    clear hpj HP5 HPJ HTN
    by_cases hj : 0 < j
    · have HST := Lib.hid (step38_any g k c room a n cp E F w6 HPJ6.out.1 (by omega))
      go_upto_region 9 with (first
        | ((with_reducible refine atSlot 32 ?_); refine wpList_of_wp rfl (wp_load_mid (op := ⟨some 32, _, _, _, _, _⟩) 28 _ rfl b5 0 rfl [.int .i64 room, .slice a n cp] _ hrd Try.underlying28 rfl (by kernel_rfl) ?_); clear hrd)
        | (go_at_call 32; (with_reducible refine HST.out.mono ?_); rintro en w7 ⟨a7, n7, cp7, E7, F7, k7, rfl, hD7, hk7, -, hC7, hF7⟩; obtain ⟨hb7, hp8⟩ := HPJ6.out.step hD7 hC7 hF7; have HB7 := Lib.hid hb7; have HP8 := Lib.hid hp8; clear hD7 hC7 hF7 hb7 hp8)
        | ((with_reducible refine atStore 5 ?_); refine wpList_of_wp rfl (wp_store_row (o := ⟨none, _, _, _, _, _⟩) _ _ _ rfl b5 #[.int .i64 room, .slice a7 n7 cp7] rfl rfl _ _ HB7.out (by kernel_rfl) rfl (by simp [Value.oneCell']) ?_))
        | fail)
      generalize w7.setRow b5 #[.int .i64 room, .slice a7 n7 cp7] = w8 at HP8 ⊢
      have hrd8 := range_of_heap2 HP8.out.2.1
      have HIS := Lib.hid (duo_is HP8.out.1)
      go_wp2_with (first
        | ((with_reducible refine atSlot 40 ?_); refine wpList_of_wp rfl (wp_load_mid (op := ⟨some 40, _, _, _, _, _⟩) 28 _ rfl b5 0 rfl [.int .i64 room, .slice a7 n7 cp7] _ hrd8 Try.underlying28 rfl (by kernel_rfl) ?_); clear hrd8)
        | (go_at_call 33; (with_reducible refine HIS.out.mono ?_); rintro en w9 ⟨rfl, hx9⟩; have HP9 := Lib.hid (HP8.out.ext hx9); clear hx9)
        | fail)
      go_roundw
      case rel => exact ⟨j - 1, k7, a7, n7, cp7, E7, F7, by go_num, by omega, HP9.out⟩
      case measure => simp [intOf]; omega
    · obtain rfl : j = 0 := by omega
      have HIS := Lib.hid (duo_is HPJ6.out.1)
      clear hj
      go_wp2_with (first
        | ((with_reducible refine atSlot 45 ?_); refine wpList_of_wp rfl (wp_load_mid (op := ⟨some 45, _, _, _, _, _⟩) 28 _ rfl b5 0 rfl [.int .i64 room, .slice a n cp] _ hrd Try.underlying28 rfl (by kernel_rfl) ?_); clear hrd)
        | (go_at_call 33; (with_reducible refine HIS.out.mono ?_); rintro en w9 ⟨rfl, hx9⟩; have HX9 := Lib.hid (HPJ6.out.2.2.1.trans' hx9); clear hx9)
        | fail)
      go_ret
      exact ⟨rfl, HX9.out⟩
end Go.Proofs.Ytpiodpljiklfkaa
/-
  Plain laws: all chunks used in turn; what Put evicts, in turn.
-/
namespace Go.Proofs.Ytpiodpljiklfkaa
theorem rot_get {E : List En} {j : Nat} {x : En} (hx : E[j]? = some x) : getC (E.drop j ++ E.take j) x.id = (E.drop (j + 1) ++ E.take (j + 1), x.l, true) := by
  have hd : E.drop j = x :: E.drop (j + 1) := by
    obtain ⟨hj, rfl⟩ := List.getElem?_eq_some_iff.1 hx
    exact List.drop_eq_getElem_cons hj
  have hat : atF x.id (E.drop j ++ E.take j) = some 0 := by
    rw [hd, List.cons_append]
    unfold atF
    rw [if_pos rfl]
  unfold getC
  rw [hat]
  simp only
  have h0 : (E.drop j ++ E.take j)[0]? = some x := by rw [hd]; rfl
  rw [h0]
  refine Prod.ext ?_ rfl
  simp only
  unfold useF
  rw [h0]
  simp only
  rw [hd, List.cons_append, List.eraseIdx_cons_zero, List.take_add_one, hx, List.append_assoc]
  rfl
/-- What Put evicts, in the order of use. -/
def Rec (E : List En) (room left : Nat) (G : List En) (i n freed : Nat) : Prop := n ≤ G.length ∧ G.drop n = (evF room (E.drop i) (left - freed)).2 ∧ freed + sizeF (E.drop i) ≤ sizeF E
section
variable {E G : List En} {room left i n freed : Nat} {x : En}
theorem rec_start : Rec E room left (evF room E left).2 0 0 0 := ⟨Nat.zero_le _, rfl, by simp⟩
theorem drop_at' (hx : E[i]? = some x) : E.drop i = x :: E.drop (i + 1) := by
  obtain ⟨hj, rfl⟩ := List.getElem?_eq_some_iff.1 hx
  exact List.drop_eq_getElem_cons hj
theorem rec_pin (h : Rec E room left G i n freed) (hx : E[i]? = some x) (hp : 0 < x.p) : Rec E room left G (i + 1) n freed := by
  obtain ⟨h1, h2, h3⟩ := h
  rw [drop_at' hx] at h2 h3
  refine ⟨h1, ?_, by simp only [sizeF] at h3; omega⟩
  rw [h2]
  by_cases hl : left - freed ≤ room
  · rw [evF_end (.inl hl), evF_end (.inl hl)]
  · rw [evF_keep (by omega) (by omega)]
theorem rec_take (h : Rec E room left G i n freed) (hx : E[i]? = some x) (hp : x.p = 0) (hn : n < G.length) : room < left - freed ∧ G[n]? = some x ∧ Rec E room left G (i + 1) (n + 1) (freed + x.l.length) := by
  obtain ⟨h1, h2, h3⟩ := h
  rw [drop_at' hx] at h2 h3
  have hl : room < left - freed := by
    by_cases hl : left - freed ≤ room
    · rw [evF_end (.inl hl)] at h2
      have := congrArg List.length h2
      rw [List.length_drop] at this
      simp at this
      omega
    · omega
  rw [evF_go hl hp] at h2
  simp only at h2
  have hg : G[n]? = some x := by
    have := congrArg (·[0]?) h2
    simpa using this
  refine ⟨hl, hg, hn, ?_, by simp only [sizeF] at h3; omega⟩
  have := congrArg List.tail h2
  rw [List.tail_drop, List.tail_cons] at this
  rw [this, Nat.sub_sub]
theorem rec_end (h : Rec E room left G i n freed) (hi : E.length ≤ i) : n = G.length := by
  obtain ⟨h1, h2, -⟩ := h
  rw [List.drop_eq_nil_of_le hi, evF_end (.inr rfl)] at h2
  have := congrArg List.length h2
  rw [List.length_drop] at this
  simp at this
  omega
theorem rec_few (h : Rec E room left G i n freed) : freed ≤ sizeF E := by
  have := h.2.2
  omega
end
/-- What Put answers for a text of its own ID. -/
theorem putC_self {room : Nat} {E : List En} {l : List UInt8} (hl : 0 < l.length) : putC room E (idOf l) l = putF room E (idOf l) l := by
  unfold putC
  rw [if_neg]
  rintro (h | h)
  · omega
  · exact h rfl
theorem put_last {room : Nat} {E : List En} {l : List UInt8} (h : (putF room E (idOf l) l).2.2 ≠ 382) : ∃ A x, (putF room E (idOf l) l).1 = A ++ [x] ∧ x.id = idOf l := by
  unfold putF at h ⊢
  cases hat : atF (idOf l) E with
  | some i =>
    obtain ⟨x, hx, hi, -⟩ := atF_some hat
    simp only
    unfold useF
    rw [hx]
    exact ⟨_, x, rfl, hi⟩
  | none =>
    rw [hat] at h
    simp only at h ⊢
    by_cases hr : room < pinF E + l.length
    · rw [if_pos hr] at h; exact absurd rfl h
    · rw [if_neg hr]
      exact ⟨_, _, rfl, rfl⟩
end Go.Proofs.Ytpiodpljiklfkaa
