/-
  Several texts in one: CacX, CacY, CacZ.
-/
import Derived.Test.YtpiodpljiklfkaaCacW
import Derived.Test.YtpiodpljiklfkaaRefM
import Derived.Test.YtpiodpljiklfkaaCacD
import Derived.Test.YtpiodpljiklfkaaCacM
import Derived.Test.YtpiodpljiklfkaaRefJ
import Derived.Test.YtpiodpljiklfkaaCacK
import Derived.Test.YtpiodpljiklfkaaCacL
/-
  The law's step: one call of both.
-/
namespace Go.Proofs.Ytpiodpljiklfkaa
open Go.RowKit
theorem wpZ_conv {P : Program} {ops : Array Oper} {R : World → Prop} {fr : List Nat} {Q : Act → World → Prop} {k : Nat} {L : XP} {a : Act} {w : World} {o : Oper} (ho : ops[k]? = some o) (hw : Region.wanted o (yielded ops a.tmps) = true) (xO : Operand) {src dst : TypeId}
    (hop : o.op = .convert src dst xO) {p : Option Addr} {n c : Nat} {l : List UInt8} (hx : a.eval xO = .slice p n c) (hb : ∀ w', R w' → Bytes w' p n c l) {e : TypeId} (hs : P.underlying src = some (.slice e)) (he : P.underlying e = some (.int .u8)) (hd : P.underlying dst = some .string)
    (h : wpZ P ops R fr Q L (a.put o.dst (.string ⟨l.toArray⟩)) w) : wpZ P ops R fr Q (.q k L) a w :=
  wpZ_q ho hw _ (fun w' hx' => by
    unfold execOp
    simp only [hop, hx, (hb w' hx').conv src e dst hs he hd, Sem.run_bind, Sem.run_pure, Result.andThen_ok]) h
/-- Blocks that a cache and a tape may change. -/
def TypedG (w : World) (G : List Nat) : Prop := ∀ k ∈ G, ∀ (cs : Array Value) (t : TypeId) (fr : Nat × Nat), w.heap[k]? = some (.cells cs t fr) → t = 81 ∨ t = 79 ∨ t = 39
section
variable {w w' : World} {G : List Nat}
theorem own_chgG {B t s n c : Nat} {a : Option Addr} {xs : List Value} (h : w.ownsRow B t s (.slice a n c) n xs) (hc : Chg G w w') (hT : TypedG w G) (h1 : t ≠ 81) (h2 : t ≠ 79) (h3 : t ≠ 39) : w'.ownsRow B t s (.slice a n c) n xs :=
  own_chgT h hc fun k hk cs t' fr hh => by
    rcases hT k hk cs t' fr hh with e | e | e
    · rw [e]; exact Ne.symm h1
    · rw [e]; exact Ne.symm h2
    · rw [e]; exact Ne.symm h3
theorem Ca.chgG {B c m e room : Nat} {N : Nat → Nd} {L : List Nat} (h : Ca w B c m e room N L) (hc : Chg G w w') (hT : TypedG w G) (hF : ∀ k ∈ c :: m :: e :: L, k ∉ G) : Ca w' B c m e room N L where
  box := h.box.chg hc (hF c (by simp))
  nodes k hk := (h.nodes k hk).chg hc (hF k (by rcases List.mem_cons.1 hk with rfl | hk <;> simp [*]))
  ring := h.ring
  nodup := h.nodup
  map := h.map.chg hc (hF m (by simp))
  data k hk := own_chgG (h.data k hk) hc hT (by decide) (by decide) (by decide)
  base := h.base
  ok := h.ok
  max := h.max
theorem Cac.chgG {B c room : Nat} {E : List En} {F : List Nat} (h : Cac w B c room E F) (hc : Chg G w w') (hT : TypedG w G) (hF : ∀ k ∈ F, k ∉ G) : Cac w' B c room E F := by
  obtain ⟨m, e, N, L, h1, h2, rfl⟩ := h
  exact ⟨m, e, N, L, h1.chgG hc hT hF, h2, rfl⟩
theorem Rc.chgG {B room n c : Nat} {a : Option Addr} {L : List Re} (h : Rc w B room a n c L) (hc : Chg G w w') (hT : TypedG w G) : Rc w' B room a n c L :=
  ⟨own_chgG h.own hc hT (by decide) (by decide) (by decide), fun k hk => own_chgG (h.data k hk) hc hT (by decide) (by decide) (by decide), h.ok, h.max⟩
end
theorem Tape.typed {w : World} {g k : Nat} (h : Tape w g k) {F : List Nat} (hF : Typed w F) : TypedG w (g :: F) := fun j hj cs t fr hh => by
  rcases List.mem_cons.1 hj with rfl | hj
  · obtain ⟨a, n, c, L, h1, -⟩ := h
    rw [h1] at hh
    simp only [Option.some.injEq, Obj.cells.injEq] at hh
    exact .inr (.inr hh.2.1.symm)
  · rcases hF j hj cs t fr hh with h | h
    · exact .inl h
    · exact .inr (.inl h)
/-- A cache and its twin, with a tape. -/
def Duo (w : World) (g k c room : Nat) (a : Option Addr) (n cp : Nat) (E : List En) (F : List Nat) : Prop :=
  ∃ (B1 B2 : Nat) (L : List Re), Tape w g k ∧ g < B1 ∧ g < B2 ∧ B2 ≤ w.heap.size ∧ Cac w B1 c room E F ∧ Rc w B2 room a n cp L ∧ L.map Re.en = E ∧ ShE E
/-- What a step answers. -/
def StepO (w : World) (g k c room : Nat) (E : List En) (F : List Nat) (en : Ending) (w' : World) : Prop :=
  ∃ (a : Option Addr) (n cp : Nat) (E' : List En) (F' : List Nat) (k' : Nat), en = .returned (.tuple #[.agg #[.int .i64 room, .slice a n cp], .bool true]) ∧ Duo w' g k' c room a n cp E' F' ∧ k' ≤ k + 80 ∧ Keeps E E' ∧ Chg (g :: F) w w' ∧ ∀ j ∈ F', j ∈ F ∨ w.heap.size ≤ j
/-- Within a step: the program's cache may be ahead of its twin. -/
def Mid (w : World) (g k c room : Nat) (a : Option Addr) (n cp : Nat) (L : List Re) (F : List Nat) (B1 B2 : Nat) (E1 : List En) (F1 : List Nat) (wr : World) : Prop :=
  Tape wr g k ∧ Cac wr B1 c room E1 F1 ∧ Rc wr B2 room a n cp L ∧ wr.heap[w.heap.size]? = some (.cells #[.int .i64 room, .slice a n cp] 28 (0, 0)) ∧
    wr.heap[w.heap.size + 1]? = some (.cells #[.int .i64 0, .slice none 0 0] 28 (0, 0)) ∧ Chg (g :: F) w wr ∧ (∀ j ∈ F1, j ∈ F ∨ w.heap.size ≤ j) ∧ g < B1 ∧ g < B2 ∧ B2 ≤ w.heap.size ∧ g < w.heap.size
section
variable {w wr w' : World} {g k k' c room n cp B1 B2 : Nat} {a : Option Addr} {L : List Re} {E1 E2 : List En} {F F1 : List Nat}
theorem Mid.ext (h : Mid w g k c room a n cp L F B1 B2 E1 F1 wr) (hx : Ext wr w') : Mid w g k c room a n cp L F B1 B2 E1 F1 w' := by
  obtain ⟨h1, h2, h3, h4, h5, h6, h7, h8⟩ := h
  exact ⟨h1.ext hx, h2.ext hx, h3.ext hx, hx.heap' h4, hx.heap' h5, h6.trans' (Chg.of_ext hx), h7, h8⟩
theorem Mid.tick (h : Mid w g k c room a n cp L F B1 B2 E1 F1 wr) (hg : wr.grownBy w' (some g)) (ht : Tape w' g k') : Mid w g k' c room a n cp L F B1 B2 E1 F1 w' := by
  obtain ⟨h1, h2, h3, h4, h5, h6, h7, h8, h9, h10, h11⟩ := h
  exact ⟨ht, h2.tick hg h8, h3.tick hg h9, heap_other h4 hg (fun e => by cases e; omega), heap_other h5 hg (fun e => by cases e; omega), h6.trans' (Chg.of_grown hg (List.mem_cons_self ..)), h7, h8, h9, h10, h11⟩
theorem Mid.tape (h : Mid w g k c room a n cp L F B1 B2 E1 F1 wr) : Tape wr g k := h.1
theorem Mid.typed (h : Mid w g k c room a n cp L F B1 B2 E1 F1 wr) : TypedG wr (g :: F1) := h.1.typed h.2.1.typed
theorem Mid.prog (h : Mid w g k c room a n cp L F B1 B2 E1 F1 wr) (hp : CacTo wr B1 c room F1 E2 w') : (∃ F2, Mid w g k c room a n cp L F B1 B2 E2 F2 w') ∧ Chg F1 wr w' ∧ Typed wr F1 := by
  obtain ⟨h1, h2, h3, h4, h5, h6, h7, h8, h9, h10, h11⟩ := h
  obtain ⟨F2, q1, q2, q3⟩ := hp
  have hT := h2.typed
  have hz := h6.size
  refine ⟨⟨F2, h1.chg q2 h2.base h8, q1, h3.chg q2 hT, q2.heap h4 fun hm => ?_, q2.heap h5 fun hm => ?_, h6.trans2 q2 (fun j hj => ?_), fun j hj => ?_, h8, h9, h10, h11⟩, q2, hT⟩
  · rcases hT _ hm _ _ _ h4 with e | e <;> exact absurd e (by decide)
  · rcases hT _ hm _ _ _ h5 with e | e <;> exact absurd e (by decide)
  · rcases h7 j hj with h | h
    · exact .inl (List.mem_cons_of_mem _ h)
    · exact .inr h
  · rcases q3 j hj with h | h
    · exact h7 j h
    · exact .inr (by omega)
theorem Mid.box {b : Nat} {cs : Array Value} {t : TypeId} {fr : Nat × Nat} (h : Mid w g k c room a n cp L F B1 B2 E1 F1 wr) (hh : wr.heap[b]? = some (.cells cs t fr)) (hg : wr.grownBy w' (some b)) (hb : w.heap.size ≤ b) (hb1 : b ≠ w.heap.size) (hb2 : b ≠ w.heap.size + 1)
    (t1 : t ≠ 81) (t2 : t ≠ 79) (t3 : t ≠ 5) (t4 : t ≠ 106) : Mid w g k c room a n cp L F B1 B2 E1 F1 w' := by
  obtain ⟨h1, h2, h3, h4, h5, h6, h7, h8, h9, h10, h11⟩ := h
  have hc : Chg [b] wr w' := Chg.of_grown hg (List.mem_singleton.2 rfl)
  have hn : ∀ j ∈ F1, j ∉ [b] := fun j hj hm => by
    rw [List.mem_singleton] at hm
    subst hm
    rcases h2.typed _ hj _ _ _ hh with e | e
    · exact t1 e
    · exact t2 e
  obtain ⟨m, e, N, LN, hC, hE, rfl⟩ := h2
  refine ⟨h1.grown hg (fun j hj => by cases hj; omega), ⟨m, e, N, LN, ?_, hE, rfl⟩, ?_, heap_other h4 hg (fun e => hb1 (by cases e; rfl)), heap_other h5 hg (fun e => hb2 (by cases e; rfl)), h6.trans2 hc (fun j hj => .inr (by rw [List.mem_singleton.1 hj]; omega)), h7, h8, h9, h10, h11⟩
  · exact { box := hC.box.chg hc (hn c (by simp))
            nodes := fun j hj => (hC.nodes j hj).chg hc (hn j (by rcases List.mem_cons.1 hj with rfl | hj <;> simp [*]))
            ring := hC.ring
            nodup := hC.nodup
            map := hC.map.chg hc (hn m (by simp))
            data := fun j hj => own_chgT (hC.data j hj) hc (one_type hh t3)
            base := hC.base
            ok := hC.ok
            max := hC.max }
  · exact ⟨own_chgT h3.own hc (one_type hh t4), fun q hq => own_chgT (h3.data q hq) hc (one_type hh t3), h3.ok, h3.max⟩
theorem Mid.fin {a' : Option Addr} {n' cp' : Nat} {L' : List Re} (h : Mid w g k c room a n cp L F B1 B2 E1 F1 wr) (hr : Rc wr B2 room a' n' cp' L') (he : L'.map Re.en = E1) (hs : ShE E1) :
    Duo (wr.setRow (w.heap.size + 1) #[.int .i64 room, .slice a' n' cp']) g k c room a' n' cp' E1 F1 ∧ Chg (g :: F) w (wr.setRow (w.heap.size + 1) #[.int .i64 room, .slice a' n' cp']) ∧ ∀ j ∈ F1, j ∈ F ∨ w.heap.size ≤ j := by
  obtain ⟨h1, h2, h3, h4, h5, h6, h7, h8, h9, h10, h11⟩ := h
  have hg := grown_setRow wr (w.heap.size + 1) #[.int .i64 room, .slice a' n' cp']
  have hc : Chg [w.heap.size + 1] wr (wr.setRow (w.heap.size + 1) #[.int .i64 room, .slice a' n' cp']) := Chg.of_grown hg (List.mem_singleton.2 rfl)
  have hn : ∀ j ∈ F1, j ∉ [w.heap.size + 1] := fun j hj hm => by
    rw [List.mem_singleton] at hm
    subst hm
    rcases h2.typed _ hj _ _ _ h5 with e | e <;> exact absurd e (by decide)
  obtain ⟨m, e, N, LN, hC, hE, rfl⟩ := h2
  refine ⟨⟨B1, B2, L', h1.grown hg (fun b hb => by cases hb; omega), h8, h9, Nat.le_trans (Nat.le_trans h10 h6.size) hc.size, ⟨m, e, N, LN, ?_, hE, rfl⟩, ?_, he, hs⟩, h6.trans2 hc (fun j hj => .inr (by rw [List.mem_singleton.1 hj]; omega)), h7⟩
  · exact { box := hC.box.chg hc (hn c (by simp))
            nodes := fun j hj => (hC.nodes j hj).chg hc (hn j (by rcases List.mem_cons.1 hj with rfl | hj <;> simp [*]))
            ring := hC.ring
            nodup := hC.nodup
            map := hC.map.chg hc (hn m (by simp))
            data := fun j hj => own_chgT (hC.data j hj) hc (one_type h5 (by decide))
            base := hC.base
            ok := hC.ok
            max := hC.max }
  · exact ⟨own_chgT hr.own hc (one_type h5 (by decide)), fun q hq => own_chgT (hr.data q hq) hc (one_type h5 (by decide)), hr.ok, hr.max⟩
end
/-- What Put is called with. -/
def PutS (w : World) (g k c room : Nat) (a : Option Addr) (n cp : Nat) (L : List Re) (F : List Nat) (B1 B2 b9 B : Nat) (b8 : Value) (wr : World) : Prop :=
  ∃ (s : Nat) (z : Int) (xa : Option Addr) (xn xc : Nat) (xl : List UInt8), b8 = .slice xa xn xc ∧ s ≤ 18446744073709551615 ∧ (-9223372036854775808 ≤ z ∧ z ≤ 9223372036854775807) ∧ IdBox wr b9 s z ∧ wr.ownsRow B 5 1 (.slice xa xn xc) xn (xl.map u8) ∧ (Sh xl ∨ xl = []) ∧ xn ≤ 4 ∧ Mid w g k c room a n cp L F B1 B2 (L.map Re.en) F wr
theorem evF_few (room : Nat) : ∀ (E : List En) (left : Nat), (evF room E left).2.length ≤ E.length
  | [], _ => Nat.le_refl _
  | x :: E, left => by
    unfold evF
    split
    · exact Nat.zero_le _
    · split
      · have := evF_few room E (left - x.l.length)
        simp only [List.length_cons]
        omega
      · have := evF_few room E left
        simp only [List.length_cons]
        omega
theorem gone_few (room : Nat) (E : List En) (k : Nat × Int) (l : List UInt8) : (putC room E k l).2.1.length ≤ E.length := by
  unfold putC
  split
  · exact Nat.zero_le _
  · unfold putF
    split
    · exact Nat.zero_le _
    · split
      · exact Nat.zero_le _
      · rw [List.length_map]
        exact evF_few _ _ _

set_option maxRecDepth 100000 in
set_option maxHeartbeats 16000000 in
theorem step38_any (g k c room : Nat) (a : Option Addr) (n cp : Nat) (E : List En) (F : List Nat) (w : World) (h : Duo w g k c room a n cp E F) (hk : k ≤ 100000000000) :
    Calls Try.prog 32 #[.pointer (some ⟨g, 0, none⟩), .pointer (some ⟨c, 0, none⟩), .agg #[.int .i64 room, .slice a n cp]] w (StepO w g k c room E F) := by
  obtain ⟨B1, B2, L, ht, hb1, hb2, hb3, hC, hR, rfl, hS⟩ := h
  have hx1 := boxed2_ext w room a n cp
  have hgl := ht.lt
  have HM := Lib.hid (show Mid w g k c room a n cp L F B1 B2 (L.map Re.en) F (boxed2 w room a n cp) from ⟨ht.ext hx1, hC.ext hx1, hR.ext hx1, boxed2_one w room a n cp, boxed2_two w room a n cp, Chg.of_ext hx1, fun j hj => .inl hj, hb1, hb2, hb3, hgl⟩)
  have HS := Lib.hid hS
  have HOK := Lib.hid hC.ok
  have hz1 := hx1.size
  clear ht hC hR hx1 hS
  go_enter Try.func32, Try.ntmps32
  go_upto_region 1 with fail
  change Code.wp _ _ _ _ (boxed2 w room a n cp)
  generalize boxed2 w room a n cp = w1 at HM hz1 ⊢
  go_upto_region 2 with (first
    | (go_at_call 34; (with_reducible refine (text38_any g k _ HM.out.tape (by omega)).mono ?_); rintro e w2 ⟨ba, bn, bc, k2, bl, rfl, hn1, hn4, hsl, hb2', ht2, hk2, hg2⟩)
    | fail)
  have HM2 := Lib.hid (HM.out.tick hg2 ht2)
  have HB2 := Lib.hid hb2'
  have HSL := Lib.hid hsl
  have hz2 := hg2.size
  have hbl := own_len hb2'
  clear hb2' ht2 hg2 hsl HM
  have HOF := Lib.hid (Of_any ba bn bc bl w2 (Bytes.of_own HB2.out) (by omega))
  go_upto_region 3 with (first
    | (go_at_call 19; (with_reducible refine HOF.out.mono ?_); rintro e w3 ⟨rfl, hx3⟩; have HP := Lib.hid (put_new w3 #[.int .u64 0, .int .i64 0] #[.int .u64 (fp bl : Nat), .int .i64 bn] 45); have HN := Lib.hid (heap_alloc_new w3 (.cells #[.int .u64 0, .int .i64 0] 45)))
    | ((with_reducible refine atStore 9 ?_); refine wpList_of_wp rfl (wp_store_row (o := ⟨none, _, _, _, _, _⟩) _ _ _ rfl w3.heap.size #[.int .u64 (fp bl : Nat), .int .i64 bn] rfl rfl _ _ HN.out (by kernel_rfl) rfl (by simp [Value.oneCell']) ?_))
    | fail)
  obtain ⟨hx4, hh4⟩ := HP.out
  obtain ⟨b9, hbe⟩ : ∃ b9, b9 = w3.heap.size := ⟨_, rfl⟩
  generalize (w3.alloc (.cells #[.int .u64 0, .int .i64 0] 45)).setRow w3.heap.size #[.int .u64 (fp bl : Nat), .int .i64 bn] = w4 at hx4 hh4 ⊢
  rw [← hbe] at hh4 ⊢
  have hb9 : w.heap.size + 1 < b9 := by
    have h1 := (Array.getElem?_eq_some_iff.1 HM2.out.2.2.2.2.1).1
    have h2 := hx3.size
    omega
  have HI4 := Lib.hid (show IdBox w4 b9 (fp bl) (bn : Int) from hh4)
  have HM4 := Lib.hid (HM2.out.ext (hx3.trans' hx4))
  have HB4 := Lib.hid (own_ext HB2.out (hx3.trans' hx4))
  clear hx3 hx4 hh4 HP HN HOF HM2 HB2 hbe
  go_upto_region 4 with (first
    | (go_at_call 18; (with_reducible refine (Next_any g k2 10 _ HM4.out.tape (by omega) (by omega)).mono ?_); rintro e w5 ⟨u, rfl, hu, ht5, hg5⟩)
    | fail)
  have hu9 : u ≤ 9 := by unfold Below1 at hu; omega
  have HM5 := Lib.hid (HM4.out.tick hg5 ht5)
  have HI5 := Lib.hid (show IdBox w5 b9 (fp bl) (bn : Int) from heap_other HI4.out hg5 (fun e => by cases e; omega))
  have HB5 := Lib.hid (own_kept HB4.out hg5 (by omega))
  clear hu ht5 hg5 HM4 HI4 HB4
  have HT5 := Lib.hid HM5.out.tape
  go_upto_if 40 with fail
  go_cut [40] from 41 to 44 (fun v w' => v = .bool (decide (u ≤ 3)) ∧ w' = w5)
  case first =>
    rcases (by omega : u = 0 ∨ u = 1 ∨ u = 2 ∨ u = 3 ∨ 4 ≤ u) with hv | hv | hv | hv | hv
    · subst hv
      go_wp2
      go_meet
      exact ⟨rfl, rfl⟩
    · subst hv
      go_wp2
      go_meet
      exact ⟨rfl, rfl⟩
    · subst hv
      go_wp2
      go_meet
      exact ⟨rfl, rfl⟩
    · subst hv
      go_wp2
      go_meet
      exact ⟨rfl, rfl⟩
    · have q0 := (neI (x := (u : Int)) (y := 0) (by omega)).1
      have q1 := (neI (x := (u : Int)) (y := 1) (by omega)).1
      have q2 := (neI (x := (u : Int)) (y := 2) (by omega)).1
      have q3 := (neI (x := (u : Int)) (y := 3) (by omega)).1
      go_wp2
      go_meet
      exact ⟨by rw [decide_eq_false (by omega)], rfl⟩
  case rest =>
    obtain ⟨rfl, rfl⟩ := hcut
    rename World => w5
    by_cases hu3 : u ≤ 3
    · have hd : decide (u ≤ 3) = true := decide_eq_true hu3
      rw [hd]
      clear hu3 hd
      go_upto_if 47 with (first
        | (go_at_call 18; (with_reducible refine (Next_any g (k2 + 1) 8 _ HT5.out (by omega) (by omega)).mono ?_); rintro e w6 ⟨u6, rfl, hu6, ht6, hg6⟩)
        | fail)
      have HM6 := Lib.hid (HM5.out.tick hg6 ht6)
      have HI6 := Lib.hid (show IdBox w6 b9 (fp bl) (bn : Int) from heap_other HI5.out hg6 (fun e => by cases e; omega))
      have HB6 := Lib.hid (own_kept HB5.out hg6 (by omega))
      clear ht6 hg6 hu6 HM5 HI5 HB5 HT5
      go_cut [46, 47] from 48 to 51 (fun _ _ w' => ∃ s, s ≤ 18446744073709551615 ∧ IdBox w' b9 s bn ∧ w'.ownsRow w1.heap.size 5 1 (.slice ba bn bc) bn (bl.map Proofs.Ytpiodpljiklfkaa.u8) ∧ Mid w g (k2 + 2) c room a n cp L F B1 B2 (L.map Re.en) F w')
      case first =>
        by_cases hv : u6 = 0
        · obtain ⟨q1, q2⟩ := eqI (x := (u6 : Int)) (y := 0) (by omega)
          clear hv
          have hcl := cell_of_row w6 b9 0 _ _ _ HI6.out
          have hth := there_box' (i := 0) (m := 1) HI6.out (by show 0 + 1 ≤ 2; decide)
          obtain ⟨s, hs⟩ : ∃ s : Nat, (s : Int) = IntKind.u64.wrap (((fp bl : Nat) : Int) + 1) ∧ s ≤ 18446744073709551615 := by
            refine ⟨fp bl + 1, ?_, ?_⟩
            · rw [IntKind.wrap_u64]
              have := fp_lt bl
              omega
            · have := fp_lt bl
              omega
          have HST := Lib.hid (show IdBox (w6.setCell ⟨b9, 0, none⟩ (.int .u64 s)) b9 s bn from heap_setCell_same w6 b9 0 _ _ (.int .u64 s) HI6.out)
          have hgs := grown_setCell' w6 b9 0 (.int .u64 s)
          have HMS := Lib.hid (HM6.out.box HI6.out hgs (by omega) (by omega) (by omega) (by decide) (by decide) (by decide) (by decide))
          have HBS := Lib.hid (own_other HB6.out hgs (fun e => own_apart HB6.out HI6.out (by decide) e.symm))
          have HSE := Lib.hid hs.1
          have hs2 := hs.2
          clear hgs hs
          go_wp2_with (first
            | ((with_reducible refine atStore 51 ?_); refine wpList_of_wp rfl (owp_st1 (o := ⟨none, _, _, _, _, _⟩) 43 _ _ rfl b9 0 (.int .u64 s) rfl (by rw [HSE.out]; first | rfl | (go_simp; rfl)) rfl hth (by kernel_rfl) rfl ?_))
            | fail)
          go_meet
          exact ⟨s, hs2, HST.out, HBS.out, HMS.out⟩
        · obtain ⟨q1, q2⟩ := neI (x := (u6 : Int)) (y := 0) (by omega)
          clear hv
          go_wp2
          go_meet
          exact ⟨fp bl, by have := fp_lt bl; omega, HI6.out, HB6.out, HM6.out⟩
      case rest =>
      rename World => w7
      obtain ⟨s, hs, hi7, hb7, hm7⟩ := hcut
      have HI7 := Lib.hid hi7
      have HB7 := Lib.hid hb7
      have HM7 := Lib.hid hm7
      have HT7 := Lib.hid hm7.tape
      clear hi7 hb7 hm7 HM6 HI6 HB6
      go_upto_if 54 with (first
        | (go_at_call 18; (with_reducible refine (Next_any g (k2 + 2) 12 _ HT7.out (by omega) (by omega)).mono ?_); rintro e w8 ⟨u8', rfl, hu8, ht8, hg8⟩)
        | fail)
      have HM8 := Lib.hid (HM7.out.tick hg8 ht8)
      have HI8 := Lib.hid (show IdBox w8 b9 s (bn : Int) from heap_other HI7.out hg8 (fun e => by cases e; omega))
      have HB8 := Lib.hid (own_kept HB7.out hg8 (by omega))
      clear ht8 hg8 hu8 HM7 HI7 HB7 HT7
      go_cut [8, 53, 54] from 55 to 55 (fun b8 _ _ w' => PutS w g (k2 + 3) c room a n cp L F B1 B2 b9 w1.heap.size b8 w')
      case first =>
        by_cases hv : u8' = 0
        · obtain ⟨q1, q2⟩ := eqI (x := (u8' : Int)) (y := 0) (by omega)
          clear hv
          have HST := Lib.hid (show IdBox (w8.setRow b9 #[.int .u64 0, .int .i64 0]) b9 0 0 from setRow_heap w8 b9 _ #[.int .u64 0, .int .i64 0] _ _ HI8.out)
          have hgs := grown_setRow w8 b9 #[.int .u64 0, .int .i64 0]
          have HMS := Lib.hid (HM8.out.box HI8.out hgs (by omega) (by omega) (by omega) (by decide) (by decide) (by decide) (by decide))
          clear hgs
          go_wp2_with (first
            | ((with_reducible refine atStore 9 ?_); refine wpList_of_wp rfl (wp_store_row (o := ⟨none, _, _, _, _, _⟩) _ _ _ rfl b9 #[.int .u64 0, .int .i64 0] rfl rfl _ _ HI8.out (by kernel_rfl) rfl (by simp [Value.oneCell']) ?_))
            | fail)
          go_meet
          exact ⟨0, 0, none, 0, 0, [], rfl, by omega, by omega, HST.out, own_nil _ _ _ _, .inr rfl, by omega, HMS.out⟩
        · obtain ⟨q1, q2⟩ := neI (x := (u8' : Int)) (y := 0) (by omega)
          clear hv
          go_wp2
          go_meet
          exact ⟨s, bn, ba, bn, bc, bl, rfl, hs, by omega, HI8.out, HB8.out, .inl HSL.out, hn4, HM8.out⟩
      case rest =>
      rename World => w9
      obtain ⟨s, z, xa, xn, xc, xl, rfl, hs1, hz1', hi9, hx9, hxs, hxn, hm9⟩ := hcut
      have HI9 := Lib.hid hi9
      have HX9 := Lib.hid hx9
      have HM9 := Lib.hid hm9
      have HXS := Lib.hid hxs
      clear hi9 hx9 hm9 hxs HM8 HI8 HB8
      have hrd := HI9.out.rd
      have HPU := Lib.hid (Put38_any B1 c room (L.map Re.en) F s z xa xn xc xl w9 HM9.out.2.1 (StB.own HM9.out.2.1.typed HX9.out) (by omega))
      obtain ⟨r, hr⟩ : ∃ r, r = putC room (L.map Re.en) (s, z) xl := ⟨_, rfl⟩
      rw [← hr] at HPU
      have HRE := Lib.hid hr
      clear hr
      go_upto_region 13 with (first
        | ((with_reducible refine atSlot 58 ?_); refine wpList_of_wp rfl (wp_load_mid (op := ⟨some 58, _, _, _, _, _⟩) 45 _ rfl b9 0 rfl [.int .u64 s, .int .i64 z] _ hrd Try.underlying45 rfl (by kernel_rfl) ?_); clear hrd)
        | (go_at_call 21; (with_reducible refine HPU.out.mono ?_); rintro en wa ⟨ga, gn, gc, rfl, hgn, hgo, hct⟩)
        | fail)
      obtain ⟨⟨FZ, hma⟩, hca, hta⟩ := HM9.out.prog hct
      have HIA := Lib.hid (HI9.out.chg hca hta)
      have HXA := Lib.hid (own_chg HX9.out hca hta (by decide) (by decide))
      have HMA := Lib.hid hma
      have HGA := Lib.hid hgo
      have hra := range_of_heap2 hma.2.2.2.1
      have hia := HIA.out.rd
      have hzB : B2 ≤ wa.heap.size := Nat.le_trans hb3 hma.2.2.2.2.2.1.size
      have HRP := Lib.hid (refPut38_any B2 room a n cp L s z xa xn xc xl wa hma.2.2.1 hzB (Bytes.of_own HXA.out) (by omega))
      rw [← HRE.out] at HRP
      have hgm := gone_few room (L.map Re.en) (s, z) xl
      rw [← HRE.out, ← hgn] at hgm
      have hgm2 := HOK.out.1.count
      have hgm3 := HOK.out.2
      clear hct hma hca hta hgo HPU HM9 HI9 HX9
      go_upto_region 14 with (first
        | ((with_reducible refine atSlot 64 ?_); refine wpList_of_wp rfl (wp_load_mid (op := ⟨some 64, _, _, _, _, _⟩) 28 _ rfl w.heap.size 0 rfl [.int .i64 room, .slice a n cp] _ hra Try.underlying28 rfl (by kernel_rfl) ?_); clear hra)
        | ((with_reducible refine atSlot 65 ?_); refine wpList_of_wp rfl (wp_load_mid (op := ⟨some 65, _, _, _, _, _⟩) 45 _ rfl b9 0 rfl [.int .u64 s, .int .i64 z] _ hia Try.underlying45 rfl (by kernel_rfl) ?_); clear hia)
        | (go_at_call 47; (with_reducible refine HRP.out.mono ?_); rintro en wb ⟨a', n', cp', L', ha, hn, hc, rfl, hR', hE', hhn, hho, hxb, -⟩; have HRB := Lib.hid hR'; have HEB := Lib.hid hE'; have HHO := Lib.hid hho; have HXB := Lib.hid hxb; clear hR' hE' hho hxb; have HP := Lib.hid (put_new wb #[.int .i64 0, .slice none 0 0] #[.int .i64 room, .slice a' n' cp'] 28); have HN := Lib.hid (heap_alloc_new wb (.cells #[.int .i64 0, .slice none 0 0] 28)))
        | ((with_reducible refine atStore 12 ?_); refine wpList_of_wp rfl (wp_store_row (o := ⟨none, _, _, _, _, _⟩) _ _ _ rfl wb.heap.size #[.int .i64 room, .slice a' n' cp'] rfl rfl _ _ HN.out (by kernel_rfl) rfl (by simp [Value.oneCell']) ?_))
        | fail)
      obtain ⟨hxc, hhc⟩ := HP.out
      obtain ⟨b12, hb12⟩ : ∃ b12, b12 = wb.heap.size := ⟨_, rfl⟩
      generalize (wb.alloc (.cells #[.int .i64 0, .slice none 0 0] 28)).setRow wb.heap.size #[.int .i64 room, .slice a' n' cp'] = wz at hxc hhc ⊢
      rw [← hb12] at hhc ⊢
      have HH12 := Lib.hid hhc
      have HXY := Lib.hid hxc
      have HXZ := Lib.hid (HXB.out.trans' hxc)
      have HRZ := Lib.hid (HRB.out.ext hxc)
      have HMZ := Lib.hid (HMA.out.ext HXZ.out)
      have hbz : w.heap.size + 1 < b12 := by
        have h1 := (Array.getElem?_eq_some_iff.1 HMA.out.2.2.2.2.1).1
        have h2 := HXB.out.size
        omega
      clear hxc hhc hb12 HP HN
      subst hgn
      subst hhn
      have HRG := Lib.hid fun w' (h : Ext wz w') => Row.of_own (own_ext HGA.out (HXZ.out.trans' h))
      have HRH := Lib.hid fun w' (h : Ext wz w') => Row.of_own (own_ext HHO.out (HXY.out.trans' h))
      have HKP := Lib.hid (show Keeps (L.map Re.en) r.1 by rw [HRE.out]; exact putC_stay.keeps)
      have HSZ := Lib.hid (show ShE r.1 by rw [HRE.out]; exact HS.out.putC HXS.out)
      have HEZ := HEB
      obtain ⟨er, her⟩ : ∃ er, er = r.2.2 := ⟨_, rfl⟩
      obtain ⟨ids, hids⟩ : ∃ ids, ids = r.2.1 := ⟨_, rfl⟩
      rw [← her]
      rw [← hids] at HRG HRH hgm ⊢
      have q1 := (eqI (x := er) (y := er) rfl).1
      have kz_ : k2 + 3 ≤ k + 80 := by omega
      obtain ⟨kz, hkz⟩ : ∃ kz, kz = k2 + 3 := ⟨_, rfl⟩
      rw [← hkz] at HMZ
      clear her hids
      have hh6 := HMZ.out.2.2.2.2.1
      have HH6 := Lib.hid hh6
      have hn12 : b12 ∉ [(w.heap.size + 1)] := fun h => by rw [List.mem_singleton] at h; omega
      have HN12 := Lib.hid hn12
      have HR12 := Lib.hid fun w' (h : Chg [(w.heap.size + 1)] wz w') => range_of_heap2 (h.heap HH12.out HN12.out)
      have R0 : Chg [(w.heap.size + 1)] wz wz.drew := Chg.drew _ _
      clear hh6 hn12
      refine wp_region_z (fun w' => Chg [(w.heap.size + 1)] wz w') R0 [] (.qs [0, 1, 2, 3, 4, 5, 6] (.l 7 (.qs [8] (.l 9 (.qs [10] .nil))))) (by kernel_rfl) (by kernel_rfl) ?_
      refine wpZ_ld rfl rfl (.tmp 12) rfl b12 0 rfl [.int .i64 room, .slice a' n' cp'] _ HR12.out Try.underlying28 rfl (by kernel_rfl) ?_
      go_simp
      iterate 6 ((refine wpZ_q rfl rfl _ (fun w' hx' => by go_simp; try rfl) ?_; go_simp))
      refine wpZ_l rfl rfl ?_
      go_simp
      refine (SameIDs_any ga ids.length gc ha hc ids _ (HRG.out _ (Ext.drew' wz)) (HRH.out _ (Ext.drew' wz)) rfl (by omega)).mono ?_
      rintro en wx ⟨rfl, hxx⟩
      have HWX := Lib.hid ((Ext.drew' wz).trans' hxx)
      refine ⟨Chg.of_ext HWX.out, ?_⟩
      go_simp
      ((refine wpZ_q rfl rfl _ (fun w' hx' => by go_simp; try rfl) ?_; go_simp))
      refine wpZ_l rfl rfl (wp_store_row _ _ _ rfl (w.heap.size + 1) #[.int .i64 room, .slice a' n' cp'] rfl rfl _ _ (HWX.out.heap' HH6.out) (by kernel_rfl) rfl (by simp [Value.oneCell']) ?_)
      have hgs := grown_setRow wx (w.heap.size + 1) #[.int .i64 room, .slice a' n' cp']
      refine ⟨fun _ => (Chg.of_ext HWX.out).trans' (Chg.of_grown hgs (List.mem_singleton.2 rfl)), ?_⟩
      have hF := setRow_heap wx (w.heap.size + 1) _ #[.int .i64 room, .slice a' n' cp'] _ _ (HWX.out.heap' HH6.out)
      have hfin := (HMZ.out.ext HWX.out).fin (HRZ.out.ext HWX.out) HEZ.out HSZ.out
      have HF := Lib.hid hF
      have HFIN := Lib.hid hfin
      generalize wx.setRow (w.heap.size + 1) #[.int .i64 room, .slice a' n' cp'] = wF at HF HFIN hgs ⊢
      clear hF hfin hgs
      ((refine wpZ_q rfl rfl _ (fun w' hx' => by go_simp; try rfl) ?_; go_simp))
      refine wpZ_nil ?_
      go_wp2
      refine bodyPost_ret (results_c1 (ty := 28) rfl _ (w.heap.size + 1) [.int .i64 room, .slice a' n' cp'] _ rfl (range_of_heap2 HF.out) Try.underlying28 rfl (by kernel_rfl)) rfl ?_
      exact ⟨a', n', cp', _, FZ, kz, rfl, HFIN.out.1, by omega, HKP.out, HFIN.out.2.1, HFIN.out.2.2⟩
    · have hd : decide (u ≤ 3) = false := decide_eq_false hu3
      rw [hd]
      clear hd
      go_upto_if 80 with fail
      go_cut [80] from 81 to 82 (fun v w' => v = .bool (decide (u ≤ 5)) ∧ w' = w5)
      case first =>
        rcases (by omega : u = 4 ∨ u = 5 ∨ 6 ≤ u) with hv | hv | hv
        · subst hv
          go_wp2
          go_meet
          exact ⟨rfl, rfl⟩
        · subst hv
          go_wp2
          go_meet
          exact ⟨rfl, rfl⟩
        · have q0 := (neI (x := (u : Int)) (y := 4) (by omega)).1
          have q1 := (neI (x := (u : Int)) (y := 5) (by omega)).1
          go_wp2
          go_meet
          exact ⟨by rw [decide_eq_false (by omega)], rfl⟩
      case rest =>
        obtain ⟨rfl, rfl⟩ := hcut
        rename World => w5
        by_cases hu5 : u ≤ 5
        · have hd : decide (u ≤ 5) = true := decide_eq_true hu5
          rw [hd]
          clear hu5 hd hu3
          have hrd := HI5.out.rd
          have hfl : fp bl ≤ 18446744073709551615 := by have := fp_lt bl; omega
          have hzz : -9223372036854775808 ≤ (bn : Int) ∧ (bn : Int) ≤ 9223372036854775807 := by omega
          have HPU := Lib.hid (Get_any B1 c room (L.map Re.en) F (fp bl) (bn : Int) w5 HM5.out.2.1 hfl hzz)
          obtain ⟨r, hr⟩ : ∃ r, r = getC (L.map Re.en) (fp bl, (bn : Int)) := ⟨_, rfl⟩
          rw [← hr] at HPU
          have HRE := Lib.hid hr
          clear hr HB5 HT5
          go_upto_region 18 with (first
            | ((with_reducible refine atSlot 85 ?_); refine wpList_of_wp rfl (wp_load_mid (op := ⟨some 85, _, _, _, _, _⟩) 45 _ rfl b9 0 rfl [.int .u64 (fp bl : Nat), .int .i64 bn] _ hrd Try.underlying45 rfl (by kernel_rfl) ?_); clear hrd)
            | (go_at_call 20; (with_reducible refine HPU.out.mono ?_); rintro en wa ⟨ya, yn, yc, rfl, hyo, hct⟩)
            | fail)
          obtain ⟨⟨FZ, hma⟩, hca, hta⟩ := HM5.out.prog hct
          have HIA := Lib.hid (HI5.out.chg hca hta)
          have HMA := Lib.hid hma
          have HYA := Lib.hid hyo
          have hra := range_of_heap2 hma.2.2.2.1
          have hia := HIA.out.rd
          have hzB : B2 ≤ wa.heap.size := Nat.le_trans hb3 hma.2.2.2.2.2.1.size
          have HRP := Lib.hid (refGet38_any B2 room a n cp L (fp bl) (bn : Int) wa hma.2.2.1 hzB)
          rw [← HRE.out] at HRP
          clear hct hma hca hta hyo HPU HM5 HI5
          go_upto_region 19 with (first
            | ((with_reducible refine atSlot 90 ?_); refine wpList_of_wp rfl (wp_load_mid (op := ⟨some 90, _, _, _, _, _⟩) 28 _ rfl w.heap.size 0 rfl [.int .i64 room, .slice a n cp] _ hra Try.underlying28 rfl (by kernel_rfl) ?_); clear hra)
            | ((with_reducible refine atSlot 91 ?_); refine wpList_of_wp rfl (wp_load_mid (op := ⟨some 91, _, _, _, _, _⟩) 45 _ rfl b9 0 rfl [.int .u64 (fp bl : Nat), .int .i64 bn] _ hia Try.underlying45 rfl (by kernel_rfl) ?_); clear hia)
            | (go_at_call 48; (with_reducible refine HRP.out.mono ?_); rintro en wb ⟨a', n', cp', L', xa, xn, xc, rfl, hR', hE', hbo, hxb, -⟩; have HRB := Lib.hid hR'; have HEB := Lib.hid hE'; have HBA := Lib.hid hbo; have HXB := Lib.hid hxb; clear hR' hE' hbo hxb; have HP := Lib.hid (put_new wb #[.int .i64 0, .slice none 0 0] #[.int .i64 room, .slice a' n' cp'] 28); have HN := Lib.hid (heap_alloc_new wb (.cells #[.int .i64 0, .slice none 0 0] 28)))
            | ((with_reducible refine atStore 17 ?_); refine wpList_of_wp rfl (wp_store_row (o := ⟨none, _, _, _, _, _⟩) _ _ _ rfl wb.heap.size #[.int .i64 room, .slice a' n' cp'] rfl rfl _ _ HN.out (by kernel_rfl) rfl (by simp [Value.oneCell']) ?_))
            | fail)
          obtain ⟨hxc, hhc⟩ := HP.out
          obtain ⟨b12, hb12⟩ : ∃ b12, b12 = wb.heap.size := ⟨_, rfl⟩
          generalize (wb.alloc (.cells #[.int .i64 0, .slice none 0 0] 28)).setRow wb.heap.size #[.int .i64 room, .slice a' n' cp'] = wz at hxc hhc ⊢
          rw [← hb12] at hhc ⊢
          have HH12 := Lib.hid hhc
          have HXY := Lib.hid hxc
          have HXZ := Lib.hid (HXB.out.trans' hxc)
          have HRZ := Lib.hid (HRB.out.ext hxc)
          have HMZ := Lib.hid (HMA.out.ext HXZ.out)
          have hbz : w.heap.size + 1 < b12 := by
            have h1 := (Array.getElem?_eq_some_iff.1 HMA.out.2.2.2.2.1).1
            have h2 := HXB.out.size
            omega
          clear hxc hhc hb12 HP HN
          have HH6T := Lib.hid HMZ.out.2.2.2.2.1
          have HYB := Lib.hid fun w' (h : Chg [(w.heap.size + 1)] wz w') => Bytes.of_own (own_chgT (own_ext HYA.out HXZ.out) h (one_type HH6T.out (by decide)))
          have HYC := Lib.hid fun w' (h : Chg [(w.heap.size + 1)] wz w') => Bytes.of_own (own_chgT (own_ext HBA.out HXY.out) h (one_type HH6T.out (by decide)))
          have HKP := Lib.hid (show Keeps (L.map Re.en) r.1 by rw [HRE.out]; exact (get_stay _ _).keeps)
          have HSZ := Lib.hid (show ShE r.1 by rw [HRE.out]; exact HS.out.get _)
          have HEZ := HEB
          obtain ⟨er, her⟩ : ∃ er, er = r.2.2 := ⟨_, rfl⟩
          rw [← her]
          have q1 : (er == er) = true := beq_self_eq_true er
          obtain ⟨kz, hkz⟩ : ∃ kz, kz = k2 + 1 := ⟨_, rfl⟩
          rw [← hkz] at HMZ
          clear her
          have hh6 := HMZ.out.2.2.2.2.1
          have HH6 := Lib.hid hh6
          have hn12 : b12 ∉ [(w.heap.size + 1)] := fun h => by rw [List.mem_singleton] at h; omega
          have HN12 := Lib.hid hn12
          have HR12 := Lib.hid fun w' (h : Chg [(w.heap.size + 1)] wz w') => range_of_heap2 (h.heap HH12.out HN12.out)
          have R0 : Chg [(w.heap.size + 1)] wz wz.drew := Chg.drew _ _
          clear hh6 hn12
          refine wp_region_z (fun w' => Chg [(w.heap.size + 1)] wz w') R0 [] (.qs [0, 1, 2, 3, 4, 5, 6, 7, 8, 9, 10] (.l 11 (.qs [12] .nil))) (by kernel_rfl) (by kernel_rfl) ?_
          refine wpZ_ld rfl rfl (.tmp 17) rfl b12 0 rfl [.int .i64 room, .slice a' n' cp'] _ HR12.out Try.underlying28 rfl (by kernel_rfl) ?_
          go_simp
          iterate 5 ((refine wpZ_q rfl rfl _ (fun w' hx' => by go_simp; try rfl) ?_; go_simp))
          refine wpZ_conv rfl rfl (.tmp 101) rfl rfl HYB.out Try.underlying42 Try.underlying5 Try.underlying9 ?_
          ((refine wpZ_q rfl rfl _ (fun w' hx' => by go_simp; try rfl) ?_; go_simp))
          refine wpZ_conv rfl rfl (.tmp 103) rfl rfl HYC.out Try.underlying42 Try.underlying5 Try.underlying9 ?_
          iterate 2 ((refine wpZ_q rfl rfl _ (fun w' hx' => by go_simp; try rfl) ?_; go_simp))
          have HWX := Lib.hid (Ext.drew' wz)
          refine wpZ_l rfl rfl (wp_store_row _ _ _ rfl (w.heap.size + 1) #[.int .i64 room, .slice a' n' cp'] rfl rfl _ _ (HWX.out.heap' HH6.out) (by kernel_rfl) rfl (by simp [Value.oneCell']) ?_)
          have hgs := grown_setRow wz.drew (w.heap.size + 1) #[.int .i64 room, .slice a' n' cp']
          refine ⟨fun _ => (Chg.of_ext HWX.out).trans' (Chg.of_grown hgs (List.mem_singleton.2 rfl)), ?_⟩
          have hF := setRow_heap wz.drew (w.heap.size + 1) _ #[.int .i64 room, .slice a' n' cp'] _ _ (HWX.out.heap' HH6.out)
          have hfin := (HMZ.out.ext HWX.out).fin (HRZ.out.ext HWX.out) HEZ.out HSZ.out
          have HF := Lib.hid hF
          have HFIN := Lib.hid hfin
          generalize wz.drew.setRow (w.heap.size + 1) #[.int .i64 room, .slice a' n' cp'] = wF at HF HFIN hgs ⊢
          clear hF hfin hgs
          ((refine wpZ_q rfl rfl _ (fun w' hx' => by go_simp; try rfl) ?_; go_simp))
          refine wpZ_nil ?_
          go_wp2
          refine bodyPost_ret (results_c1 (ty := 28) rfl _ (w.heap.size + 1) [.int .i64 room, .slice a' n' cp'] _ rfl (range_of_heap2 HF.out) Try.underlying28 rfl (by kernel_rfl)) rfl ?_
          exact ⟨a', n', cp', _, FZ, kz, rfl, HFIN.out.1, by omega, HKP.out, HFIN.out.2.1, HFIN.out.2.2⟩
        · have hd : decide (u ≤ 5) = false := decide_eq_false hu5
          rw [hd]
          clear hd
          by_cases hu6 : u = 6
          · subst hu6
            clear hu5 hu3
            have hrd := HI5.out.rd
            have hfl : fp bl ≤ 18446744073709551615 := by have := fp_lt bl; omega
            have hzz : -9223372036854775808 ≤ (bn : Int) ∧ (bn : Int) ≤ 9223372036854775807 := by omega
            have HPU := Lib.hid (Pin_any B1 c room (L.map Re.en) F (fp bl) (bn : Int) w5 HM5.out.2.1 hfl hzz)
            obtain ⟨r, hr⟩ : ∃ r, r = pinC (L.map Re.en) (fp bl, (bn : Int)) := ⟨_, rfl⟩
            rw [← hr] at HPU
            have HRE := Lib.hid hr
            clear hr HB5 HT5
            go_upto_region 22 with (first
              | ((with_reducible refine atSlot 110 ?_); refine wpList_of_wp rfl (wp_load_mid (op := ⟨some 110, _, _, _, _, _⟩) 45 _ rfl b9 0 rfl [.int .u64 (fp bl : Nat), .int .i64 bn] _ hrd Try.underlying45 rfl (by kernel_rfl) ?_); clear hrd)
              | (go_at_call 23; (with_reducible refine HPU.out.mono ?_); rintro en wa ⟨rfl, hct⟩)
              | fail)
            obtain ⟨⟨FZ, hma⟩, hca, hta⟩ := HM5.out.prog hct
            have HIA := Lib.hid (HI5.out.chg hca hta)
            have HMA := Lib.hid hma
            have hra := range_of_heap2 hma.2.2.2.1
            have hia := HIA.out.rd
            have hzB : B2 ≤ wa.heap.size := Nat.le_trans hb3 hma.2.2.2.2.2.1.size
            have HRP := Lib.hid (refPin38_any B2 room a n cp L (fp bl) (bn : Int) wa hma.2.2.1 hzB)
            rw [← HRE.out] at HRP
            clear hct hma hca hta HPU HM5 HI5
            go_upto_region 23 with (first
              | ((with_reducible refine atSlot 113 ?_); refine wpList_of_wp rfl (wp_load_mid (op := ⟨some 113, _, _, _, _, _⟩) 28 _ rfl w.heap.size 0 rfl [.int .i64 room, .slice a n cp] _ hra Try.underlying28 rfl (by kernel_rfl) ?_); clear hra)
              | ((with_reducible refine atSlot 114 ?_); refine wpList_of_wp rfl (wp_load_mid (op := ⟨some 114, _, _, _, _, _⟩) 45 _ rfl b9 0 rfl [.int .u64 (fp bl : Nat), .int .i64 bn] _ hia Try.underlying45 rfl (by kernel_rfl) ?_); clear hia)
              | (go_at_call 49; (with_reducible refine HRP.out.mono ?_); rintro en wb ⟨a', n', cp', L', rfl, hR', hE', hxb⟩; have HRB := Lib.hid hR'; have HEB := Lib.hid hE'; have HXB := Lib.hid hxb; clear hR' hE' hxb; have HP := Lib.hid (put_new wb #[.int .i64 0, .slice none 0 0] #[.int .i64 room, .slice a' n' cp'] 28); have HN := Lib.hid (heap_alloc_new wb (.cells #[.int .i64 0, .slice none 0 0] 28)))
              | ((with_reducible refine atStore 21 ?_); refine wpList_of_wp rfl (wp_store_row (o := ⟨none, _, _, _, _, _⟩) _ _ _ rfl wb.heap.size #[.int .i64 room, .slice a' n' cp'] rfl rfl _ _ HN.out (by kernel_rfl) rfl (by simp [Value.oneCell']) ?_))
              | fail)
            obtain ⟨hxc, hhc⟩ := HP.out
            obtain ⟨b12, hb12⟩ : ∃ b12, b12 = wb.heap.size := ⟨_, rfl⟩
            generalize (wb.alloc (.cells #[.int .i64 0, .slice none 0 0] 28)).setRow wb.heap.size #[.int .i64 room, .slice a' n' cp'] = wz at hxc hhc ⊢
            rw [← hb12] at hhc ⊢
            have HH12 := Lib.hid hhc
            have HXY := Lib.hid hxc
            have HXZ := Lib.hid (HXB.out.trans' hxc)
            have HRZ := Lib.hid (HRB.out.ext hxc)
            have HMZ := Lib.hid (HMA.out.ext HXZ.out)
            have hbz : w.heap.size + 1 < b12 := by
              have h1 := (Array.getElem?_eq_some_iff.1 HMA.out.2.2.2.2.1).1
              have h2 := HXB.out.size
              omega
            clear hxc hhc hb12 HP HN
            have hsk := set_kept (pin_cases (L.map Re.en) (fp bl, (bn : Int)))
            have HKP := Lib.hid (show Keeps (L.map Re.en) r.1 by rw [HRE.out]; exact hsk.1)
            have HSZ := Lib.hid (show ShE r.1 by rw [HRE.out]; exact hsk.2 HS.out)
            have HEZ := HEB
            obtain ⟨er, her⟩ : ∃ er, er = r.2 := ⟨_, rfl⟩
            rw [← her]
            have q1 : (er == er) = true := beq_self_eq_true er
            obtain ⟨kz, hkz⟩ : ∃ kz, kz = k2 + 1 := ⟨_, rfl⟩
            rw [← hkz] at HMZ
            clear her hsk
            have hh6 := HMZ.out.2.2.2.2.1
            have hrz := range_of_heap2 HH12.out
            have HF := Lib.hid (setRow_heap wz (w.heap.size + 1) _ #[.int .i64 room, .slice a' n' cp'] _ _ hh6)
            have HFIN := Lib.hid (HMZ.out.fin HRZ.out HEZ.out HSZ.out)
            go_wp2_with (first
              | ((with_reducible refine atSlot 118 ?_); refine wpList_of_wp rfl (wp_load_mid (op := ⟨some 118, _, _, _, _, _⟩) 28 _ rfl b12 0 rfl [.int .i64 room, .slice a' n' cp'] _ hrz Try.underlying28 rfl (by kernel_rfl) ?_); clear hrz)
              | ((with_reducible refine atStore 6 ?_); refine wpList_of_wp rfl (wp_store_row (o := ⟨none, _, _, _, _, _⟩) _ _ _ rfl (w.heap.size + 1) #[.int .i64 room, .slice a' n' cp'] rfl rfl _ _ hh6 (by kernel_rfl) rfl (by simp [Value.oneCell']) ?_))
              | fail)
            refine bodyPost_ret (results_c1 (ty := 28) rfl _ (w.heap.size + 1) [.int .i64 room, .slice a' n' cp'] _ rfl (range_of_heap2 HF.out) Try.underlying28 rfl (by kernel_rfl)) rfl ?_
            exact ⟨a', n', cp', _, FZ, kz, rfl, HFIN.out.1, by omega, HKP.out, HFIN.out.2.1, HFIN.out.2.2⟩
          have q6 := (neI (x := (u : Int)) (y := 6) (by omega)).1
          by_cases hu7 : u = 7
          · subst hu7
            clear hu5 hu3 hu6
            have hrd := HI5.out.rd
            have hfl : fp bl ≤ 18446744073709551615 := by have := fp_lt bl; omega
            have hzz : -9223372036854775808 ≤ (bn : Int) ∧ (bn : Int) ≤ 9223372036854775807 := by omega
            have HPU := Lib.hid (Unpin_any B1 c room (L.map Re.en) F (fp bl) (bn : Int) w5 HM5.out.2.1 hfl hzz)
            obtain ⟨r, hr⟩ : ∃ r, r = unpC (L.map Re.en) (fp bl, (bn : Int)) := ⟨_, rfl⟩
            rw [← hr] at HPU
            have HRE := Lib.hid hr
            clear hr HB5 HT5
            go_upto_region 26 with (first
              | ((with_reducible refine atSlot 125 ?_); refine wpList_of_wp rfl (wp_load_mid (op := ⟨some 125, _, _, _, _, _⟩) 45 _ rfl b9 0 rfl [.int .u64 (fp bl : Nat), .int .i64 bn] _ hrd Try.underlying45 rfl (by kernel_rfl) ?_); clear hrd)
              | (go_at_call 24; (with_reducible refine HPU.out.mono ?_); rintro en wa ⟨rfl, hct⟩)
              | fail)
            obtain ⟨⟨FZ, hma⟩, hca, hta⟩ := HM5.out.prog hct
            have HIA := Lib.hid (HI5.out.chg hca hta)
            have HMA := Lib.hid hma
            have hra := range_of_heap2 hma.2.2.2.1
            have hia := HIA.out.rd
            have hzB : B2 ≤ wa.heap.size := Nat.le_trans hb3 hma.2.2.2.2.2.1.size
            have HRP := Lib.hid (refUnpin38_any B2 room a n cp L (fp bl) (bn : Int) wa hma.2.2.1 hzB)
            rw [← HRE.out] at HRP
            clear hct hma hca hta HPU HM5 HI5
            go_upto_region 27 with (first
              | ((with_reducible refine atSlot 128 ?_); refine wpList_of_wp rfl (wp_load_mid (op := ⟨some 128, _, _, _, _, _⟩) 28 _ rfl w.heap.size 0 rfl [.int .i64 room, .slice a n cp] _ hra Try.underlying28 rfl (by kernel_rfl) ?_); clear hra)
              | ((with_reducible refine atSlot 129 ?_); refine wpList_of_wp rfl (wp_load_mid (op := ⟨some 129, _, _, _, _, _⟩) 45 _ rfl b9 0 rfl [.int .u64 (fp bl : Nat), .int .i64 bn] _ hia Try.underlying45 rfl (by kernel_rfl) ?_); clear hia)
              | (go_at_call 49; (with_reducible refine HRP.out.mono ?_); rintro en wb ⟨a', n', cp', L', rfl, hR', hE', hxb⟩; have HRB := Lib.hid hR'; have HEB := Lib.hid hE'; have HXB := Lib.hid hxb; clear hR' hE' hxb; have HP := Lib.hid (put_new wb #[.int .i64 0, .slice none 0 0] #[.int .i64 room, .slice a' n' cp'] 28); have HN := Lib.hid (heap_alloc_new wb (.cells #[.int .i64 0, .slice none 0 0] 28)))
              | ((with_reducible refine atStore 24 ?_); refine wpList_of_wp rfl (wp_store_row (o := ⟨none, _, _, _, _, _⟩) _ _ _ rfl wb.heap.size #[.int .i64 room, .slice a' n' cp'] rfl rfl _ _ HN.out (by kernel_rfl) rfl (by simp [Value.oneCell']) ?_))
              | fail)
            obtain ⟨hxc, hhc⟩ := HP.out
            obtain ⟨b12, hb12⟩ : ∃ b12, b12 = wb.heap.size := ⟨_, rfl⟩
            generalize (wb.alloc (.cells #[.int .i64 0, .slice none 0 0] 28)).setRow wb.heap.size #[.int .i64 room, .slice a' n' cp'] = wz at hxc hhc ⊢
            rw [← hb12] at hhc ⊢
            have HH12 := Lib.hid hhc
            have HXY := Lib.hid hxc
            have HXZ := Lib.hid (HXB.out.trans' hxc)
            have HRZ := Lib.hid (HRB.out.ext hxc)
            have HMZ := Lib.hid (HMA.out.ext HXZ.out)
            have hbz : w.heap.size + 1 < b12 := by
              have h1 := (Array.getElem?_eq_some_iff.1 HMA.out.2.2.2.2.1).1
              have h2 := HXB.out.size
              omega
            clear hxc hhc hb12 HP HN
            have hsk := set_kept (unp_cases (L.map Re.en) (fp bl, (bn : Int)))
            have HKP := Lib.hid (show Keeps (L.map Re.en) r.1 by rw [HRE.out]; exact hsk.1)
            have HSZ := Lib.hid (show ShE r.1 by rw [HRE.out]; exact hsk.2 HS.out)
            have HEZ := HEB
            obtain ⟨er, her⟩ : ∃ er, er = r.2 := ⟨_, rfl⟩
            rw [← her]
            have q1 : (er == er) = true := beq_self_eq_true er
            obtain ⟨kz, hkz⟩ : ∃ kz, kz = k2 + 1 := ⟨_, rfl⟩
            rw [← hkz] at HMZ
            clear her hsk
            have hh6 := HMZ.out.2.2.2.2.1
            have hrz := range_of_heap2 HH12.out
            have HF := Lib.hid (setRow_heap wz (w.heap.size + 1) _ #[.int .i64 room, .slice a' n' cp'] _ _ hh6)
            have HFIN := Lib.hid (HMZ.out.fin HRZ.out HEZ.out HSZ.out)
            go_wp2_with (first
              | ((with_reducible refine atSlot 133 ?_); refine wpList_of_wp rfl (wp_load_mid (op := ⟨some 133, _, _, _, _, _⟩) 28 _ rfl b12 0 rfl [.int .i64 room, .slice a' n' cp'] _ hrz Try.underlying28 rfl (by kernel_rfl) ?_); clear hrz)
              | ((with_reducible refine atStore 6 ?_); refine wpList_of_wp rfl (wp_store_row (o := ⟨none, _, _, _, _, _⟩) _ _ _ rfl (w.heap.size + 1) #[.int .i64 room, .slice a' n' cp'] rfl rfl _ _ hh6 (by kernel_rfl) rfl (by simp [Value.oneCell']) ?_))
              | fail)
            refine bodyPost_ret (results_c1 (ty := 28) rfl _ (w.heap.size + 1) [.int .i64 room, .slice a' n' cp'] _ rfl (range_of_heap2 HF.out) Try.underlying28 rfl (by kernel_rfl)) rfl ?_
            exact ⟨a', n', cp', _, FZ, kz, rfl, HFIN.out.1, by omega, HKP.out, HFIN.out.2.1, HFIN.out.2.2⟩
          have q7 := (neI (x := (u : Int)) (y := 7) (by omega)).1
          by_cases hu8 : u = 8
          · subst hu8
            clear hu5 hu3 hu6 hu7
            have hfl : fp bl ≤ 18446744073709551615 := by have := fp_lt bl; omega
            have hzz : -9223372036854775808 ≤ (bn : Int) ∧ (bn : Int) ≤ 9223372036854775807 := by omega
            have hh6 := HM5.out.2.2.2.2.1
            have R0 : Chg [w.heap.size + 1] w5 w5.drew := Chg.drew _ _
            have hn5 : w.heap.size ∉ [w.heap.size + 1] := fun h => by rw [List.mem_singleton] at h; omega
            have hn9 : b9 ∉ [w.heap.size + 1] := fun h => by rw [List.mem_singleton] at h; omega
            have HR5 := Lib.hid fun w' (h : Chg [w.heap.size + 1] w5 w') => range_of_heap2 (h.heap HM5.out.2.2.2.1 hn5)
            have HR9 := Lib.hid fun w' (h : Chg [w.heap.size + 1] w5 w') => range_of_heap2 (h.heap HI5.out hn9)
            have HCH := Lib.hid fun w' (h : Ext w5 w') => Has_any B1 c room (L.map Re.en) F (fp bl) (bn : Int) w' (HM5.out.2.1.ext h) hfl hzz
            have HCA := Lib.hid fun w' (h : Ext w5 w') => At38_any B2 room a n cp L (fp bl) (bn : Int) w' (HM5.out.2.2.1.ext h)
            have HCP := Lib.hid fun w' (h : Ext w5 w') => Pins_any B1 c room (L.map Re.en) F (fp bl) (bn : Int) w' (HM5.out.2.1.ext h) hfl hzz
            have HCQ := Lib.hid fun w' (h : Ext w5 w') => Pins38_any B2 room a n cp L (fp bl) (bn : Int) w' (HM5.out.2.2.1.ext h)
            obtain ⟨bh, hbh⟩ : ∃ bh, bh = (atF (fp bl, (bn : Int)) (L.map Re.en)).isSome := ⟨_, rfl⟩
            obtain ⟨ai, hai⟩ : ∃ ai, ai = atI (fp bl, (bn : Int)) (L.map Re.en) := ⟨_, rfl⟩
            obtain ⟨pp, hpp⟩ : ∃ pp, pp = pinsC (L.map Re.en) (fp bl, (bn : Int)) := ⟨_, rfl⟩
            have hdd : decide ((0 : Int) ≤ ai) = bh := by
              rw [hai, hbh]
              unfold atI
              cases atF (fp bl, (bn : Int)) (L.map Re.en) with
              | none => rfl
              | some i => exact decide_eq_true (Int.natCast_nonneg i)
            rw [← hbh] at HCH
            rw [← hai] at HCA
            rw [← hpp] at HCP HCQ
            have q1 : (bh == bh) = true := beq_self_eq_true bh
            have q2 := (eqI (x := (pp : Int)) (y := (pp : Int)) rfl).1
            have HH6 := Lib.hid hh6
            have E5 := Ext.drew' w5
            clear hh6 hn5 hn9 hbh hai hpp HB5 HT5
            go_upto_region 29 with fail
            refine wp_region_z (fun w' => Chg [w.heap.size + 1] w5 w') R0 [] (.qs [0, 1, 2, 4, 5] (.l 3 (.l 6 (.qs [7, 8, 9, 10, 11, 13, 14] (.l 12 (.l 15 (.qs [16, 17] (.l 18 (.qs [19] .nil))))))))) (by kernel_rfl) (by kernel_rfl) ?_
            refine wpZ_ld rfl rfl (.tmp 5) rfl w.heap.size 0 rfl [.int .i64 room, .slice a n cp] _ HR5.out Try.underlying28 rfl (by kernel_rfl) ?_
            go_simp
            ((refine wpZ_q rfl rfl _ (fun w' hx' => by go_simp; try rfl) ?_; go_simp))
            refine wpZ_ld rfl rfl (.tmp 9) rfl b9 0 rfl [.int .u64 (fp bl : Nat), .int .i64 bn] _ HR9.out Try.underlying45 rfl (by kernel_rfl) ?_
            refine wpZ_ld rfl rfl (.tmp 5) rfl w.heap.size 0 rfl [.int .i64 room, .slice a n cp] _ HR5.out Try.underlying28 rfl (by kernel_rfl) ?_
            refine wpZ_ld rfl rfl (.tmp 9) rfl b9 0 rfl [.int .u64 (fp bl : Nat), .int .i64 bn] _ HR9.out Try.underlying45 rfl (by kernel_rfl) ?_
            refine wpZ_l rfl rfl ?_
            go_simp
            refine (HCH.out _ E5).mono ?_
            rintro en w6 ⟨rfl, hx6⟩
            have E6 := E5.trans' hx6
            refine ⟨Chg.of_ext E6, ?_⟩
            go_simp
            refine wpZ_l rfl rfl ?_
            go_simp
            refine (HCA.out _ E6).mono ?_
            rintro en w7 ⟨rfl, hx7⟩
            have E7 := E6.trans' hx7
            refine ⟨Chg.of_ext E7, ?_⟩
            go_simp
            iterate 4 ((refine wpZ_q rfl rfl _ (fun w' hx' => by go_simp; try rfl) ?_; go_simp))
            refine wpZ_ld rfl rfl (.tmp 9) rfl b9 0 rfl [.int .u64 (fp bl : Nat), .int .i64 bn] _ HR9.out Try.underlying45 rfl (by kernel_rfl) ?_
            refine wpZ_ld rfl rfl (.tmp 5) rfl w.heap.size 0 rfl [.int .i64 room, .slice a n cp] _ HR5.out Try.underlying28 rfl (by kernel_rfl) ?_
            refine wpZ_ld rfl rfl (.tmp 9) rfl b9 0 rfl [.int .u64 (fp bl : Nat), .int .i64 bn] _ HR9.out Try.underlying45 rfl (by kernel_rfl) ?_
            refine wpZ_l rfl rfl ?_
            go_simp
            refine (HCP.out _ E7).mono ?_
            rintro en w8 ⟨rfl, hx8⟩
            have E8 := E7.trans' hx8
            refine ⟨Chg.of_ext E8, ?_⟩
            go_simp
            refine wpZ_l rfl rfl ?_
            go_simp
            refine (HCQ.out _ E8).mono ?_
            rintro en w9 ⟨rfl, hx9⟩
            have HWX := Lib.hid (E8.trans' hx9)
            refine ⟨Chg.of_ext HWX.out, ?_⟩
            go_simp
            iterate 2 ((refine wpZ_q rfl rfl _ (fun w' hx' => by go_simp; try rfl) ?_; go_simp))
            refine wpZ_l rfl rfl (wp_store_row _ _ _ rfl (w.heap.size + 1) #[.int .i64 room, .slice a n cp] rfl rfl _ _ (HWX.out.heap' HH6.out) (by kernel_rfl) rfl (by simp [Value.oneCell']) ?_)
            have hgs := grown_setRow w9 (w.heap.size + 1) #[.int .i64 room, .slice a n cp]
            refine ⟨fun _ => (Chg.of_ext HWX.out).trans' (Chg.of_grown hgs (List.mem_singleton.2 rfl)), ?_⟩
            have hF := setRow_heap w9 (w.heap.size + 1) _ #[.int .i64 room, .slice a n cp] _ _ (HWX.out.heap' HH6.out)
            have hfin := (HM5.out.ext HWX.out).fin (HM5.out.2.2.1.ext HWX.out) rfl HS.out
            have HF := Lib.hid hF
            have HFIN := Lib.hid hfin
            generalize w9.setRow (w.heap.size + 1) #[.int .i64 room, .slice a n cp] = wF at HF HFIN hgs ⊢
            clear hF hfin hgs
            ((refine wpZ_q rfl rfl _ (fun w' hx' => by go_simp; try rfl) ?_; go_simp))
            refine wpZ_nil ?_
            go_wp2
            refine bodyPost_ret (results_c1 (ty := 28) rfl _ (w.heap.size + 1) [.int .i64 room, .slice a n cp] _ rfl (range_of_heap2 HF.out) Try.underlying28 rfl (by kernel_rfl)) rfl ?_
            exact ⟨a, n, cp, _, F, k2 + 1, rfl, HFIN.out.1, by omega, Keeps.refl _, HFIN.out.2.1, HFIN.out.2.2⟩
          have q8 := (neI (x := (u : Int)) (y := 8) (by omega)).1
          clear hu5 hu3 hu6 hu7 hu8 hu9
          have HCT := Lib.hid (content38_any g (k2 + 1) true w5 HT5.out (by omega))
          go_upto_region 31 with (first
            | (go_at_call 29; (with_reducible refine HCT.out.mono ?_); rintro en w6 ⟨S, ka, kn, kc, la, ln, lc, H, ja, jn, jc, Ls, k6, rfl, hLl, hkn, hLs, hSv, hid6, hch6, hln6, hHs, -, hjo, ht6, hk6, hg6⟩; have HM6 := Lib.hid (HM5.out.tick hg6 ht6); have HID6 := Lib.hid hid6; have HCH6 := Lib.hid hch6; have HLS := Lib.hid hLs; have HHS := Lib.hid hHs; have HLL := Lib.hid hLl; clear hid6 hch6 hLs hHs hLl hjo ht6 hg6 hSv; have HP := Lib.hid (put_new w6 #[.int .i64 0, .slice none 0 0] #[.int .i64 S, .slice ka kn kc] 60); have HN := Lib.hid (heap_alloc_new w6 (.cells #[.int .i64 0, .slice none 0 0] 60)))
            | ((with_reducible refine atStore 26 ?_); refine wpList_of_wp rfl (wp_store_row (o := ⟨none, _, _, _, _, _⟩) _ _ _ rfl w6.heap.size #[.int .i64 S, .slice ka kn kc] rfl rfl _ _ HN.out (by kernel_rfl) rfl (by simp [Value.oneCell']) ?_))
            | fail)
          obtain ⟨hx7, hh7⟩ := HP.out
          obtain ⟨bm, hbm⟩ : ∃ bm, bm = w6.heap.size := ⟨_, rfl⟩
          generalize (w6.alloc (.cells #[.int .i64 0, .slice none 0 0] 60)).setRow w6.heap.size #[.int .i64 S, .slice ka kn kc] = w7 at hx7 hh7 ⊢
          rw [← hbm] at hh7 ⊢
          have HM7 := Lib.hid (HM6.out.ext hx7)
          have HID7 := Lib.hid (own_ext HID6.out hx7)
          have HCH7 := Lib.hid (HCH6.out.ext hx7)
          have HMN7 := Lib.hid (show ManAt w7 bm S ka kn kc from hh7)
          have hrd := HMN7.out.rd
          have hKI := texts_ids1 HLS.out
          have hKL : (Ls.map idOf).length = kn := by rw [List.length_map, HLL.out]
          clear hx7 hh7 hbm HP HN HM6 HID6 HCH6 HM5 HI5 HB5 HT5 HCT
          obtain ⟨K, hK⟩ : ∃ K, K = Ls.map idOf := ⟨_, rfl⟩
          rw [← hK] at HID7 hKI hKL
          have HKI := Lib.hid hKI
          have HKL := Lib.hid hKL
          clear hK hKI hKL
          have HPU := Lib.hid (Content38_any B1 c room (L.map Re.en) F S ka kn kc K la ln lc H w7 HM7.out.2.1 (Row.of_own HID7.out) HKL.out (by omega) HKI.out HCH7.out.chs (by omega))
          obtain ⟨r, hr⟩ : ∃ r, r = conC room H (L.map Re.en) K S := ⟨_, rfl⟩
          rw [← hr] at HPU
          have HRE := Lib.hid hr
          clear hr
          go_upto_region 32 with (first
            | ((with_reducible refine atSlot 165 ?_); refine wpList_of_wp rfl (wp_load_mid (op := ⟨some 165, _, _, _, _, _⟩) 60 _ rfl bm 0 rfl [.int .i64 S, .slice ka kn kc] _ hrd Try.underlying60 rfl (by kernel_rfl) ?_); clear hrd)
            | (go_at_call 30; (with_reducible refine HPU.out.mono ?_); rintro en wa ⟨ya, yn, yc, rfl, hyo, hct⟩)
            | fail)
          obtain ⟨⟨FZ, hma⟩, hca, hta⟩ := HM7.out.prog hct
          have HMA := Lib.hid hma
          have HYA := Lib.hid hyo
          have HIDA := Lib.hid (own_chg HID7.out hca hta (by decide) (by decide))
          have HCHA := Lib.hid (show OwnChs wa w5.heap.size la ln lc H from ⟨HCH7.out.len, own_chg HCH7.out.own hca hta (by decide) (by decide), fun q hq => ⟨own_chg (HCH7.out.dat q hq).1 hca hta (by decide) (by decide), (HCH7.out.dat q hq).2⟩⟩)
          have hma2 : ManAt wa bm S ka kn kc := hca.heap HMN7.out (fun hm => by rcases hta _ hm _ _ _ HMN7.out with e | e <;> exact absurd e (by decide))
          have hia := hma2.rd
          have hra := range_of_heap2 hma.2.2.2.1
          have hzB : B2 ≤ wa.heap.size := Nat.le_trans hb3 hma.2.2.2.2.2.1.size
          have HRP := Lib.hid (refContent38_any B2 room a n cp L S ka kn kc K la ln lc H wa hma.2.2.1 hzB (Row.of_own HIDA.out) HKL.out (by omega) HKI.out HCHA.out.chs (by omega))
          rw [← HRE.out] at HRP
          clear hct hma hca hta hyo HPU HM7 HID7 HCH7 HMN7 hma2
          go_upto_region 33 with (first
            | ((with_reducible refine atSlot 171 ?_); refine wpList_of_wp rfl (wp_load_mid (op := ⟨some 171, _, _, _, _, _⟩) 28 _ rfl w.heap.size 0 rfl [.int .i64 room, .slice a n cp] _ hra Try.underlying28 rfl (by kernel_rfl) ?_); clear hra)
            | ((with_reducible refine atSlot 172 ?_); refine wpList_of_wp rfl (wp_load_mid (op := ⟨some 172, _, _, _, _, _⟩) 60 _ rfl bm 0 rfl [.int .i64 S, .slice ka kn kc] _ hia Try.underlying60 rfl (by kernel_rfl) ?_); clear hia)
            | (go_at_call 51; (with_reducible refine HRP.out.mono ?_); rintro en wb ⟨a', n', cp', L', xa, xn, xc, rfl, hR', hE', hbo, hxb⟩; have HRB := Lib.hid hR'; have HEB := Lib.hid hE'; have HBA := Lib.hid hbo; have HXB := Lib.hid hxb; clear hR' hE' hbo hxb; have HP := Lib.hid (put_new wb #[.int .i64 0, .slice none 0 0] #[.int .i64 room, .slice a' n' cp'] 28); have HN := Lib.hid (heap_alloc_new wb (.cells #[.int .i64 0, .slice none 0 0] 28)))
            | ((with_reducible refine atStore 31 ?_); refine wpList_of_wp rfl (wp_store_row (o := ⟨none, _, _, _, _, _⟩) _ _ _ rfl wb.heap.size #[.int .i64 room, .slice a' n' cp'] rfl rfl _ _ HN.out (by kernel_rfl) rfl (by simp [Value.oneCell']) ?_))
            | fail)
          obtain ⟨hxc, hhc⟩ := HP.out
          obtain ⟨b12, hb12⟩ : ∃ b12, b12 = wb.heap.size := ⟨_, rfl⟩
          generalize (wb.alloc (.cells #[.int .i64 0, .slice none 0 0] 28)).setRow wb.heap.size #[.int .i64 room, .slice a' n' cp'] = wz at hxc hhc ⊢
          rw [← hb12] at hhc ⊢
          have HH12 := Lib.hid hhc
          have HXY := Lib.hid hxc
          have HXZ := Lib.hid (HXB.out.trans' hxc)
          have HRZ := Lib.hid (HRB.out.ext hxc)
          have HMZ := Lib.hid (HMA.out.ext HXZ.out)
          have hbz : w.heap.size + 1 < b12 := by
            have h1 := (Array.getElem?_eq_some_iff.1 HMA.out.2.2.2.2.1).1
            have h2 := HXB.out.size
            omega
          clear hxc hhc hb12 HP HN
          have HH6T := Lib.hid HMZ.out.2.2.2.2.1
          have HYB := Lib.hid fun w' (h : Chg [(w.heap.size + 1)] wz w') => Bytes.of_own (own_chgT (own_ext HYA.out HXZ.out) h (one_type HH6T.out (by decide)))
          have HYC := Lib.hid fun w' (h : Chg [(w.heap.size + 1)] wz w') => Bytes.of_own (own_chgT (own_ext HBA.out HXY.out) h (one_type HH6T.out (by decide)))
          have hck := conC_kept (K := K) (S := S) HHS.out HOK.out.1 HS.out
          have HKP := Lib.hid (show Keeps (L.map Re.en) r.1 by rw [HRE.out]; exact hck.2.2.keeps)
          have HSZ := Lib.hid (show ShE r.1 by rw [HRE.out]; exact hck.2.1)
          have HEZ := HEB
          obtain ⟨er, her⟩ : ∃ er, er = r.2.2 := ⟨_, rfl⟩
          rw [← her]
          have q1 := (eqI (x := er) (y := er) rfl).1
          obtain ⟨kz, hkz⟩ : ∃ kz, kz = k6 := ⟨_, rfl⟩
          rw [← hkz] at HMZ
          clear her hck
          have hh6 := HMZ.out.2.2.2.2.1
          have HH6 := Lib.hid hh6
          have hn12 : b12 ∉ [(w.heap.size + 1)] := fun h => by rw [List.mem_singleton] at h; omega
          have HN12 := Lib.hid hn12
          have HR12 := Lib.hid fun w' (h : Chg [(w.heap.size + 1)] wz w') => range_of_heap2 (h.heap HH12.out HN12.out)
          have R0 : Chg [(w.heap.size + 1)] wz wz.drew := Chg.drew _ _
          clear hh6 hn12
          refine wp_region_z (fun w' => Chg [(w.heap.size + 1)] wz w') R0 [] (.qs [0, 1, 2, 3, 4, 5, 6, 7, 8, 9, 10] (.l 11 (.qs [12] .nil))) (by kernel_rfl) (by kernel_rfl) ?_
          refine wpZ_ld rfl rfl (.tmp 31) rfl b12 0 rfl [.int .i64 room, .slice a' n' cp'] _ HR12.out Try.underlying28 rfl (by kernel_rfl) ?_
          go_simp
          iterate 5 ((refine wpZ_q rfl rfl _ (fun w' hx' => by go_simp; try rfl) ?_; go_simp))
          refine wpZ_conv rfl rfl (.tmp 183) rfl rfl HYB.out Try.underlying42 Try.underlying5 Try.underlying9 ?_
          ((refine wpZ_q rfl rfl _ (fun w' hx' => by go_simp; try rfl) ?_; go_simp))
          refine wpZ_conv rfl rfl (.tmp 185) rfl rfl HYC.out Try.underlying42 Try.underlying5 Try.underlying9 ?_
          iterate 2 ((refine wpZ_q rfl rfl _ (fun w' hx' => by go_simp; try rfl) ?_; go_simp))
          have HWX := Lib.hid (Ext.drew' wz)
          refine wpZ_l rfl rfl (wp_store_row _ _ _ rfl (w.heap.size + 1) #[.int .i64 room, .slice a' n' cp'] rfl rfl _ _ (HWX.out.heap' HH6.out) (by kernel_rfl) rfl (by simp [Value.oneCell']) ?_)
          have hgs := grown_setRow wz.drew (w.heap.size + 1) #[.int .i64 room, .slice a' n' cp']
          refine ⟨fun _ => (Chg.of_ext HWX.out).trans' (Chg.of_grown hgs (List.mem_singleton.2 rfl)), ?_⟩
          have hF := setRow_heap wz.drew (w.heap.size + 1) _ #[.int .i64 room, .slice a' n' cp'] _ _ (HWX.out.heap' HH6.out)
          have hfin := (HMZ.out.ext HWX.out).fin (HRZ.out.ext HWX.out) HEZ.out HSZ.out
          have HF := Lib.hid hF
          have HFIN := Lib.hid hfin
          generalize wz.drew.setRow (w.heap.size + 1) #[.int .i64 room, .slice a' n' cp'] = wF at HF HFIN hgs ⊢
          clear hF hfin hgs
          ((refine wpZ_q rfl rfl _ (fun w' hx' => by go_simp; try rfl) ?_; go_simp))
          refine wpZ_nil ?_
          go_wp2
          refine bodyPost_ret (results_c1 (ty := 28) rfl _ (w.heap.size + 1) [.int .i64 room, .slice a' n' cp'] _ rfl (range_of_heap2 HF.out) Try.underlying28 rfl (by kernel_rfl)) rfl ?_
          exact ⟨a', n', cp', _, FZ, kz, rfl, HFIN.out.1, by omega, HKP.out, HFIN.out.2.1, HFIN.out.2.2⟩
end Go.Proofs.Ytpiodpljiklfkaa
/-
  The law's is: a cache and its twin.
-/
namespace Go.Proofs.Ytpiodpljiklfkaa
open Go.RowKit
theorem atF_self {E : List En} (h : (E.map En.id).Nodup) {i : Nat} {x : En} (hx : E[i]? = some x) : atF x.id E = some i :=
  atF_of hx rfl fun j hj y hy he => by
    have hi := (List.getElem?_eq_some_iff.1 hx).1
    have h1 : (E.map En.id)[j]? = some x.id := by rw [List.getElem?_map, hy, ← he]; rfl
    have h2 : (E.map En.id)[i]? = some x.id := by rw [List.getElem?_map, hx]; rfl
    have := (List.getElem?_inj (i := j) (j := i) (by rw [List.length_map]; omega) h).1 (h1.trans h2.symm)
    omega
theorem size_mem : ∀ {E : List En} {y : En}, y ∈ E → y.l.length ≤ sizeF E
  | [], y, h => by cases h
  | x :: E, y, h => by
    simp only [sizeF]
    rcases List.mem_cons.1 h with rfl | h
    · omega
    · have := size_mem h; omega
theorem pins_self {E : List En} (h : (E.map En.id).Nodup) {i : Nat} {x : En} (hx : E[i]? = some x) : pinsC E x.id = x.p := by
  unfold pinsC
  rw [atF_self h hx]
  simp only [hx, Option.map_some, Option.getD_some]
def IsRel (w : World) (n : Nat) (i : Value) (wr : World) : Prop := ∃ j : Nat, i = .int .i64 j ∧ j ≤ n ∧ Ext w wr

set_option maxRecDepth 100000 in
set_option maxHeartbeats 4000000 in
theorem is38_any (B1 B2 c room : Nat) (a : Option Addr) (n cp : Nat) (L : List Re) (F : List Nat) (w : World) (hC : Cac w B1 c room (L.map Re.en) F) (hR : Rc w B2 room a n cp L) :
    Calls Try.prog 33 #[.pointer (some ⟨c, 0, none⟩), .agg #[.int .i64 room, .slice a n cp]] w (NewNone (.bool true) w) := by
  have hx1 := Ext.alloc' w (.cells #[.int .i64 room, .slice a n cp] 28)
  have hh1 := heap_alloc_new w (.cells #[.int .i64 room, .slice a n cp] 28)
  have HL := Lib.hid hR.len
  have hfew := hR.few
  have HC := Lib.hid (hC.ext hx1)
  have HR := Lib.hid (hR.ext hx1)
  have HX := Lib.hid hx1
  clear hC hR
  go_enter Try.func33, Try.ntmps33
  go_upto_region 1 with fail
  generalize w.alloc (.cells #[.int .i64 room, .slice a n cp] 28) = w1 at hx1 hh1 HC HR HX ⊢
  have HG := Lib.hid fun w' (h : Ext w1 w') => range_of_heap2 (h.heap' hh1)
  have HF1 := Lib.hid fun w' (h : Ext w1 w') => cell_of_row w' w.heap.size 1 _ _ _ (h.heap' hh1)
  have HI := Lib.hid fun w' (h : Ext w1 w') => IDs_any B1 c room _ F w' (HC.out.ext h)
  have HJ := Lib.hid fun w' (h : Ext w1 w') => refIDs38_any B2 room a n cp L w' (HR.out.ext h)
  have HY := Lib.hid fun w' (h : Ext w1 w') => Bytes38_any B1 c room _ F w' (HC.out.ext h)
  have HZ := Lib.hid fun w' (h : Ext w1 w') => refBytes38_any B2 room a n cp L false w' (HR.out.ext h)
  have hcnt := HC.out.ok.1.count
  have hmx := HC.out.ok.2
  obtain ⟨sz, hsz⟩ : ∃ sz, sz = sizeF (L.map Re.en) := ⟨_, rfl⟩
  have hby : byF false (L.map Re.en) = sz := by unfold byF; rw [if_neg (by simp), hsz]
  rw [← hsz] at HY
  rw [hby] at HZ
  have hsf := HC.out.ok.1.fits
  rw [← hsz] at hsf
  obtain ⟨q1, q2⟩ := eqI (x := (sz : Int)) (y := (sz : Int)) rfl
  obtain ⟨ids, hids⟩ : ∃ ids, ids = (L.map Re.en).map En.id := ⟨_, rfl⟩
  rw [← hids] at HI HJ
  have hil : ids.length = n := by rw [hids, List.length_map, List.length_map, HL.out]
  have HIL := Lib.hid hil
  have E1 := Ext.drew' w1
  clear hx1 hh1 hsz hby hids hil hcnt
  refine wp_region_e [] (.qs [0, 2] (.l 1 (.l 3 (.l 4 (.qs [5, 6, 7, 9] (.l 8 (.l 10 (.qs [11, 12] .nil)))))))) (by kernel_rfl) (by kernel_rfl) ?_
  ((refine wpY_q rfl rfl _ (fun w' hx' => by go_simp; try rfl) ?_; go_simp))
  refine wpY_ld rfl rfl (.tmp 3) rfl w.heap.size 0 rfl [.int .i64 room, .slice a n cp] _ HG.out Try.underlying28 rfl (by kernel_rfl) ?_
  refine wpY_l rfl rfl ?_
  go_simp
  refine (HI.out _ E1).mono ?_
  rintro en w2 ⟨ia, im, ic, rfl, him, hio, hx2⟩
  have E2 := E1.trans' hx2
  refine ⟨E2, ?_⟩
  go_simp
  refine wpY_l rfl rfl ?_
  go_simp
  refine (HJ.out _ E2).mono ?_
  rintro en w3 ⟨ja, jm, jc, rfl, hjm, hjo, hx3⟩
  have E3 := E2.trans' hx3
  refine ⟨E3, ?_⟩
  go_simp
  subst him
  subst hjm
  refine wpY_l rfl rfl ?_
  go_simp
  refine (SameIDs_any ia ids.length ic ja jc ids w3 (Row.of_own (own_ext hio hx3)) (Row.of_own hjo) rfl (by have := HIL.out; omega)).mono ?_
  rintro en w4 ⟨rfl, hx4⟩
  have E4 := E3.trans' hx4
  refine ⟨E4, ?_⟩
  go_simp
  iterate 3 ((refine wpY_q rfl rfl _ (fun w' hx' => by go_simp; try rfl) ?_; go_simp))
  refine wpY_ld rfl rfl (.tmp 3) rfl w.heap.size 0 rfl [.int .i64 room, .slice a n cp] _ HG.out Try.underlying28 rfl (by kernel_rfl) ?_
  refine wpY_l rfl rfl ?_
  go_simp
  refine (HY.out _ E4).mono ?_
  rintro en w5 ⟨rfl, hx5⟩
  have E5 := E4.trans' hx5
  refine ⟨E5, ?_⟩
  go_simp
  refine wpY_l rfl rfl ?_
  go_simp
  refine (HZ.out _ E5).mono ?_
  rintro en w6 ⟨rfl, hx6⟩
  have E6 := E5.trans' hx6
  refine ⟨E6, ?_⟩
  go_simp
  iterate 2 ((refine wpY_q rfl rfl _ (fun w' hx' => by go_simp; try rfl) ?_; go_simp))
  refine wpY_nil ?_
  have HX6 := Lib.hid E6
  have hcb := HF1.out w6 E6
  clear hio hjo hx2 hx3 hx4 hx5 hx6 E1 E2 E3 E4 E5 E6 q1 q2
  go_wp2
  go_loopw [5] (IsRel w1 n) (fun i _ => n - (intOf i).toNat)
  case atStart => exact ⟨0, rfl, Nat.zero_le _, HX6.out⟩
  case round =>
    obtain ⟨j, rfl, hj, hx⟩ := hrel
    rename World => w7
    clear hcb
    have hcb := HF1.out w7 hx
    by_cases hjn : j < n
    · obtain ⟨y, hy⟩ : ∃ y, L[j]? = some y := ⟨_, List.getElem?_eq_getElem (by have := HL.out; omega)⟩
      have hen : (L.map Re.en)[j]? = some y.en := by rw [List.getElem?_map, hy]; rfl
      have hat := atF_self HC.out.ok.1.apart hen
      have hps := pins_self HC.out.ok.1.apart hen
      have hk := Re.keys HR.out (List.mem_of_getElem? hy)
      have hyz : -9223372036854775808 ≤ y.z ∧ y.z ≤ 9223372036854775807 := by
        have h2 := HR.out.ok.right y.en (List.mem_map_of_mem (List.mem_of_getElem? hy))
        have h3 := HR.out.ok.fits
        have h4 := Nat.le_trans (size_mem (List.mem_map_of_mem (f := Re.en) (List.mem_of_getElem? hy))) h3
        have h5 : y.en.l = y.l := rfl
        have := HR.out.max
        rw [h5] at h4
        omega
      have HH := Lib.hid fun w' (h : Ext w1 w') => Has_any B1 c room _ F y.s y.z w' (HC.out.ext h) hk.1 hyz
      have HP := Lib.hid fun w' (h : Ext w1 w') => Pins_any B1 c room _ F y.s y.z w' (HC.out.ext h) hk.1 hyz
      have hid : y.en.id = (y.s, y.z) := rfl
      rw [← hid, hat] at HH
      rw [← hid, hps] at HP
      have hyp : y.en.p = y.p := rfl
      rw [hyp] at HP
      obtain ⟨q1, q2⟩ := eqI (x := (y.p : Int)) (y := (y.p : Int)) rfl
      have hrow := (HR.out.ext hx).row
      have HY := Lib.hid hy
      have HRW := Lib.hid fun w' (h : Ext w1 w') => (HR.out.ext h).row
      have HPN := Lib.hid (put_new w7 #[.int .u64 0, .int .i64 0] #[.int .u64 y.s, .int .i64 y.z] 45)
      have HN := Lib.hid (heap_alloc_new w7 (.cells #[.int .u64 0, .int .i64 0] 45))
      clear hy hen hat hps hk hyz hid hyp
      go_upto_region 7 with (first
        | ((with_reducible refine atSlot 30 ?_); refine wpList_of_wp rfl (owp_ix (o := ⟨some 30, _, _, _, _, _⟩) _ _ rfl Try.elRe rfl hrow j rfl rfl hjn ?_); intro b3 o3 hc3; have hid3 := re_id HY.out hc3; clear hc3)
        | ((with_reducible refine atSlot 33 ?_); refine wpList_of_wp rfl (wp_load_mid (op := ⟨some 33, _, _, _, _, _⟩) 45 _ rfl b3 o3 rfl [.int .u64 y.s, .int .i64 y.z] _ hid3 Try.underlying45 rfl (by kernel_rfl) ?_); clear hid3)
        | ((with_reducible refine atStore 6 ?_); refine wpList_of_wp rfl (wp_store_row (o := ⟨none, _, _, _, _, _⟩) _ _ _ rfl w7.heap.size #[.int .u64 y.s, .int .i64 y.z] rfl rfl _ _ HN.out (by kernel_rfl) rfl (by simp [Value.oneCell']) ?_))
        | fail)
      obtain ⟨hx8, hh8⟩ := HPN.out
      clear HPN HN hrow
      generalize (w7.alloc (.cells #[.int .u64 0, .int .i64 0] 45)).setRow w7.heap.size #[.int .u64 y.s, .int .i64 y.z] = w8 at hx8 hh8 ⊢
      have hX8 := hx.trans' hx8
      have HX8 := Lib.hid hX8
      have HID := Lib.hid fun w' (h : Ext w8 w') => range_of_heap2 (h.heap' hh8)
      have HC8 := Lib.hid fun w' (h : Ext w8 w') => HF1.out w' (hX8.trans' h)
      have HR8 := Lib.hid fun w' (h : Ext w8 w') => HRW.out w' (hX8.trans' h)
      have E8 := Ext.drew' w8
      clear hh8 hx8 hX8 hcb
      refine wp_region_e [] (.qs [0, 1] (.l 2 (.qs [3, 4, 5, 6, 8, 9, 10, 11, 12, 13] (.l 7 (.qs [14, 15] .nil))))) (by kernel_rfl) (by kernel_rfl) ?_
      ((refine wpY_q rfl rfl _ (fun w' hx' => by go_simp; try rfl) ?_; go_simp))
      refine wpY_ld rfl rfl (.tmp 6) rfl w7.heap.size 0 rfl [.int .u64 y.s, .int .i64 y.z] _ HID.out Try.underlying45 rfl (by kernel_rfl) ?_
      refine wpY_l rfl rfl ?_
      go_simp
      refine (HH.out _ (HX8.out.trans' E8)).mono ?_
      rintro en w9 ⟨rfl, hx9⟩
      have E9 := E8.trans' hx9
      refine ⟨E9, ?_⟩
      go_simp
      iterate 3 ((refine wpY_q rfl rfl _ (fun w' hx' => by go_simp; try rfl) ?_; go_simp))
      refine wpY_ld rfl rfl (.tmp 6) rfl w7.heap.size 0 rfl [.int .u64 y.s, .int .i64 y.z] _ HID.out Try.underlying45 rfl (by kernel_rfl) ?_
      ((refine wpY_q rfl rfl _ (fun w' hx' => by go_simp; try rfl) ?_; go_simp))
      refine wpY_q rfl rfl (.slice a n cp) (fun w' hx' => by have hb' := HC8.out w' hx'; go_simp; try rfl) ?_
      go_simp
      ((refine wpY_q rfl rfl _ (fun w' hx' => by go_simp; try rfl) ?_; go_simp))
      refine wpY_ix rfl rfl (.tmp 43) (.tmp 44) rfl Try.elRe rfl HR8.out j rfl rfl hjn ?_
      intro b3 o3 hc3
      have HC3 := Lib.hid hc3
      clear hc3
      ((refine wpY_q rfl rfl _ (fun w' hx' => by go_simp; try rfl) ?_; go_simp))
      refine wpY_q rfl rfl (.int .i64 y.p) (fun w' hx' => by have hb' := re_pins HY.out (fun q hq => HC3.out q hq w' hx'); go_simp; try rfl) ?_
      go_simp
      refine wpY_l rfl rfl ?_
      go_simp
      refine (HP.out _ (HX8.out.trans' E9)).mono ?_
      rintro en wa ⟨rfl, hxa⟩
      have Ea := E9.trans' hxa
      refine ⟨Ea, ?_⟩
      go_simp
      iterate 2 ((refine wpY_q rfl rfl _ (fun w' hx' => by go_simp; try rfl) ?_; go_simp))
      refine wpY_nil ?_
      have HXA := Lib.hid (HX8.out.trans' Ea)
      go_wp2
      go_roundw
      case rel => exact ⟨j + 1, by go_num, hjn, HXA.out⟩
      case measure => simp [intOf]; omega
    · obtain rfl : j = n := by omega
      clear hj hjn
      go_wp2
      go_ret
      exact ⟨rfl, HX.out.trans' hx⟩
end Go.Proofs.Ytpiodpljiklfkaa
/-
  The law's lived: a cache and its twin after some calls.
-/
namespace Go.Proofs.Ytpiodpljiklfkaa
open Go.RowKit
theorem results_tct {P : Program} {w : World} {fn : Func} {t0 p t1 : Tmp} {ty : TypeId} (h : fn.results = #[.tmp t0, .cell p ty, .tmp t1]) (tmps : Array Value) (g : Nat) (cs : List Value) (d : TypeDesc)
    (hp : tmps.getD p undef = .pointer (some ⟨g, 0, none⟩)) (hc : w.rangeAt g 0 cs)
    (hu : P.underlying ty = some d) (hd : d.isRow = true) (hi : (P.info? ty).map (·.size) = some cs.length) :
    (results fn tmps).run P w = .ok (.tuple #[tmps.getD t0 undef, .agg cs.toArray, tmps.getD t1 undef]) w := by
  have hp' : tmps[p]?.getD undef = .pointer (some ⟨g, 0, none⟩) := by simpa using hp
  simp [results, h, hp', asAddr, run_loadVar_mid w g 0 ty cs d hc hu hd hi]
section
variable {w w' : World} {g k k' c room n cp : Nat} {a : Option Addr} {E : List En} {F : List Nat}
theorem Duo.tape (h : Duo w g k c room a n cp E F) : Tape w g k := by
  obtain ⟨B1, B2, L, h1, -⟩ := h
  exact h1
theorem Duo.typed (h : Duo w g k c room a n cp E F) : TypedG w (g :: F) := by
  obtain ⟨B1, B2, L, h1, -, -, -, h2, -⟩ := h
  exact h1.typed h2.typed
theorem Duo.ok (h : Duo w g k c room a n cp E F) : OkE room E ∧ room ≤ 1048576 ∧ ShE E := by
  obtain ⟨B1, B2, L, -, -, -, -, h2, -, -, h3⟩ := h
  exact ⟨h2.ok.1, h2.ok.2, h3⟩
theorem Duo.ext (h : Duo w g k c room a n cp E F) (hx : Ext w w') : Duo w' g k c room a n cp E F := by
  obtain ⟨B1, B2, L, h1, h2, h3, h4, h5, h6, h7, h8⟩ := h
  exact ⟨B1, B2, L, h1.ext hx, h2, h3, Nat.le_trans h4 hx.size, h5.ext hx, h6.ext hx, h7, h8⟩
theorem Duo.tick (h : Duo w g k c room a n cp E F) (hg : w.grownBy w' (some g)) (ht : Tape w' g k') : Duo w' g k' c room a n cp E F := by
  obtain ⟨B1, B2, L, h1, h2, h3, h4, h5, h6, h7, h8⟩ := h
  exact ⟨B1, B2, L, ht, h2, h3, Nat.le_trans h4 hg.size, h5.tick hg h2, h6.tick hg h3, h7, h8⟩
/-- A block of another type changes. -/
theorem Duo.box {b : Nat} {cs : Array Value} {t : TypeId} {fr : Nat × Nat} (h : Duo w g k c room a n cp E F) (hh : w.heap[b]? = some (.cells cs t fr)) (hg : w.grownBy w' (some b)) (hb : g < b)
    (t1 : t ≠ 81) (t2 : t ≠ 79) (t3 : t ≠ 5) (t4 : t ≠ 106) : Duo w' g k c room a n cp E F := by
  obtain ⟨B1, B2, L, h1, h2, h3, h4, h5, h6, h7, h8⟩ := h
  have hc : Chg [b] w w' := Chg.of_grown hg (List.mem_singleton.2 rfl)
  have hn : ∀ j ∈ F, j ∉ [b] := fun j hj hm => by
    rw [List.mem_singleton] at hm
    subst hm
    rcases h5.typed _ hj _ _ _ hh with e | e
    · exact t1 e
    · exact t2 e
  obtain ⟨m, e, N, LN, hC, hE, rfl⟩ := h5
  refine ⟨B1, B2, L, h1.grown hg (fun j hj => by cases hj; exact hb), h2, h3, Nat.le_trans h4 hg.size, ⟨m, e, N, LN, ?_, hE, rfl⟩, ?_, h7, h8⟩
  · exact { box := hC.box.chg hc (hn c (by simp))
            nodes := fun j hj => (hC.nodes j hj).chg hc (hn j (by rcases List.mem_cons.1 hj with rfl | hj <;> simp [*]))
            ring := hC.ring
            nodup := hC.nodup
            map := hC.map.chg hc (hn m (by simp))
            data := fun j hj => own_chgT (hC.data j hj) hc (one_type hh t3)
            base := hC.base
            ok := hC.ok
            max := hC.max }
  · exact ⟨own_chgT h6.own hc (one_type hh t4), fun q hq => own_chgT (h6.data q hq) hc (one_type hh t3), h6.ok, h6.max⟩
end
theorem grown_chgG {w wr w' : World} {g : Nat} {F : List Nat} (h : w.grownBy wr (some g)) (hc : Chg (g :: F) wr w') (hF : ∀ j ∈ F, w.heap.size ≤ j) : w.grownBy w' (some g) :=
  ⟨hc.os.trans h.os, hc.tape.trans h.tape, hc.output.trans h.output, Nat.le_trans h.size hc.size, fun k hk hn => (hc.block k (Nat.lt_of_lt_of_le hk h.size) fun hm => by
    rcases List.mem_cons.1 hm with rfl | hm
    · exact hn rfl
    · have := hF k hm; omega).trans (h.block k hk hn)⟩
/-- What lived answers. -/
def LivO (w : World) (g k : Nat) (en : Ending) (w' : World) : Prop :=
  ∃ (c room : Nat) (a : Option Addr) (n cp : Nat) (E : List En) (F : List Nat) (k' : Nat), en = .returned (.tuple #[.pointer (some ⟨c, 0, none⟩), .agg #[.int .i64 room, .slice a n cp], .bool true]) ∧ Duo w' g k' c room a n cp E F ∧ 1 ≤ room ∧ room ≤ 14 ∧ k' ≤ k + 2000 ∧ w.grownBy w' (some g) ∧ ∀ j ∈ F, w.heap.size ≤ j
def RcB (w : World) (b room : Nat) (a : Option Addr) (n cp : Nat) : Prop := w.heap[b]? = some (.cells #[.int .i64 room, .slice a n cp] 28 (0, 0))
theorem RcB.not {w : World} {G : List Nat} {b room n cp : Nat} {a : Option Addr} (h : RcB w b room a n cp) (hT : TypedG w G) : b ∉ G := fun hm => by
  rcases hT _ hm _ _ _ h with e | e | e <;> exact absurd e (by decide)
def LvRel (w : World) (g k c room b10 : Nat) (i : Value) (wr : World) : Prop :=
  ∃ (j k1 : Nat) (a : Option Addr) (n cp : Nat) (E : List En) (F : List Nat), i = .int .i64 j ∧ j ≤ 14 ∧ k1 + 80 * j ≤ k + 1200 ∧ Duo wr g k1 c room a n cp E F ∧ RcB wr b10 room a n cp ∧ RcB wr w.heap.size 0 none 0 0 ∧ w.grownBy wr (some g) ∧ ∀ q ∈ F, w.heap.size ≤ q

set_option maxRecDepth 100000 in
set_option maxHeartbeats 8000000 in
theorem lived38_any (g k N : Nat) (w : World) (ht : Tape w g k) (hk : k ≤ 1000) (hN : N ≤ 14) :
    Calls Try.prog 27 #[.pointer (some ⟨g, 0, none⟩), .int .i64 N] w (LivO w g k) := by
  have hgl := ht.lt
  have hx1 := Ext.alloc' w (.cells #[.int .i64 0, .slice none 0 0] 28)
  have hh1 : RcB (w.alloc (.cells #[.int .i64 0, .slice none 0 0] 28)) w.heap.size 0 none 0 0 := heap_alloc_new w _
  have HT1 := Lib.hid (ht.ext hx1)
  have HG1 := Lib.hid (grown_extS g hx1)
  have HH1 := Lib.hid hh1
  clear ht hh1
  go_enter Try.func27, Try.ntmps27
  go_upto_region 1 with fail
  generalize w.alloc (.cells #[.int .i64 0, .slice none 0 0] 28) = w1 at hx1 HT1 HG1 HH1 ⊢
  go_upto_region 2 with (first
    | (go_at_call 18; (with_reducible refine (Next_any g k 14 _ HT1.out (by omega) (by omega)).mono ?_); rintro e w2 ⟨u, rfl, hu, ht2, hg2⟩; have hu13 : u ≤ 13 := (by unfold Below1 at hu; omega); clear hu)
    | fail)
  have hh2 : RcB w2 w.heap.size 0 none 0 0 := heap_other HH1.out hg2 (fun e => by cases e; omega)
  have HG2 := Lib.hid (grown_trans' HG1.out hg2)
  have HT2 := Lib.hid ht2
  have HH2 := Lib.hid hh2
  have hgl2 := ht2.lt
  clear hg2 ht2 hh2 HG1 HT1 HH1
  obtain ⟨room, hroom⟩ : ∃ room, room = 1 + u := ⟨_, rfl⟩
  have hri : (1 : Int) + (u : Int) = room := by omega
  rw [hri]
  have hr1 : 1 ≤ room := by omega
  have hr14 : room ≤ 14 := by omega
  clear hri hroom hu13
  have HNW := Lib.hid (New38_at room w2 hr1 (by omega))
  go_upto_region 3 with (first
    | (go_at_call 12; (with_reducible refine HNW.out.mono ?_); rintro en w3 ⟨c, F, rfl, hC3, hx3⟩)
    | fail)
  have HC3 := Lib.hid hC3
  have HX3 := Lib.hid hx3
  clear hC3 hx3 HNW
  have HRN := Lib.hid (refNew38_any (room : Int) w3)
  go_upto_region 4 with (first
    | (go_at_call 13; (with_reducible refine HRN.out.mono ?_); rintro en w4 ⟨⟨r, er, rfl, hor⟩, hx4⟩; obtain ⟨rfl, rfl⟩ : r = room ∧ er = 0 := (by rcases hor with ⟨h1, -⟩ | ⟨-, -, h2, h3⟩; (omega); exact ⟨h2, h3⟩); have HX4 := Lib.hid hx4; clear hx4 hor; have HP := Lib.hid (put_new w4 #[.int .i64 0, .slice none 0 0] #[.int .i64 room, .slice none 0 0] 28); have HN := Lib.hid (heap_alloc_new w4 (.cells #[.int .i64 0, .slice none 0 0] 28)))
    | ((with_reducible refine atStore 10 ?_); refine wpList_of_wp rfl (wp_store_row (o := ⟨none, _, _, _, _, _⟩) _ _ _ rfl w4.heap.size #[.int .i64 room, .slice none 0 0] rfl rfl _ _ HN.out (by kernel_rfl) rfl (by simp [Value.oneCell']) ?_))
    | fail)
  obtain ⟨hx5, hh5⟩ := HP.out
  obtain ⟨b10, hb10⟩ : ∃ b10, b10 = w4.heap.size := ⟨_, rfl⟩
  generalize (w4.alloc (.cells #[.int .i64 0, .slice none 0 0] 28)).setRow w4.heap.size #[.int .i64 room, .slice none 0 0] = w5 at hx5 hh5 ⊢
  rw [← hb10] at hh5 ⊢
  have hx25 := HX3.out.trans' (HX4.out.trans' hx5)
  have hz2 := HG2.out.size
  have hwb : w.heap.size < b10 := by
    have h1 := (Array.getElem?_eq_some_iff.1 HH2.out).1
    have h2 := HX3.out.size
    have h3 := HX4.out.size
    omega
  have hD5 : Duo w5 g (k + 1) c room none 0 0 [] F := by
    refine ⟨w2.heap.size, w2.heap.size, [], HT2.out.ext hx25, hgl2, hgl2, hx25.size, HC3.out.ext (HX4.out.trans' hx5), ⟨own_nil _ _ _ _, (fun q hq => by cases hq), OkE.nil room, by omega⟩, rfl, fun x hx => by cases hx⟩
  have HD5 := Lib.hid hD5
  have HB5 := Lib.hid (show RcB w5 b10 room none 0 0 from hh5)
  have HR5 := Lib.hid (show RcB w5 w.heap.size 0 none 0 0 from hx25.heap' HH2.out)
  have HG5 := Lib.hid (grown_trans' HG2.out (grown_extS g hx25))
  have HF5 := Lib.hid (show ∀ q ∈ F, w.heap.size ≤ q from fun q hq => Nat.le_trans hz2 (HC3.out.base q hq))
  have HTN := Lib.hid (Next_any g (k + 1) ((N : Int) + 1) w5 hD5.tape (by omega) (by omega))
  clear hD5 hx25 hx5 hh5 hb10 HP HN HRN HX3 HX4 HC3 HT2 HG2 HH2
  have hwn : wrap64 ((N : Int) + 1) = (N : Int) + 1 := by unfold wrap64; omega
  go_wp2_with (first
    | (go_at_call 18; (with_reducible refine HTN.out.mono ?_); rintro e w6 ⟨cn, rfl, hcn, ht6, hg6⟩; have hcn' : cn ≤ 14 := (by unfold Below1 at hcn; omega); have HD6 := Lib.hid (HD5.out.tick hg6 ht6); have HB6 := Lib.hid (show RcB w6 b10 room none 0 0 from heap_other HB5.out hg6 (fun e => by cases e; omega)); have HR6 := Lib.hid (show RcB w6 w.heap.size 0 none 0 0 from heap_other HR5.out hg6 (fun e => by cases e; omega)); have HG6 := Lib.hid (grown_trans' HG5.out hg6); clear hcn ht6 hg6)
    | fail)
  go_loopw [12] (LvRel w g k c room b10) (fun i _ => (intOf i).toNat)
  case atStart => exact ⟨cn, k + 2, none, 0, 0, [], F, rfl, hcn', by omega, HD6.out, HB6.out, HR6.out, HG6.out, HF5.out⟩
  case round =>
    obtain ⟨j, k1, a, n, cp, E, F7, rfl, hj14, hk1, hD7, hB7, hR7, hG7, hF7⟩ := hrel
    rename World => w7
    have HD7 := Lib.hid hD7
    have HB7 := Lib.hid hB7
    have HR7 := Lib.hid hR7
    have HG7 := Lib.hid hG7
    have HF7 := Lib.hid hF7
    clear hD7 hB7 hR7 hG7 hF7 HD6 HB6 HR6 HG6 HD5 HB5 HR5 HG5 HF5 HTN
    by_cases hj : 0 < j
    · have hrd := range_of_heap2 HB7.out
      have HST := Lib.hid (step38_any g k1 c room a n cp E F7 w7 HD7.out (by omega))
      go_upto_region 10 with (first
        | ((with_reducible refine atSlot 46 ?_); refine wpList_of_wp rfl (wp_load_mid (op := ⟨some 46, _, _, _, _, _⟩) 28 _ rfl b10 0 rfl [.int .i64 room, .slice a n cp] _ hrd Try.underlying28 rfl (by kernel_rfl) ?_); clear hrd)
        | (go_at_call 32; (with_reducible refine HST.out.mono ?_); rintro en w8 ⟨a8, n8, cp8, E8, F8, k8, rfl, hD8, hk8, -, hC8, hF8⟩; have HD8 := Lib.hid hD8; have HC8 := Lib.hid hC8; have HF8 := Lib.hid hF8; clear hD8 hC8 hF8; have HP := Lib.hid (put_new w8 #[.int .i64 0, .slice none 0 0] #[.int .i64 room, .slice a8 n8 cp8] 28); have HN := Lib.hid (heap_alloc_new w8 (.cells #[.int .i64 0, .slice none 0 0] 28)))
        | ((with_reducible refine atStore 13 ?_); refine wpList_of_wp rfl (wp_store_row (o := ⟨none, _, _, _, _, _⟩) _ _ _ rfl w8.heap.size #[.int .i64 room, .slice a8 n8 cp8] rfl rfl _ _ HN.out (by kernel_rfl) rfl (by simp [Value.oneCell']) ?_))
        | fail)
      obtain ⟨hx9, hh9⟩ := HP.out
      obtain ⟨b13, hb13⟩ : ∃ b13, b13 = w8.heap.size := ⟨_, rfl⟩
      generalize (w8.alloc (.cells #[.int .i64 0, .slice none 0 0] 28)).setRow w8.heap.size #[.int .i64 room, .slice a8 n8 cp8] = w9 at hx9 hh9 ⊢
      rw [← hb13] at hh9 ⊢
      have hT := HD7.out.typed
      have hB9 : RcB w9 b10 room a n cp := hx9.heap' (HC8.out.heap HB7.out (RcB.not HB7.out hT))
      have hR9 : RcB w9 w.heap.size 0 none 0 0 := hx9.heap' (HC8.out.heap HR7.out (RcB.not HR7.out hT))
      have hG9 := grown_trans' (grown_chgG HG7.out HC8.out HF7.out) (grown_extS g hx9)
      have hD9 := HD8.out.ext hx9
      have hrd9 := range_of_heap2 hh9
      have hgs := grown_setRow w9 b10 #[.int .i64 room, .slice a8 n8 cp8]
      have hDA := hD9.box hB9 hgs (by omega) (by decide) (by decide) (by decide) (by decide)
      have hBA : RcB (w9.setRow b10 #[.int .i64 room, .slice a8 n8 cp8]) b10 room a8 n8 cp8 := setRow_heap w9 b10 _ #[.int .i64 room, .slice a8 n8 cp8] _ _ hB9
      have hRA : RcB (w9.setRow b10 #[.int .i64 room, .slice a8 n8 cp8]) w.heap.size 0 none 0 0 := heap_other hR9 hgs (fun e => by cases e; omega)
      have hGA := chg_trans hG9 hgs (fun b hb => .inl (by cases hb; omega))
      have hFA : ∀ q ∈ F8, w.heap.size ≤ q := fun q hq => by
        rcases HF8.out q hq with h | h
        · exact HF7.out q h
        · exact Nat.le_trans HG7.out.size h
      have HB9 := Lib.hid hB9
      have HREL := Lib.hid (show _ ∧ _ ∧ _ ∧ _ ∧ _ from ⟨hDA, hBA, hRA, hGA, hFA⟩)
      clear hx9 hh9 hb13 hT hB9 hR9 hG9 hD9 hgs hDA hBA hRA hGA hFA HP HN HST HD8 HC8 HF8 HD7 HB7 HR7 HG7 HF7
      go_wp2_with (first
        | ((with_reducible refine atSlot 53 ?_); refine wpList_of_wp rfl (wp_load_mid (op := ⟨some 53, _, _, _, _, _⟩) 28 _ rfl b13 0 rfl [.int .i64 room, .slice a8 n8 cp8] _ hrd9 Try.underlying28 rfl (by kernel_rfl) ?_); clear hrd9)
        | ((with_reducible refine atStore 10 ?_); refine wpList_of_wp rfl (wp_store_row (o := ⟨none, _, _, _, _, _⟩) _ _ _ rfl b10 #[.int .i64 room, .slice a8 n8 cp8] rfl rfl _ _ HB9.out (by kernel_rfl) rfl (by simp [Value.oneCell']) ?_))
        | fail)
      go_roundw
      case rel => exact ⟨j - 1, k8, a8, n8, cp8, E8, F8, by go_num, by omega, by omega, HREL.out.1, HREL.out.2.1, HREL.out.2.2.1, HREL.out.2.2.2.1, HREL.out.2.2.2.2⟩
      case measure => simp [intOf]; omega
    · obtain rfl : j = 0 := by omega
      have R0 : Chg [w.heap.size] w7 w7.drew := Chg.drew _ _
      have HRD := Lib.hid fun w' (h : Chg [w.heap.size] w7 w') => range_of_heap2 (h.heap HB7.out (fun h => by rw [List.mem_singleton] at h; omega))
      have E7 := Ext.drew' w7
      have hR8 : RcB w7.drew w.heap.size 0 none 0 0 := HR7.out
      have HR8 := Lib.hid hR8
      have hgs := grown_setRow w7.drew w.heap.size #[.int .i64 room, .slice a n cp]
      have hDA := (HD7.out.ext E7).box hR8 hgs hgl (by decide) (by decide) (by decide) (by decide)
      have hFh := setRow_heap w7.drew w.heap.size _ #[.int .i64 room, .slice a n cp] _ _ hR8
      have hGA := chg_trans (grown_trans' HG7.out (grown_extS g E7)) hgs (fun b hb => .inl (by cases hb; exact Nat.le_refl _))
      have HFIN := Lib.hid (show _ ∧ _ ∧ _ from ⟨hDA, hFh, hGA⟩)
      have HGS := Lib.hid hgs
      clear hgs hDA hFh hGA hj hR8
      go_wp2
      refine wp_region_z (fun w' => Chg [w.heap.size] w7 w') R0 [] (.qs [0, 1, 2] (.l 3 (.qs [4] .nil))) (by kernel_rfl) (by kernel_rfl) ?_
      ((refine wpZ_q rfl rfl _ (fun w' hx' => by go_simp; try rfl) ?_; go_simp))
      refine wpZ_ld rfl rfl (.tmp 10) rfl b10 0 rfl [.int .i64 room, .slice a n cp] _ HRD.out Try.underlying28 rfl (by kernel_rfl) ?_
      go_simp
      ((refine wpZ_q rfl rfl _ (fun w' hx' => by go_simp; try rfl) ?_; go_simp))
      refine wpZ_l rfl rfl (wp_store_row _ _ _ rfl w.heap.size #[.int .i64 room, .slice a n cp] rfl rfl _ _ HR8.out (by kernel_rfl) rfl (by simp [Value.oneCell']) ?_)
      refine ⟨fun _ => (Chg.of_ext E7).trans' (Chg.of_grown HGS.out (List.mem_singleton.2 rfl)), ?_⟩
      go_simp
      ((refine wpZ_q rfl rfl _ (fun w' hx' => by go_simp; try rfl) ?_; go_simp))
      refine wpZ_nil ?_
      generalize w7.drew.setRow w.heap.size #[.int .i64 room, .slice a n cp] = wF at HFIN ⊢
      clear HGS R0 E7
      go_wp2
      refine bodyPost_ret (results_tct (ty := 28) rfl _ w.heap.size [.int .i64 room, .slice a n cp] _ rfl (range_of_heap2 HFIN.out.2.1) Try.underlying28 rfl (by kernel_rfl)) rfl ?_
      exact ⟨c, room, a, n, cp, E, F7, k1, rfl, HFIN.out.1, hr1, hr14, by omega, HFIN.out.2.2, HF7.out⟩
end Go.Proofs.Ytpiodpljiklfkaa
