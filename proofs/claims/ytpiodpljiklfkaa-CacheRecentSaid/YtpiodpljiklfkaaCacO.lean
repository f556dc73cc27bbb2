/-
  A tape and two caches; the law CacheIncludes.
-/
import Derived.Test.YtpiodpljiklfkaaCacL
import Derived.Test.YtpiodpljiklfkaaMathT
import Derived.Test.YtpiodpljiklfkaaTape
import Derived.Test.YtpiodpljiklfkaaFpR
namespace Go.Proofs.Ytpiodpljiklfkaa
open Go.RowKit Go.WideMaps

theorem owp_mk {P : Program} {w : World} {o : Oper} {f : Act} {K : Act → World → Prop} {Q : Exit → Act → World → Prop} (hgd : o.guard = none) (lO cO : Operand) {t : TypeId}
    (ho : o.op = .makeSlice t lO cO) {e s b : Nat} {z : Value} (E : Elem P t e s b z) (m k : Nat) {kl kc : IntKind} {L C : Int} (hl : f.eval lO = .int kl L) (hc : f.eval cO = .int kc C)
    (hL : L = (m : Int)) (hC : C = (k : Int)) (hmk : m ≤ k) (hb : b * k ≤ 281474976710656) (hm : k ≤ maxLen)
    (h : ∀ g w', w'.ownsRow w.heap.size e s (.slice (some ⟨g, 0, none⟩) m k) m (zeros z m s) → Ext w w' → K (f.put o.dst (.slice (some ⟨g, 0, none⟩) m k)) w') : o.wp P f w K Q :=
  owp_of_list (ops := #[]) hgd (wpList_mk hgd lO cO ho E m k hl hc hL hC hmk hb hm fun g w' h2 h3 => ⟨rfl, h g w' h2 h3⟩)
theorem zeros_u8 (n : Nat) : zeros (.int .u8 0) n 1 = (List.replicate n (0 : UInt8)).map u8 := by rw [zeros_one rfl, List.map_replicate]; rfl
theorem Ca.tick {w w' : World} {B c m e room g : Nat} {N : Nat → Nd} {L : List Nat} (h : Ca w B c m e room N L) (hg : w.grownBy w' (some g)) (hB : g < B) : Ca w' B c m e room N L :=
  have hc : Chg [g] w w' := Chg.of_grown hg (List.mem_singleton.2 rfl)
  have hF : ∀ k ∈ c :: m :: e :: L, k ∉ [g] := fun k hk hm => by
    have := h.base k hk
    rw [List.mem_singleton] at hm
    omega
  { box := h.box.chg hc (hF c (by simp))
    nodes := fun k hk => (h.nodes k hk).chg hc (hF k (by rcases List.mem_cons.1 hk with rfl | hk <;> simp [*]))
    ring := h.ring
    nodup := h.nodup
    map := h.map.chg hc (hF m (by simp))
    data := fun k hk => own_kept (h.data k hk) hg hB
    base := h.base
    ok := h.ok
    max := h.max }
theorem Cac.tick {w w' : World} {B c room g : Nat} {E : List En} {F : List Nat} (h : Cac w B c room E F) (hg : w.grownBy w' (some g)) (hB : g < B) : Cac w' B c room E F := by
  obtain ⟨m, e, N, L, h1, h2, h3⟩ := h
  exact ⟨m, e, N, L, h1.tick hg hB, h2, h3⟩
/-- A tape and two caches. -/
def TwS (w : World) (g k c1 r1 : Nat) (E1 : List En) (c2 r2 : Nat) (E2 : List En) (wr : World) : Prop :=
  ∃ B1 B2 F1 F2, Tape wr g k ∧ g < B1 ∧ g < B2 ∧ Cac wr B1 c1 r1 E1 F1 ∧ Cac wr B2 c2 r2 E2 F2 ∧ (∀ j ∈ F2, j ∉ F1) ∧ w.heap.size ≤ g ∧ Ext w wr
theorem TwS.ext {w wr w' : World} {g k c1 r1 c2 r2 : Nat} {E1 E2 : List En} (h : TwS w g k c1 r1 E1 c2 r2 E2 wr) (hx : Ext wr w') : TwS w g k c1 r1 E1 c2 r2 E2 w' := by
  obtain ⟨B1, B2, F1, F2, ht, hb1, hb2, h1, h2, hd, hz, hw⟩ := h
  exact ⟨B1, B2, F1, F2, ht.ext hx, hb1, hb2, h1.ext hx, h2.ext hx, hd, hz, hw.trans' hx⟩
theorem ext_chg {w wr w' : World} {F : List Nat} (hw : Ext w wr) (hc : Chg F wr w') (hF : ∀ k ∈ F, w.heap.size ≤ k) : Ext w w' :=
  ⟨hc.os.trans hw.os, hc.tape.trans hw.tape, hc.output.trans hw.output, Nat.le_trans hw.size hc.size, fun k hk => (hc.block k (Nat.lt_of_lt_of_le hk hw.size) fun hm => by have := hF k hm; omega).trans (hw.block k hk)⟩
theorem Tape.chg {w w' : World} {g k B : Nat} {F : List Nat} (h : Tape w g k) (hc : Chg F w w') (hF : ∀ j ∈ F, B ≤ j) (hB : g < B) : Tape w' g k :=
  h.below (hc.below (fun j hj => by have := hF j hj; omega) h.lt)
theorem TwS.left {w wr w' : World} {g k c1 r1 c2 r2 B1 B2 : Nat} {E1 E1' E2 : List En} {F1 F2 : List Nat} (ht : Tape wr g k) (hb1 : g < B1) (hb2 : g < B2) (h1 : Cac wr B1 c1 r1 E1 F1) (h2 : Cac wr B2 c2 r2 E2 F2) (hd : ∀ j ∈ F2, j ∉ F1) (hz : w.heap.size ≤ g) (hw : Ext w wr)
    (hp : CacTo wr B1 c1 r1 F1 E1' w') : TwS w g k c1 r1 E1' c2 r2 E2 w' ∧ ∃ F, Chg F wr w' ∧ Typed wr F := by
  obtain ⟨F', g1, g2, g3⟩ := hp
  refine ⟨⟨B1, B2, F', F2, ht.chg g2 h1.base hb1, hb1, hb2, g1, h2.chg g2 h1.typed hd, fun j hj hm => ?_, hz, ext_chg hw g2 fun k hk => by have := h1.base k hk; omega⟩, F1, g2, h1.typed⟩
  rcases g3 j hm with h | h
  · exact hd j hj h
  · have := h2.lt j hj
    omega
theorem TwS.right {w wr w' : World} {g k c1 r1 c2 r2 B1 B2 : Nat} {E1 E2' E2 : List En} {F1 F2 : List Nat} (ht : Tape wr g k) (hb1 : g < B1) (hb2 : g < B2) (h1 : Cac wr B1 c1 r1 E1 F1) (h2 : Cac wr B2 c2 r2 E2 F2) (hd : ∀ j ∈ F2, j ∉ F1) (hz : w.heap.size ≤ g) (hw : Ext w wr)
    (hp : CacTo wr B2 c2 r2 F2 E2' w') : TwS w g k c1 r1 E1 c2 r2 E2' w' ∧ ∃ F, Chg F wr w' ∧ Typed wr F := by
  obtain ⟨F', g1, g2, g3⟩ := hp
  refine ⟨⟨B1, B2, F1, F', ht.chg g2 h2.base hb2, hb1, hb2, h1.chg g2 h2.typed (fun j hj hm => hd j hm hj), g1, fun j hj hm => ?_, hz, ext_chg hw g2 fun k hk => by have := h2.base k hk; omega⟩, F2, g2, h2.typed⟩
  rcases g3 j hj with h | h
  · exact hd j h hm
  · have := h1.lt j hm
    omega
theorem tw_next {w wr : World} {g k c1 r1 c2 r2 : Nat} {E1 E2 : List En} (h : TwS w g k c1 r1 E1 c2 r2 E2 wr) (n : Int) (hk : k ≤ 100000000000000) (hn : n ≤ 9223372036854775807) :
    Calls Try.prog 18 #[.pointer (some ⟨g, 0, none⟩), .int .i64 n] wr fun e w' => ∃ u : Nat, e = .returned (.int .i64 u) ∧ Below1 n u ∧ TwS w g (k + 1) c1 r1 E1 c2 r2 E2 w' ∧ wr.grownBy w' (some g) := by
  obtain ⟨B1, B2, F1, F2, ht, hb1, hb2, h1, h2, hd, hz, hw⟩ := h
  refine (Next_any g k n wr ht hk hn).mono ?_
  rintro e w' ⟨u, rfl, hu, ht2, hg⟩
  exact ⟨u, rfl, hu, ⟨B1, B2, F1, F2, ht2, hb1, hb2, h1.tick hg hb1, h2.tick hg hb2, hd, hz, hw.grown hg hw.size fun k hk => by cases hk; exact hz⟩, hg⟩
/-- A call that changed one of the two caches. -/
def TwC (w : World) (g k c1 r1 : Nat) (E1 : List En) (c2 r2 : Nat) (E2 : List En) (wr w' : World) : Prop := TwS w g k c1 r1 E1 c2 r2 E2 w' ∧ ∃ F, Chg F wr w' ∧ Typed wr F
theorem tw_get1 {w wr : World} {g k c1 r1 c2 r2 s : Nat} {z : Int} {E1 E2 : List En} (h : TwS w g k c1 r1 E1 c2 r2 E2 wr) (hs : s ≤ 18446744073709551615) (hz : -9223372036854775808 ≤ z ∧ z ≤ 9223372036854775807) :
    Calls Try.prog 20 #[.pointer (some ⟨c1, 0, none⟩), .agg #[.int .u64 s, .int .i64 z]] wr (fun en w' => ∃ v, en = .returned v ∧ TwC w g k c1 r1 (getC E1 (s, z)).1 c2 r2 E2 wr w') := by
  obtain ⟨B1, B2, F1, F2, ht, hb1, hb2, h1, h2, hd, hw1, hw⟩ := h
  refine (Get_any B1 c1 r1 E1 F1 s z wr h1 hs hz).mono ?_
  rintro en w' ⟨a, n, cp, rfl, -, hp⟩
  exact ⟨_, rfl, TwS.left ht hb1 hb2 h1 h2 hd hw1 hw hp⟩
theorem tw_get2 {w wr : World} {g k c1 r1 c2 r2 s : Nat} {z : Int} {E1 E2 : List En} (h : TwS w g k c1 r1 E1 c2 r2 E2 wr) (hs : s ≤ 18446744073709551615) (hz : -9223372036854775808 ≤ z ∧ z ≤ 9223372036854775807) :
    Calls Try.prog 20 #[.pointer (some ⟨c2, 0, none⟩), .agg #[.int .u64 s, .int .i64 z]] wr (fun en w' => ∃ v, en = .returned v ∧ TwC w g k c1 r1 E1 c2 r2 (getC E2 (s, z)).1 wr w') := by
  obtain ⟨B1, B2, F1, F2, ht, hb1, hb2, h1, h2, hd, hw1, hw⟩ := h
  refine (Get_any B2 c2 r2 E2 F2 s z wr h2 hs hz).mono ?_
  rintro en w' ⟨a, n, cp, rfl, -, hp⟩
  exact ⟨_, rfl, TwS.right ht hb1 hb2 h1 h2 hd hw1 hw hp⟩
theorem tw_put1 {w wr : World} {g k c1 r1 c2 r2 s n cp B : Nat} {z : Int} {E1 E1' E2 : List En} {a : Option Addr} {l : List UInt8} {gone : List (Nat × Int)} {er : Int} (h : TwS w g k c1 r1 E1 c2 r2 E2 wr) (hp : putC r1 E1 (s, z) l = (E1', gone, er))
    (hb : wr.ownsRow B 5 1 (.slice a n cp) n (l.map u8)) (hn : n ≤ 140737488355328) :
    Calls Try.prog 21 #[.pointer (some ⟨c1, 0, none⟩), .agg #[.int .u64 s, .int .i64 z], .slice a n cp] wr (fun en w' => ∃ v, en = .returned (.tuple #[v, .int .i64 er]) ∧ TwC w g k c1 r1 E1' c2 r2 E2 wr w') := by
  obtain ⟨B1, B2, F1, F2, ht, hb1, hb2, h1, h2, hd, hw1, hw⟩ := h
  have hput := Put38_any B1 c1 r1 E1 F1 s z a n cp l wr h1 (StB.own h1.typed hb) hn
  rw [hp] at hput
  refine hput.mono ?_
  rintro en w' ⟨a', n', cp', rfl, -, -, ht'⟩
  exact ⟨_, rfl, TwS.left ht hb1 hb2 h1 h2 hd hw1 hw ht'⟩
theorem tw_put2 {w wr : World} {g k c1 r1 c2 r2 s n cp B : Nat} {z : Int} {E1 E2' E2 : List En} {a : Option Addr} {l : List UInt8} {gone : List (Nat × Int)} {er : Int} (h : TwS w g k c1 r1 E1 c2 r2 E2 wr) (hp : putC r2 E2 (s, z) l = (E2', gone, er))
    (hb : wr.ownsRow B 5 1 (.slice a n cp) n (l.map u8)) (hn : n ≤ 140737488355328) :
    Calls Try.prog 21 #[.pointer (some ⟨c2, 0, none⟩), .agg #[.int .u64 s, .int .i64 z], .slice a n cp] wr (fun en w' => ∃ v, en = .returned (.tuple #[v, .int .i64 er]) ∧ TwC w g k c1 r1 E1 c2 r2 E2' wr w') := by
  obtain ⟨B1, B2, F1, F2, ht, hb1, hb2, h1, h2, hd, hw1, hw⟩ := h
  have hput := Put38_any B2 c2 r2 E2 F2 s z a n cp l wr h2 (StB.own h2.typed hb) hn
  rw [hp] at hput
  refine hput.mono ?_
  rintro en w' ⟨a', n', cp', rfl, -, -, ht'⟩
  exact ⟨_, rfl, TwS.right ht hb1 hb2 h1 h2 hd hw1 hw ht'⟩
theorem tw_ids1 {w wr : World} {g k c1 r1 c2 r2 : Nat} {E1 E2 : List En} (h : TwS w g k c1 r1 E1 c2 r2 E2 wr) : Calls Try.prog 16 #[.pointer (some ⟨c1, 0, none⟩)] wr (IdsO wr (E1.map En.id)) := by
  obtain ⟨B1, B2, F1, F2, ht, hb1, hb2, h1, h2, hd, hw1, hw⟩ := h
  exact IDs_any B1 c1 r1 E1 F1 wr h1
theorem tw_has2 {w wr : World} {g k c1 r1 c2 r2 s : Nat} {z : Int} {E1 E2 : List En} (h : TwS w g k c1 r1 E1 c2 r2 E2 wr) (hs : s ≤ 18446744073709551615) (hz : -9223372036854775808 ≤ z ∧ z ≤ 9223372036854775807) :
    Calls Try.prog 22 #[.pointer (some ⟨c2, 0, none⟩), .agg #[.int .u64 s, .int .i64 z]] wr (NewNone (.bool (atF (s, z) E2).isSome) wr) := by
  obtain ⟨B1, B2, F1, F2, ht, hb1, hb2, h1, h2, hd, hw1, hw⟩ := h
  exact Has_any B2 c2 r2 E2 F2 s z wr h2 hs hz
theorem TwS.ok {w wr : World} {g k c1 r1 c2 r2 : Nat} {E1 E2 : List En} (h : TwS w g k c1 r1 E1 c2 r2 E2 wr) : OkE r1 E1 ∧ OkE r2 E2 ∧ r1 ≤ 1048576 := by
  obtain ⟨B1, B2, F1, F2, ht, hb1, hb2, h1, h2, hd, hw1, hw⟩ := h
  exact ⟨h1.ok.1, h2.ok.1, h1.ok.2⟩
theorem TwS.x {w wr : World} {g k c1 r1 c2 r2 : Nat} {E1 E2 : List En} (h : TwS w g k c1 r1 E1 c2 r2 E2 wr) : Ext w wr ∧ g < wr.heap.size := by
  obtain ⟨B1, B2, F1, F2, ht, hb1, hb2, h1, h2, hd, hw1, hw⟩ := h
  exact ⟨hw, ht.lt⟩
theorem TwS.tape {w wr : World} {g k c1 r1 c2 r2 : Nat} {E1 E2 : List En} (h : TwS w g k c1 r1 E1 c2 r2 E2 wr) : Tape wr g k := by
  obtain ⟨B1, B2, F1, F2, ht, hb1, hb2, h1, h2, hd, hw1, hw⟩ := h
  exact ht
theorem TwS.tick {w wr w' : World} {g k k' c1 r1 c2 r2 : Nat} {E1 E2 : List En} (h : TwS w g k c1 r1 E1 c2 r2 E2 wr) (hg : wr.grownBy w' (some g)) (ht2 : Tape w' g k') : TwS w g k' c1 r1 E1 c2 r2 E2 w' := by
  obtain ⟨B1, B2, F1, F2, ht, hb1, hb2, h1, h2, hd, hz, hw⟩ := h
  exact ⟨B1, B2, F1, F2, ht2, hb1, hb2, h1.tick hg hb1, h2.tick hg hb2, hd, hz, hw.grown hg hw.size fun k hk => by cases hk; exact hz⟩
/-- Kept by each round. -/
def InS (w : World) (g c1 r1 c2 r2 n m s k : Nat) (wr : World) : Prop :=
  ∃ E1 E2, Uni s E1 ∧ Uni s E2 ∧ Inc n m (E1.map En.id) (E2.map En.id) ∧ TwS w g k c1 r1 E1 c2 r2 E2 wr
def InRel (w : World) (g c1 r1 c2 r2 n m s : Nat) (i : Value) (wr : World) : Prop :=
  ∃ j k : Nat, i = .int .i64 j ∧ k + 3 * j ≤ 200 ∧ InS w g c1 r1 c2 r2 n m s k wr
def HasRel (w : World) (n : Nat) (i : Value) (wr : World) : Prop := ∃ j : Nat, i = .int .i64 j ∧ j ≤ n ∧ Ext w wr

set_option maxRecDepth 100000 in
set_option maxHeartbeats 8000000 in
theorem CacheIncludes_walk (a1 : Option Addr) (n1 c1 : Nat) (L1 : List Int) (x1 x2 x3 : Int) (w : World)
    (hl : Row w a1 n1 c1 1 (L1.map (Value.int .i64))) (hli : ∀ x ∈ L1, -9223372036854775808 ≤ x ∧ x ≤ 9223372036854775807) (ha1 : ∀ p, a1 = some p → 0 < n1 → p.block < w.heap.size)
    (_h1 : -9223372036854775808 ≤ x1) (_h2 : x1 ≤ 9223372036854775807) (_h3 : -9223372036854775808 ≤ x2) (_h4 : x2 ≤ 9223372036854775807) (_h5 : -9223372036854775808 ≤ x3) (_h6 : x3 ≤ 9223372036854775807) :
    Calls Try.prog 4 #[.slice a1 n1 c1, .int .i64 x1, .int .i64 x2, .int .i64 x3] w (LawPost w) := by
  have ht : Tape (w.alloc (.cells #[.slice a1 n1 c1, .int .i64 0] 39)) w.heap.size 0 :=
    ⟨a1, n1, c1, L1, heap_alloc_new w _, hl.ext (Ext.alloc' _ _), ha1, hli⟩
  have hx1 : Ext w (w.alloc (.cells #[.slice a1 n1 c1, .int .i64 0] 39)) := Ext.alloc' _ _
  obtain ⟨g, hge⟩ : ∃ g, g = w.heap.size := ⟨_, rfl⟩
  have HT := Lib.hid ht
  have HX1 := Lib.hid hx1
  have HGE := Lib.hid hge
  clear ht hx1 hl hli ha1 hge
  go_enter Try.func4, Try.ntmps4
  go_upto_region 3 with (first
    | (go_at_call 17; (with_reducible refine (makeFold_any x1 3 _ (by decide)).mono ?_); rintro en w2 ⟨u1, rfl, hu1, rfl⟩; have hs3 : u1 ≤ 2 := (by unfold Below1 at hu1; omega); clear hu1)
    | (go_at_call 17; (with_reducible refine (makeFold_any x2 5 _ (by decide)).mono ?_); rintro en w2 ⟨u2, rfl, hu2, rfl⟩; have hn5 : u2 ≤ 4 := (by unfold Below1 at hu2; omega); clear hu2)
    | (go_at_call 17; (with_reducible refine (makeFold_any x3 4 _ (by decide)).mono ?_); rintro en w2 ⟨u3, rfl, hu3, rfl⟩; have hm3 : u3 ≤ 3 := (by unfold Below1 at hu3; omega); clear hu3)
    | fail)
  obtain ⟨s, hs⟩ : ∃ s, s = 1 + u1 := ⟨_, rfl⟩
  obtain ⟨n, hn⟩ : ∃ n, n = 1 + u2 := ⟨_, rfl⟩
  obtain ⟨m, hm⟩ : ∃ m, m = n + u3 := ⟨_, rfl⟩
  have hs' : (1 : Int) + (u1 : Int) = s := by omega
  have hn' : (1 : Int) + (u2 : Int) = n := by omega
  rw [hs', hn', ← HGE.out]
  have hms : (n : Int) + (u3 : Int) = m := by omega
  have hs0 : 1 ≤ s := by omega
  have hn0 : 1 ≤ n := by omega
  have hnm : n ≤ m := by omega
  obtain ⟨r1, hr1⟩ : ∃ r1, r1 = n * s := ⟨_, rfl⟩
  obtain ⟨r2, hr2⟩ : ∃ r2, r2 = m * s := ⟨_, rfl⟩
  have hm1 : (n : Int) * (s : Int) = r1 := by rw [hr1]; exact (Int.natCast_mul n s).symm
  have hm2 : (m : Int) * (s : Int) = r2 := by rw [hr2]; exact (Int.natCast_mul m s).symm
  have hb1 : r1 ≤ 15 := by rw [hr1]; exact Nat.mul_le_mul (show n ≤ 5 by omega) (show s ≤ 3 by omega)
  have hb2 : r2 ≤ 24 := by rw [hr2]; exact Nat.mul_le_mul (show m ≤ 8 by omega) (show s ≤ 3 by omega)
  have hp1 : 1 ≤ r1 := by rw [hr1]; exact Nat.mul_le_mul hn0 hs0
  have hp2 : 1 ≤ r2 := by rw [hr2]; exact Nat.mul_le_mul (show 1 ≤ m by omega) hs0
  have hsx : s ≤ 3 := by omega
  have hnx : n ≤ 5 := by omega
  have hmx : m ≤ 8 := by omega
  have HR1 := Lib.hid hr1
  have HR2 := Lib.hid hr2
  clear hs' hn' hs hn hm hs3 hn5 hr1 hr2
  have HN1 := Lib.hid (fun w1 => New38_at r1 w1 hp1 (by omega))
  have HN2 := Lib.hid (fun w1 => New38_at r2 w1 hp2 (by omega))
  go_upto_region 5 with (first
    | (go_at_call 12; (with_reducible refine (HN1.out _).mono ?_); rintro en w2 ⟨q1, F1, rfl, hC1, hx2⟩; have HC1 := Lib.hid hC1; clear hC1)
    | (go_at_call 12; (with_reducible refine (HN2.out _).mono ?_); rintro en w3 ⟨q2, F2, rfl, hC2, hx3⟩; have HC2 := Lib.hid hC2; clear hC2)
    | fail)
  have hS3 : TwS w g 0 q1 r1 [] q2 r2 [] w3 := by
    have h1 := HC1.out
    have h2 := HC2.out
    rw [HGE.out]
    exact ⟨_, _, F1, F2, HT.out.ext (hx2.trans' hx3), HT.out.lt, Nat.lt_of_lt_of_le HT.out.lt hx2.size, h1.ext hx3, h2, fun j hj hm => by have e1 := h1.lt j hm; have e2 := h2.base j hj; omega, Nat.le_refl _, HX1.out.trans' (hx2.trans' hx3)⟩
  have HS3 := Lib.hid hS3
  clear hS3 HC1 HC2 HN1 HN2 HT HX1 hx2 hx3 hm1 hm2 hms hm3
  go_wp2_with (first
    | (go_at_call 14; (with_reducible refine (known38_any _).mono ?_); rintro en w4 ⟨rfl, hx4⟩)
    | (go_at_call 18; (with_reducible refine (tw_next (HS3.out.ext hx4) 40 (by decide) (by decide)).mono ?_); rintro en w5 ⟨u5, rfl, hu5, hs5, -⟩; have hu5' : u5 ≤ 39 := (by unfold Below1 at hu5; omega); clear hu5)
    | fail)
  go_loopw [14] (InRel w g q1 r1 q2 r2 n m s) (fun i _ => (intOf i).toNat)
  case atStart => exact ⟨u5, 1, rfl, by omega, [], [], (fun x hx => by cases hx), (fun x hx => by cases hx), ⟨List.Sublist.refl _, Nat.zero_le _, Nat.zero_le _, .inr rfl⟩, hs5⟩
  case round =>
    obtain ⟨j, k, rfl, hk, hI⟩ := hrel
    rename World => w6
    by_cases hj : 0 < j
    · obtain ⟨E1, E2, hU1, hU2, hInc, hS⟩ := hI
      have HS6 := Lib.hid hS
      have hgl := hS.x.2
      clear hS
      go_wp2_with (first
        | ((with_reducible refine atSlot 75 ?_); refine wpList_of_wp rfl (owp_mk (o := ⟨some 75, _, _, _, _, _⟩) rfl _ _ rfl Try.elB s s rfl rfl rfl rfl (Nat.le_refl _) (by omega) (by unfold maxLen; omega) ?_); intro gx w7 ho7 hx7; rw [zeros_u8] at ho7)
        | (go_at_call 18; (with_reducible refine (tw_next (HS6.out.ext hx7) 9 (by omega) (by decide)).mono ?_); rintro en w8 ⟨u8', rfl, hu8, hs8, hg8⟩; have hu9 : u8' < 9 := (by unfold Below1 at hu8; omega); clear hu8; refine Stop.of ?_)
        | fail)
      have ho8 := own_kept ho7 hg8 hgl
      have hgx : w6.heap.size ≤ gx := by
        obtain ⟨g', cur, h1, h2, -⟩ := own_some ho7 hs0
        cases h1
        exact h2
      obtain ⟨X, hX⟩ : ∃ X, X = (List.replicate s (0 : UInt8)).set 0 (UInt8.ofNat u8') := ⟨_, rfl⟩
      have hXl : X.length = s := by rw [hX]; simp
      have hval : Value.int .u8 (u8' : Int) = Proofs.Ytpiodpljiklfkaa.u8 (UInt8.ofNat u8') := by
        show Value.int .u8 _ = Value.int .u8 _
        congr 1
        rw [UInt8.toNat_ofNat_of_lt' (by show u8' < 256; omega)]
      have ho9 := own_setCell (j := 0) (v := .int .u8 (u8' : Int)) ho8 (by omega)
      have hset : ((List.replicate s (0 : UInt8)).map Proofs.Ytpiodpljiklfkaa.u8).set 0 (.int .u8 (u8' : Int)) = X.map Proofs.Ytpiodpljiklfkaa.u8 := by rw [hval, hX, List.map_set]
      rw [hset] at ho9
      have hth := own_there (i := 0) (m := 1) ho8 (by omega)
      have hg9 := grown_setCell' w8 gx 0 (.int .u8 (u8' : Int))
      have hg69 := chg_trans (grown_trans' (grown_extS g hx7) hg8) hg9 (fun b hb => .inl (by cases hb; exact hgx))
      have ht9 := hs8.tape.grown hg9 (fun b hb => by cases hb; omega)
      have hS9 := HS6.out.tick hg69 ht9
      generalize hw9 : w8.setCell ⟨gx, 0, none⟩ (.int .u8 (u8' : Int)) = w9 at ho9 hS9
      have HW9 := Lib.hid hw9
      have HO9 := Lib.hid ho9
      have HS9 := Lib.hid hS9
      have HTH := Lib.hid hth
      have hgl9 := hS9.x.2
      obtain ⟨f, hf⟩ : ∃ f, f = fp X := ⟨_, rfl⟩
      have hfl : f ≤ 18446744073709551615 := by rw [hf]; exact fp_key X
      have hof : ∀ w', w'.ownsRow w6.heap.size 5 1 (.slice (some ⟨gx, 0, none⟩) s s) s (X.map Proofs.Ytpiodpljiklfkaa.u8) → Calls Try.prog 19 #[.slice (some ⟨gx, 0, none⟩) s s] w' (NewNone (.agg #[.int .u64 f, .int .i64 s]) w') := fun w' h => by
        rw [hf]
        exact Of_any _ s s X w' (Bytes.of_own h) (by omega)
      have HOF := Lib.hid hof
      have hzz : -9223372036854775808 ≤ (s : Int) ∧ (s : Int) ≤ 9223372036854775807 := by omega
      have hid : idOf X = (f, (s : Int)) := by unfold idOf; rw [← hf, hXl]
      have HID := Lib.hid hid
      have HXL := Lib.hid hXl
      have HU1 := Lib.hid hU1
      have HU2 := Lib.hid hU2
      have HINC := Lib.hid hInc
      clear ho7 hx7 hs8 hg8 ho8 hX hval ho9 hset hth hg9 hg69 ht9 hS9 hw9 hof hf hid hXl hU1 hU2 hInc hgx
      refine Stop.out ?_
      go_wp2_with (first
        | ((with_reducible refine atSlot 80 ?_); refine wpList_of_wp rfl (owp_ixp3 (o := ⟨some 80, _, _, _, _, _⟩) _ _ rfl Try.elB rfl 0 rfl rfl hs0 ?_))
        | ((with_reducible refine atStore 80 ?_); refine wpList_of_wp rfl (owp_st1 (o := ⟨none, _, _, _, _, _⟩) 5 _ _ rfl gx 0 (.int .u8 (u8' : Int)) rfl rfl rfl HTH.out (by kernel_rfl) rfl ?_); rw [HW9.out])
        | (go_at_call 19; (with_reducible refine (HOF.out _ HO9.out).mono ?_); rintro en w10 ⟨rfl, hx10⟩; refine Stop.of ?_)
        | fail)
      have hal := Ext.alloc' w10 (.cells #[.int .u64 0, .int .i64 0] 45)
      have hh11 := setRow_heap (w10.alloc (.cells #[.int .u64 0, .int .i64 0] 45)) w10.heap.size _ #[.int .u64 f, .int .i64 s] _ _ (heap_alloc_new w10 _)
      have hx11 : Ext w10 ((w10.alloc (.cells #[.int .u64 0, .int .i64 0] 45)).setRow w10.heap.size #[.int .u64 f, .int .i64 s]) := hal.setRow (Nat.le_refl _)
      generalize hw11 : (w10.alloc (.cells #[.int .u64 0, .int .i64 0] 45)).setRow w10.heap.size #[.int .u64 f, .int .i64 s] = w11 at hh11 hx11
      obtain ⟨b, hbe⟩ : ∃ b, b = w10.heap.size := ⟨_, rfl⟩
      have hi11 : IdBox w11 b f s := by rw [hbe]; exact hh11
      have hgb : b ≠ g := by have := hx10.size; omega
      have HW11 := Lib.hid hw11
      have HBE := Lib.hid hbe
      have HI11 := Lib.hid hi11
      have HS11 := Lib.hid (HS9.out.ext (hx10.trans' hx11))
      have HO11 := Lib.hid (own_ext HO9.out (hx10.trans' hx11))
      have hh2 := Lib.hid (heap_alloc_new w10 (.cells #[.int .u64 0, .int .i64 0] 45))
      clear hw11 hh11 hx11 hal hbe hi11 hx10
      refine Stop.out ?_
      go_wp2_with (first
        | ((with_reducible refine atStore 16 ?_); refine wpList_of_wp rfl (wp_store_row (o := ⟨none, _, _, _, _, _⟩) _ _ _ rfl w10.heap.size #[.int .u64 f, .int .i64 s] rfl rfl _ _ hh2.out (by kernel_rfl) rfl (by simp [Value.oneCell']) ?_); rw [HW11.out]; refine Stop.of ?_)
        | fail)
      rw [← HBE.out]
      refine Stop.out ?_
      go_upto_if 85 with (first
        | (go_at_call 18; (with_reducible refine (tw_next HS11.out 3 (by omega) (by decide)).mono ?_); rintro en w12 ⟨u12, rfl, -, hs12, hg12⟩)
        | fail)
      have hi12 : IdBox w12 b f s := (hg12.block b (Array.getElem?_eq_some_iff.1 HI11.out).1 (fun e => hgb (by cases e; rfl))).trans HI11.out
      have HI12 := Lib.hid hi12
      have HO12 := Lib.hid (own_kept HO11.out hg12 hgl)
      have HS12 := Lib.hid hs12
      clear hi12 hs12 hg12
      go_cut [17, 18, 19, 20, 85] from 86 to 111 (fun _ _ _ _ _ w' => InS w g q1 r1 q2 r2 n m s (k + 1 + 1) w')
      case first =>
        have r12 := HI12.out.rd
        by_cases hu : u12 = 0
        · obtain ⟨e1, e2⟩ := eqI (x := (u12 : Int)) (y := 0) (by omega)
          clear hu
          go_wp2_with (first
            | ((with_reducible refine atSlot 87 ?_); refine wpList_of_wp rfl (wp_load_mid (op := ⟨some 87, _, _, _, _, _⟩) 45 _ rfl b 0 rfl [.int .u64 f, .int .i64 s] _ r12 Try.underlying45 rfl (by kernel_rfl) ?_); clear r12)
            | (go_at_call 20; (with_reducible refine (tw_get1 HS12.out hfl hzz).mono ?_); rintro en w13 ⟨v13, rfl, hs13, F13, hc13, hT13⟩; have r13 := (HI12.out.chg hc13 hT13).rd; have HS13 := Lib.hid hs13; clear hs13 hc13 hT13)
            | ((with_reducible refine atSlot 90 ?_); refine wpList_of_wp rfl (wp_load_mid (op := ⟨some 90, _, _, _, _, _⟩) 45 _ rfl b 0 rfl [.int .u64 f, .int .i64 s] _ r13 Try.underlying45 rfl (by kernel_rfl) ?_); clear r13)
            | (go_at_call 20; (with_reducible refine (tw_get2 HS13.out hfl hzz).mono ?_); rintro en w14 ⟨v14, rfl, hs14, -⟩; have HS14 := Lib.hid hs14; clear hs14)
            | fail)
          go_meet
          exact ⟨_, _, (HU1.out.get _).1, (HU2.out.get _).1, by rw [(HU1.out.get _).2, (HU2.out.get _).2]; exact HINC.out.get _, HS14.out⟩
        · obtain ⟨e1, e2⟩ := neI (x := (u12 : Int)) (y := 0) (by omega)
          clear hu
          obtain ⟨E1', gn1, p1, hU1', he1⟩ := HU1.out.put hs0 hn0 (by have := HINC.out.few; rwa [List.length_map] at this) HXL.out HID.out
          obtain ⟨E2', gn2, p2, hU2', he2⟩ := HU2.out.put hs0 (Nat.le_trans hn0 hnm) (by have := HINC.out.many; rwa [List.length_map] at this) HXL.out HID.out
          rw [← HR1.out] at p1
          rw [← HR2.out] at p2
          have HP1 := Lib.hid p1
          have HP2 := Lib.hid p2
          have HFIN := Lib.hid (show Uni s E1' ∧ Uni s E2' ∧ Inc n m (E1'.map En.id) (E2'.map En.id) from ⟨hU1', hU2', by rw [he1, he2]; exact HINC.out.put _ hn0 hnm⟩)
          clear p1 p2 hU1' hU2' he1 he2
          go_wp2_with (first
            | ((with_reducible refine atSlot 94 ?_); refine wpList_of_wp rfl (wp_load_mid (op := ⟨some 94, _, _, _, _, _⟩) 45 _ rfl b 0 rfl [.int .u64 f, .int .i64 s] _ r12 Try.underlying45 rfl (by kernel_rfl) ?_); clear r12)
            | (go_at_call 21; (with_reducible refine (tw_put1 HS12.out HP1.out HO12.out (by omega)).mono ?_); rintro en w13 ⟨v13, rfl, hs13, F13, hc13, hT13⟩; have r13 := (HI12.out.chg hc13 hT13).rd; have HS13 := Lib.hid hs13; have HO13 := Lib.hid (own_chg HO12.out hc13 hT13 (by decide) (by decide)); clear hs13 hc13 hT13)
            | ((with_reducible refine atSlot 101 ?_); refine wpList_of_wp rfl (wp_load_mid (op := ⟨some 101, _, _, _, _, _⟩) 45 _ rfl b 0 rfl [.int .u64 f, .int .i64 s] _ r13 Try.underlying45 rfl (by kernel_rfl) ?_); clear r13)
            | (go_at_call 21; (with_reducible refine (tw_put2 HS13.out HP2.out HO13.out (by omega)).mono ?_); rintro en w14 ⟨v14, rfl, hs14, -⟩; have HS14 := Lib.hid hs14; clear hs14)
            | fail)
          go_meet
          exact ⟨E1', E2', HFIN.out.1, HFIN.out.2.1, HFIN.out.2.2, HS14.out⟩
      case rest =>
        obtain ⟨E1', E2', hU1', hU2', hI', hS'⟩ := hcut
        rename World => w15
        have HS15 := Lib.hid hS'
        have HFIN := Lib.hid (show Uni s E1' ∧ Uni s E2' ∧ Inc n m (E1'.map En.id) (E2'.map En.id) from ⟨hU1', hU2', hI'⟩)
        clear hU1' hU2' hI' hS' HS12 HO12 HI12 HS11 HO11 HI11 HS9 HO9 HS6
        go_wp2_with (first
          | (go_at_call 16; (with_reducible refine (tw_ids1 HS15.out).mono ?_); rintro en w16 ⟨ai, ni, ci, rfl, hni, hoi, hxi⟩; have HNI := Lib.hid hni; have HR16 := Lib.hid (Row.of_own hoi); have HS16 := Lib.hid (HS15.out.ext hxi); have hnb : ni ≤ 5 := (by have h1 := HFIN.out.2.2.few; rw [← hni] at h1; omega); clear hni hoi hxi)
          | fail)
        go_loopw [22] (HasRel w16 ni) (fun i _ => ni - (intOf i).toNat)
        case atStart => exact ⟨0, rfl, Nat.zero_le _, Below.refl _ _⟩
        case round =>
          obtain ⟨i, rfl, hi, hx⟩ := hrel
          rename World => w17
          by_cases hin : i < ni
          · obtain ⟨kk, hkk⟩ : ∃ kk, (E1'.map En.id)[i]? = some kk := ⟨_, List.getElem?_eq_getElem (by have := HNI.out; omega)⟩
            have hmem := HFIN.out.2.2.sub.subset (List.mem_of_getElem? hkk)
            have hsome := mem_ids.1 hmem
            obtain ⟨y, hy, hye⟩ := List.mem_map.1 (List.mem_of_getElem? hkk)
            have hyr := (HS16.out.ok.1.right y hy).1
            have hk1 : kk.1 ≤ 18446744073709551615 := by rw [← hye, hyr]; exact fp_key _
            have hk2 : -9223372036854775808 ≤ kk.2 ∧ kk.2 ≤ 9223372036854775807 := by
              have h1 : kk.2 = (s : Int) := by rw [← hye, hyr]; show (y.l.length : Int) = s; rw [(HFIN.out.1 y hy).1]
              omega
            have hhas : Calls Try.prog 22 #[.pointer (some ⟨q2, 0, none⟩), .agg #[.int .u64 kk.1, .int .i64 kk.2]] w17 (NewNone (.bool true) w17) := by
              have h := tw_has2 (HS16.out.ext hx) hk1 hk2
              rwa [hsome] at h
            have HHAS := Lib.hid hhas
            have HKK := Lib.hid hkk
            have HR17 := Lib.hid (HR16.out.ext hx)
            clear hhas hkk hmem hsome hy hye hyr hk1 hk2
            go_wp2_with (first
              | ((with_reducible refine atSlot 123 ?_); refine wpList_of_wp rfl (owp_ix (o := ⟨some 123, _, _, _, _, _⟩) _ _ rfl Try.elId rfl HR17.out i rfl rfl hin ?_); intro b3 o3 hc3)
              | ((with_reducible refine atSlot 124 ?_); refine wpList_of_wp rfl (wp_load_mid (op := ⟨some 124, _, _, _, _, _⟩) 45 _ rfl b3 o3 rfl [.int .u64 kk.1, .int .i64 kk.2] _ (id_range HKK.out hc3) Try.underlying45 rfl (by kernel_rfl) ?_); clear hc3)
              | (go_at_call 22; (with_reducible refine HHAS.out.mono ?_); rintro en w18 ⟨rfl, hx18⟩)
              | fail)
            go_roundw
            case rel => exact ⟨i + 1, by go_num, hin, hx.trans' hx18⟩
            case measure => simp [intOf]; omega
          · obtain rfl : i = ni := by omega
            clear hi hin
            go_wp2
            go_roundw
            case rel => exact ⟨j - 1, k + 1 + 1, by go_num, by omega, E1', E2', HFIN.out.1, HFIN.out.2.1, HFIN.out.2.2, HS16.out.ext hx⟩
            case measure => simp [intOf]; omega
    · obtain rfl : j = 0 := by omega
      obtain ⟨E1, E2, hU1, hU2, hInc, hS⟩ := hI
      have HX := Lib.hid hS.x.1
      clear hU1 hU2 hInc hS
      go_wp2
      go_ret
      exact ⟨rfl, HX.out⟩
end Go.Proofs.Ytpiodpljiklfkaa
