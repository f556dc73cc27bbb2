/-
  Layer mapping: pairs, an iterator over two lists of entries.
-/
import Derived.Test.YtejljmikammcdaaGreatDoorIn
namespace Go.Proofs.YtejljmikammcdaaGreatDoor
open Go.RowKit

theorem wp_inW {P : Program} {n : Nat} {o : Oper} {a : Act} {w : World} {next : Act → World → Prop} {Q : Exit → Act → World → Prop} (h : o.wp P a w next Q) : o.wpIn Fence.wide n P a w next Q := by
  refine ⟨fun _ _ => trivial, ?_⟩
  show o.uponIn Fence.wide n P a next Q ((execOp a.eval o).run P w)
  unfold Oper.wp at h
  generalize (execOp a.eval o).run P w = r at h ⊢
  match r, h with
  | .ok (.value v) w', h => exact h
  | .ok .skip w', h => exact h
  | .ok (.defer d) w', h => exact h
  | .ok (.enter f args) w', h =>
    refine ⟨(fun h0 => by cases h0), (callsIn_wide.2 h).mono ?_⟩
    intro e w'' he
    cases e <;> exact he
  | .ok (.row row args) w', h =>
    refine ⟨(fun h0 => by cases h0), fun c cs _ => ?_⟩
    obtain ⟨v, w'', h1, h2⟩ := h c cs
    exact ⟨v, w'', h1, stepsIn_wide.2 h2⟩
  | .ok (.round _ _ _ _ _) w', h => exact h.elim
  | .halt (.panic v) w', h => exact h
theorem wpListIn_of_wpW {P : Program} {n : Nat} {ops : Array Oper} {Q : Exit → Act → World → Prop} {rest : List Oper} {o : Oper} {a : Act} {w : World} (hg : o.guard = none)
    (h : o.wp P a w (wpListIn Fence.wide n P ops Q rest) Q) : wpListIn Fence.wide n P ops Q (o :: rest) a w := by
  unfold wpListIn
  rw [if_pos (by simp [Region.wanted, hg])]
  exact wp_inW h
theorem atSlotW {P : Program} {n : Nat} {ops : Array Oper} {Q : Exit → Act → World → Prop} {rest : List Oper} {a : Act} {w : World} (k : Nat) {op : Op} {ty : TypeId} {pos : String} {af : Array Edge} {gd : Option (Nat × Bool)}
    (h : wpListIn Fence.wide n P ops Q (⟨some k, op, ty, pos, af, gd⟩ :: rest) a w) : wpListIn Fence.wide n P ops Q (⟨some k, op, ty, pos, af, gd⟩ :: rest) a w := h
theorem atStoreW {P : Program} {n : Nat} {ops : Array Oper} {Q : Exit → Act → World → Prop} {rest : List Oper} {a : Act} {w : World} (k : Nat) {sty : TypeId} {v : Operand} {ty : TypeId} {pos : String} {af : Array Edge} {gd : Option (Nat × Bool)}
    (h : wpListIn Fence.wide n P ops Q (⟨none, .store sty (.tmp k) v, ty, pos, af, gd⟩ :: rest) a w) : wpListIn Fence.wide n P ops Q (⟨none, .store sty (.tmp k) v, ty, pos, af, gd⟩ :: rest) a w := h

/-! ### What a round leaves alone -/
/-- The collection's box and where its row lies. -/
def ColAt (g : Nat) (W : World) (a : Option Addr) : Prop := (∃ (n c : Nat) (full : Bool), W.heap[g]? = some (.cells #[.slice a n c, .bool full] 64)) ∧ ∀ k, blockOf a = some k → k < W.heap.size
theorem ColAt.ext {g : Nat} {W W' : World} {a : Option Addr} (h : ColAt g W a) (hx : Ext W W') : ColAt g W' a := by
  obtain ⟨⟨n, c, f, hb⟩, hl⟩ := h
  exact ⟨⟨n, c, f, hx.heap' hb⟩, fun k hk => Nat.lt_of_lt_of_le (hl k hk) hx.size⟩
def KpC (g n₀ : Nat) (W W' : World) : Prop := Below n₀ W W' ∧ ∀ a, ColAt g W a → ∃ a', ColAt g W' a' ∧ ∀ (k : Nat) (o : Obj), o.isCells = true → W.heap[k]? = some o → k ≠ g → blockOf a ≠ some k → W'.heap[k]? = some o ∧ blockOf a' ≠ some k
theorem KpC.t {g n₀ : Nat} {A B C : World} (h : KpC g n₀ A B) (k : KpC g n₀ B C) : KpC g n₀ A C := by
  refine ⟨h.1.trans k.1, fun a ha => ?_⟩
  obtain ⟨a1, h1, h2⟩ := h.2 a ha
  obtain ⟨a2, h3, h4⟩ := k.2 a1 h1
  refine ⟨a2, h3, fun j o ho hj hne hn => ?_⟩
  obtain ⟨h5, h6⟩ := h2 j o ho hj hne hn
  exact h4 j o ho h5 hne h6
theorem KpC.b {g n₀ : Nat} {w : World} (hn : n₀ ≤ w.heap.size) (W : World) (l : Nat) (o o' : Obj) (hl : w.heap.size ≤ l) (h : W.heap[l]? = some o) (hc : o.isCells = false) (hw : o.isWalk = false) : KpC g n₀ W (W.putObj l o') := by
  refine ⟨belowK_b hn W l o o' hl h hc hw, fun a ha => ?_⟩
  have hg := grownBy_putObj' W l o'
  have hk : ∀ (k : Nat) (p : Obj), p.isCells = true → W.heap[k]? = some p → (W.putObj l o').heap[k]? = some p := fun k p hp hkp => heap_keepR hkp hg (fun e => by
    have := Option.some.inj e
    subst this
    rw [h] at hkp; cases hkp
    rw [hc] at hp; cases hp)
  obtain ⟨⟨n, c, f, hb⟩, hl'⟩ := ha
  exact ⟨a, ⟨⟨n, c, f, hk g _ rfl hb⟩, fun k e => Nat.lt_of_lt_of_le (hl' k e) hg.size⟩, fun k p hp hkp _ hn => ⟨hk k p hp hkp, hn⟩⟩
theorem KpC.of_ext {g n₀ : Nat} {W W' : World} (h : Ext W W') (hn : n₀ ≤ W.heap.size) : KpC g n₀ W W' := ⟨h.mono hn, fun a ha => ⟨a, ha.ext h, fun _ _ _ hk _ hne => ⟨h.heap' hk, hne⟩⟩⟩

/-! ### The pairs -/
abbrev PrE (A B : List En) : Type := { p : En × En // p.1 ∈ A ∧ p.2 ∈ B }
def prsL (A B : List En) : List (PrE A B) := A.attach.flatMap fun x => B.attach.map fun y => ⟨(x.1, y.1), x.2, y.2⟩
abbrev prE {A B : List En} (x : PrE A B) : Array Value := #[x.1.1.v, x.1.2.v]
theorem flat_nth {α β : Type} {f : α → List β} {s : Nat} (hf : ∀ x, (f x).length = s) : ∀ (L : List α) (j i : Nat) (x : α), L[j]? = some x → i < s → (L.flatMap f)[j * s + i]? = (f x)[i]?
  | [], j, i, x, h, _ => by cases h
  | y :: L, 0, i, x, h, hi => by
    cases h
    rw [List.flatMap_cons, Nat.zero_mul, Nat.zero_add, List.getElem?_append_left (by rw [hf]; exact hi)]
  | y :: L, j + 1, i, x, h, hi => by
    rw [List.flatMap_cons, List.getElem?_append_right (by rw [hf, Nat.add_mul]; omega), hf, show (j + 1) * s + i - s = j * s + i by rw [Nat.add_mul]; omega]
    exact flat_nth hf L j i x (by simpa using h) hi
theorem prs_at {A B : List En} {j i : Nat} {x y : En} (hx : A[j]? = some x) (hy : B[i]? = some y) : ∃ p : PrE A B, (prsL A B)[j * B.length + i]? = some p ∧ p.1 = (x, y) := by
  have hj := (List.getElem?_eq_some_iff.1 hx).1
  have hi := (List.getElem?_eq_some_iff.1 hy).1
  have hxm := List.mem_of_getElem? hx
  have hym := List.mem_of_getElem? hy
  refine ⟨⟨(x, y), hxm, hym⟩, ?_, rfl⟩
  unfold prsL
  have h1 : A.attach[j]? = some ⟨x, hxm⟩ := by
    rw [List.getElem?_attach]
    simp [hx]
  have h2 : B.attach[i]? = some ⟨y, hym⟩ := by
    rw [List.getElem?_attach]
    simp [hy]
  rw [flat_nth (s := B.length) (fun x => by simp) A.attach j i _ h1 hi, List.getElem?_map, h2]
  rfl
theorem flat_lenN {α β : Type} {f : α → List β} {s : Nat} (hf : ∀ x, (f x).length = s) : ∀ (L : List α), (L.flatMap f).length = L.length * s
  | [] => by simp
  | y :: L => by rw [List.flatMap_cons, List.length_append, hf, flat_lenN hf L, List.length_cons, Nat.add_mul]; omega
theorem prs_len (A B : List En) : (prsL A B).length = A.length * B.length := by
  unfold prsL
  rw [flat_lenN (s := B.length) (fun x => by simp), List.length_attach]
theorem prs_ents (A B : List En) : (prsL A B).map (fun p => (p.1.1.E, p.1.2.E)) = pairsL (A.map En.E) (B.map En.E) := by
  unfold prsL pairsL
  rw [List.map_flatMap, List.flatMap_map]
  have h1 : ∀ x : En, (B.map En.E).map (fun y => (x.E, y)) = B.attach.map (fun y => (x.E, y.1.E)) := fun x => by
    rw [List.map_map, ← List.attach_map_subtype_val B, List.map_map]
    simp
  have h2 : A.attach.flatMap (fun x => (B.map En.E).map (fun y => (x.1.E, y))) = A.flatMap (fun x => (B.map En.E).map (fun y => (x.E, y))) := by
    conv => rhs; rw [← List.attach_map_subtype_val A]
    rw [List.flatMap_map]
  rw [← h2]
  congr 1
  funext x
  rw [h1, List.map_map]
  rfl

/-! ### pairs, and its function -/
def PrsO (a : Option Addr) (n c : Nat) (a' : Option Addr) (n' c' : Nat) (w : World) (en : Ending) (w' : World) : Prop :=
  en = .returned (.func (.func 57) #[] #[.pointer (some ⟨w.heap.size, 0, none⟩), .pointer (some ⟨w.heap.size + 1, 0, none⟩)]) ∧ Ext w w' ∧ w'.heap[w.heap.size]? = some (.cells #[.slice a n c] 24) ∧ w'.heap[w.heap.size + 1]? = some (.cells #[.slice a' n' c'] 24)
set_option maxRecDepth 100000 in
set_option maxHeartbeats 2000000 in
theorem pairs_any (a a' : Option Addr) (n c n' c' : Nat) (w : World) : Calls Tryz.prog 25 #[.slice a n c, .slice a' n' c'] w (PrsO a n c a' n' c' w) := by
  obtain ⟨post, hpo⟩ : ∃ p : Ending → World → Prop, p = PrsO a n c a' n' c' w := ⟨_, rfl⟩
  rw [← hpo]
  have HPO := Lib.hid hpo
  have HX := Lib.hid (two_boxes w #[.slice a n c] #[.slice a' n' c'] 24 24)
  clear hpo
  go_enter Tryz.func25, Tryz.ntmps25
  go_upto_region 1 with fail
  obtain ⟨hx, h1, h2⟩ := HX.out
  generalize (w.alloc (.cells #[.slice a n c] 24)).alloc (.cells #[.slice a' n' c'] 24) = w2 at hx h1 h2 ⊢
  go_wp2
  rw [HPO.out]
  exact ⟨rfl, hx, h1, h2⟩

/-- What the iterator reads. -/
structure ItE (wn : World) (g b : Nat) (sA sB : Value) (W : World) : Prop where
  ext : Ext wn W
  b1 : W.heap[b]? = some (.cells #[sA] 24)
  b2 : W.heap[b + 1]? = some (.cells #[sB] 24)
  col : ∃ ac, ColAt g W ac ∧ blockOf ac ≠ some b ∧ blockOf ac ≠ some (b + 1)
  ne : b ≠ g ∧ b + 1 ≠ g
theorem ItE.x {wn W W' : World} {g b : Nat} {sA sB : Value} (h : ItE wn g b sA sB W) (hx : Ext W W') : ItE wn g b sA sB W' := by
  obtain ⟨h1, h2, h3, ⟨ac, h4, h5, h6⟩, h7⟩ := h
  exact ⟨h1.trans' hx, hx.heap' h2, hx.heap' h3, ⟨ac, h4.ext hx, h5, h6⟩, h7⟩
theorem ItE.k {wn W W' : World} {g b : Nat} {sA sB : Value} (h : ItE wn g b sA sB W) (hk : KpC g wn.heap.size W W') : ItE wn g b sA sB W' := by
  obtain ⟨h1, h2, h3, ⟨ac, h4, h5, h6⟩, h7⟩ := h
  obtain ⟨a', h8, h9⟩ := hk.2 ac h4
  exact ⟨Below.trans h1 hk.1, (h9 b _ rfl h2 h7.1 h5).1, (h9 (b + 1) _ rfl h3 h7.2 h6).1, ⟨a', h8, (h9 b _ rfl h2 h7.1 h5).2, (h9 (b + 1) _ rfl h3 h7.2 h6).2⟩, h7⟩
/-- And the box of the first entry. -/
structure ItF (wn : World) (g b q : Nat) (sA sB : Value) (x : En) (W : World) : Prop where
  e : ItE wn g b sA sB W
  bx : W.heap[q]? = some (ebox x)
  col : ∀ ac, ColAt g W ac → blockOf ac ≠ some q
  ne : q ≠ g
theorem colAt_eq {g : Nat} {W : World} {a a' : Option Addr} (h : ColAt g W a) (k : ColAt g W a') : a = a' := by
  obtain ⟨⟨n, c, f, h1⟩, -⟩ := h
  obtain ⟨⟨n', c', f', h2⟩, -⟩ := k
  rw [h1] at h2
  simp only [Option.some.injEq, Obj.cells.injEq, and_true, Array.mk.injEq, List.cons.injEq, Value.slice.injEq, Value.bool.injEq] at h2
  exact h2.1.1
theorem ItF.x {wn W W' : World} {g b q : Nat} {sA sB : Value} {x : En} (h : ItF wn g b q sA sB x W) (hx : Ext W W') : ItF wn g b q sA sB x W' := by
  refine ⟨h.e.x hx, hx.heap' h.bx, fun ac hc => ?_, h.ne⟩
  obtain ⟨a, h1, -⟩ := h.e.col
  rw [← colAt_eq (h1.ext hx) hc]
  exact h.col a h1
theorem ItF.k {wn W W' : World} {g b q : Nat} {sA sB : Value} {x : En} (h : ItF wn g b q sA sB x W) (hk : KpC g wn.heap.size W W') : ItF wn g b q sA sB x W' := by
  obtain ⟨a, h1, -⟩ := h.e.col
  obtain ⟨a', h2, h3⟩ := hk.2 a h1
  have h4 := h3 q _ rfl h.bx h.ne (h.col a h1)
  exact ⟨h.e.k hk, h4.1, fun ac hc => by rw [← colAt_eq h2 hc]; exact h4.2, h.ne⟩
set_option maxRecDepth 100000 in
set_option maxHeartbeats 4000000 in
theorem pairs1_stops (n : Nat) (A B : List En) (a a' : Option Addr) (c c' : Nat) (g b : Nat) (wn w0 : World) (hA : Row wn a A.length c 5 (A.flatMap En.cells)) (hB : Row wn a' B.length c' 5 (B.flatMap En.cells)) (hI : ItE wn g b (.slice a A.length c) (.slice a' B.length c') w0) :
    SeqStopsK Fence.wide n Tryz.prog 57 #[.pointer (some ⟨b, 0, none⟩), .pointer (some ⟨b + 1, 0, none⟩)] (prE (A := A) (B := B)) (KpC g wn.heap.size) (fun xs => xs = prsL A B) (fun _ => True) (prsL A B).length w0 := by
  intro l J Jx W hW hJ hJx hY h0
  have hla : A.length ≤ 9223372036854775807 := by have h1 := hA.max; have h2 := hA.le; simp only [maxLen] at h1; omega
  have hlb : B.length ≤ 9223372036854775807 := by have h1 := hB.max; have h2 := hB.le; simp only [maxLen] at h1; omega
  have HI := Lib.hid (hI.x hW)
  have HRA := Lib.hid fun W' (h : Ext wn W') => hA.ext h
  have HRB := Lib.hid fun W' (h : Ext wn W') => hB.ext h
  have HJ := Lib.hid fun pre (U U' : World) (h : J pre U) (hx : Ext U U') => hJ pre U U' none h (grown_ext hx) (fun r e => by cases e)
  have HY := Lib.hid hY
  have H0 := Lib.hid h0
  clear hI hA hB hJ hJx hY h0
  refine callsIn_of_wp Tryz.func57 rfl trivial ?_ rfl
  simp only [Tryz.ntmps57, List.size_toArray, List.length_cons, List.length_nil, Nat.reduceAdd, Nat.reduceSub, Array.replicate_succ, Array.replicate_zero, List.push_toArray, List.append_toArray, List.nil_append, List.cons_append]
  have c8 := cell_of_row W b 0 _ _ _ HI.out.b1
  gi_upto_region 1 with fail
  clear c8
  gi_loopw [10] (fun v wr => ∃ j : Nat, v = .int .i64 j ∧ j ≤ A.length ∧ J ((prsL A B).take (j * B.length)) wr ∧ ItE wn g b (.slice a A.length c) (.slice a' B.length c') wr) (fun v _ => A.length - (intOf v).toNat)
  case atStart => exact ⟨0, rfl, Nat.zero_le _, by rw [Nat.zero_mul]; exact H0.out, HI.out⟩
  case round =>
    obtain ⟨j, rfl, hj, hJ0, hE⟩ := hrel
    rename World => wd
    have HJ0 := Lib.hid hJ0
    have HE := Lib.hid hE
    clear hJ0 hE
    by_cases hjl : j < A.length
    · obtain ⟨x, hx⟩ : ∃ x, A[j]? = some x := ⟨_, List.getElem?_eq_getElem hjl⟩
      have HX := Lib.hid hx
      have hrow := HRA.out wd HE.out.ext
      have HPN := Lib.hid (put_new wd #[.slice none 0 0, .bool false, .slice none 0 0, .bool false, .slice none 0 0] #[.slice x.l.a x.l.n x.l.c, .bool x.l.P.rest, .slice x.r.a x.r.n x.r.c, .bool x.r.P.rest, .slice x.a x.hs.length x.c] 60)
      have HNN := heap_alloc_new wd (.cells #[.slice none 0 0, .bool false, .slice none 0 0, .bool false, .slice none 0 0] 60)
      clear hx
      gi_upto_region 3 with (first
        | ((with_reducible refine atSlotW 12 ?_); refine wpListIn_of_wpW rfl (owp_ix (o := ⟨some 12, _, _, _, _, _⟩) _ _ rfl Tryz.elEn rfl hrow j rfl rfl hjl ?_); intro b1 o1 hc2; have hd := flat_range en_five HX.out hc2; clear hc2 hrow)
        | ((with_reducible refine atSlotW 13 ?_); refine wpListIn_of_wpW rfl (wp_load_mid (op := ⟨some 13, _, _, _, _, _⟩) 60 _ rfl b1 o1 rfl [.slice x.l.a x.l.n x.l.c, .bool x.l.P.rest, .slice x.r.a x.r.n x.r.c, .bool x.r.P.rest, .slice x.a x.hs.length x.c] _ hd Tryz.underlying60 rfl (by kernel_rfl) ?_); clear hd)
        | ((with_reducible refine atStoreW 5 ?_); refine wpListIn_of_wpW rfl (wp_store_row (o := ⟨none, _, _, _, _, _⟩) _ _ _ rfl wd.heap.size #[.slice x.l.a x.l.n x.l.c, .bool x.l.P.rest, .slice x.r.a x.r.n x.r.c, .bool x.r.P.rest, .slice x.a x.hs.length x.c] rfl rfl _ _ HNN (by kernel_rfl) rfl (by simp [Value.oneCell']) ?_); clear HNN)
        | fail)
      have hcol : ∀ ac, ColAt g wd ac → blockOf ac ≠ some wd.heap.size := fun ac hc e => Nat.lt_irrefl _ (hc.2 _ e)
      have hneg : wd.heap.size ≠ g := by
        obtain ⟨ac, ⟨⟨_, _, _, h1⟩, -⟩, -⟩ := HE.out.col
        have := (Array.getElem?_eq_some_iff.1 h1).1
        omega
      generalize (wd.alloc (.cells #[.slice none 0 0, .bool false, .slice none 0 0, .bool false, .slice none 0 0] 60)).setRow wd.heap.size #[.slice x.l.a x.l.n x.l.c, .bool x.l.P.rest, .slice x.r.a x.r.n x.r.c, .bool x.r.P.rest, .slice x.a x.hs.length x.c] = we at HPN ⊢
      obtain ⟨hxe, hbe⟩ := HPN.out
      have HJ1 := Lib.hid (HJ.out _ _ _ HJ0.out hxe)
      have HF := Lib.hid (show ItF wn g b wd.heap.size (.slice a A.length c) (.slice a' B.length c') x we from ⟨HE.out.x hxe, hbe, fun ac hc => by
        obtain ⟨a1, h1, -⟩ := HE.out.col
        rw [← colAt_eq (h1.ext hxe) hc]
        exact hcol a1 h1, hneg⟩)
      generalize wd.heap.size = q at HF ⊢
      have c14 := cell_of_row we (b + 1) 0 _ _ _ HF.out.e.b2
      clear hxe hbe HPN hcol hneg
      gi_upto_region 4 with fail
      clear c14
      gi_loopw [16] (fun v wr => ∃ i : Nat, v = .int .i64 i ∧ i ≤ B.length ∧ J ((prsL A B).take (j * B.length + i)) wr ∧ ItF wn g b q (.slice a A.length c) (.slice a' B.length c') x wr) (fun v _ => B.length - (intOf v).toNat)
      case atStart => exact ⟨0, rfl, Nat.zero_le _, HJ1.out, HF.out⟩
      case round =>
        obtain ⟨i, rfl, hi, hJ0', hF'⟩ := hrel
        rename World => wf
        have HJ2 := Lib.hid hJ0'
        have HF2 := Lib.hid hF'
        clear hJ0' hF'
        by_cases hil : i < B.length
        · obtain ⟨y, hy⟩ : ∃ y, B[i]? = some y := ⟨_, List.getElem?_eq_getElem hil⟩
          have HYY := Lib.hid hy
          have hrow := HRB.out wf HF2.out.e.ext
          have HPN := Lib.hid (put_new wf #[.slice none 0 0, .bool false, .slice none 0 0, .bool false, .slice none 0 0] #[.slice y.l.a y.l.n y.l.c, .bool y.l.P.rest, .slice y.r.a y.r.n y.r.c, .bool y.r.P.rest, .slice y.a y.hs.length y.c] 60)
          have HNN := heap_alloc_new wf (.cells #[.slice none 0 0, .bool false, .slice none 0 0, .bool false, .slice none 0 0] 60)
          clear hy
          gi_upto_region 6 with (first
            | ((with_reducible refine atSlotW 18 ?_); refine wpListIn_of_wpW rfl (owp_ix (o := ⟨some 18, _, _, _, _, _⟩) _ _ rfl Tryz.elEn rfl hrow i rfl rfl hil ?_); intro b1 o1 hc2; have hd := flat_range en_five HYY.out hc2; clear hc2 hrow)
            | ((with_reducible refine atSlotW 19 ?_); refine wpListIn_of_wpW rfl (wp_load_mid (op := ⟨some 19, _, _, _, _, _⟩) 60 _ rfl b1 o1 rfl [.slice y.l.a y.l.n y.l.c, .bool y.l.P.rest, .slice y.r.a y.r.n y.r.c, .bool y.r.P.rest, .slice y.a y.hs.length y.c] _ hd Tryz.underlying60 rfl (by kernel_rfl) ?_); clear hd)
            | ((with_reducible refine atStoreW 7 ?_); refine wpListIn_of_wpW rfl (wp_store_row (o := ⟨none, _, _, _, _, _⟩) _ _ _ rfl wf.heap.size #[.slice y.l.a y.l.n y.l.c, .bool y.l.P.rest, .slice y.r.a y.r.n y.r.c, .bool y.r.P.rest, .slice y.a y.hs.length y.c] rfl rfl _ _ HNN (by kernel_rfl) rfl (by simp [Value.oneCell']) ?_); clear HNN)
            | fail)
          generalize (wf.alloc (.cells #[.slice none 0 0, .bool false, .slice none 0 0, .bool false, .slice none 0 0] 60)).setRow wf.heap.size #[.slice y.l.a y.l.n y.l.c, .bool y.l.P.rest, .slice y.r.a y.r.n y.r.c, .bool y.r.P.rest, .slice y.a y.hs.length y.c] = wg at HPN ⊢
          obtain ⟨hxg, hbg⟩ := HPN.out
          have HF3 := Lib.hid (HF2.out.x hxg)
          have hr21 := (box5e HF3.out.bx).2.2.2
          have hr22 := (box5e hbg).2.2.2
          generalize wf.heap.size = q2 at hr22 ⊢
          obtain ⟨p, hp1, hp2⟩ := prs_at HX.out HYY.out
          have hlen : ((prsL A B).take (j * B.length + i)).length < (prsL A B).length := by
            have := (List.getElem?_eq_some_iff.1 hp1).1
            rw [List.length_take]; omega
          have htk : (prsL A B).take (j * B.length + (i + 1)) = (prsL A B).take (j * B.length + i) ++ [p] := by
            rw [← Nat.add_assoc, List.take_add_one, hp1]; rfl
          have HTK := Lib.hid htk
          obtain ⟨fn, tmps, assign, body, hy, hR⟩ := HY.out _ p wg (HJ.out _ _ _ HJ2.out hxg) hlen
          rw [show prE p = #[.agg #[.slice x.l.a x.l.n x.l.c, .bool x.l.P.rest, .slice x.r.a x.r.n x.r.c, .bool x.r.P.rest, .slice x.a x.hs.length x.c], .agg #[.slice y.l.a y.l.n y.l.c, .bool y.l.P.rest, .slice y.r.a y.r.n y.r.c, .bool y.r.P.rest, .slice y.a y.hs.length y.c]] by unfold prE; rw [hp2]] at hy
          clear hxg hbg HPN hp1 hp2 hlen htk
          gi_wp2_with (first
            | ((with_reducible refine atSlotW 21 ?_); refine wpListIn_of_wpW rfl (wp_load_mid (op := ⟨some 21, _, _, _, _, _⟩) 60 _ rfl q 0 rfl [.slice x.l.a x.l.n x.l.c, .bool x.l.P.rest, .slice x.r.a x.r.n x.r.c, .bool x.r.P.rest, .slice x.a x.hs.length x.c] _ hr21 Tryz.underlying60 rfl (by kernel_rfl) ?_); clear hr21)
            | ((with_reducible refine atSlotW 22 ?_); refine wpListIn_of_wpW rfl (wp_load_mid (op := ⟨some 22, _, _, _, _, _⟩) 60 _ rfl q2 0 rfl [.slice y.l.a y.l.n y.l.c, .bool y.l.P.rest, .slice y.r.a y.r.n y.r.c, .bool y.r.P.rest, .slice y.a y.hs.length y.c] _ hr22 Tryz.underlying60 rfl (by kernel_rfl) ?_); clear hr22)
            | fail)
          refine ⟨(fun h => by cases h), hR.mono ?_⟩
          clear hR hy
          rintro e wh (⟨rfl, hJ', hk⟩ | ⟨rfl, hJx'⟩)
          · have hF4 := HF3.out.k hk
            rw [← HTK.out] at hJ'
            gi_wp2
            go_roundw
            case rel => exact ⟨i + 1, by go_num, hil, hJ', hF4⟩
            case measure => simp [intOf]; omega
          · gi_wp2
            refine bodyPost_ret (results_none rfl _ _ _) rfl ?_
            exact ⟨⟨_, rfl⟩, .inr ⟨_, trivial, hJx'⟩⟩
        · have hiB : i = B.length := by omega
          have hJ3 := HJ2.out
          rw [show j * B.length + i = (j + 1) * B.length by rw [hiB, Nat.add_mul, Nat.one_mul]] at hJ3
          gi_wp2
          go_roundw
          case rel => exact ⟨j + 1, by go_num, hjl, hJ3, HF2.out.e⟩
          case measure => simp [intOf]; omega
    · gi_wp2
      go_end0
      have hjA : j = A.length := by omega
      have hf := HJ0.out
      rw [List.take_of_length_le (by rw [prs_len, hjA]; exact Nat.le_refl _)] at hf
      exact ⟨⟨_, rfl⟩, .inl ⟨_, rfl, hf⟩⟩
end Go.Proofs.YtejljmikammcdaaGreatDoor
