/-
  Caches in memory: what holds; use.
-/
import Derived.Test.YtpiodpljiklfkaaCacA
import Derived.DeepKeys4
namespace Go.Proofs.Ytpiodpljiklfkaa
open Go.RowKit Go.WideMaps

/-- IDs as keys. -/
def KI := { p : Nat × Int // p.1 ≤ 18446744073709551615 ∧ -9223372036854775808 ≤ p.2 ∧ p.2 ≤ 9223372036854775807 }
def kvI (k : KI) : Value := .agg #[.int .u64 k.1.1, .int .i64 k.1.2]
theorem wf64 {s : Nat} (h : s ≤ 18446744073709551615) : (Lit.int .u64 (s : Int)).wf = true := by
  have h1 : IntKind.min .u64 = 0 := rfl
  have h2 : IntKind.max .u64 = 18446744073709551615 := rfl
  simp [Lit.wf, h1, h2]
  omega
theorem wfi {z : Int} (h1 : -9223372036854775808 ≤ z) (h2 : z ≤ 9223372036854775807) : (Lit.int .i64 z).wf = true := by
  have e1 : IntKind.min .i64 = -9223372036854775808 := rfl
  have e2 : IntKind.max .i64 = 9223372036854775807 := rfl
  simp [Lit.wf, e1, e2]
  omega
theorem keyOf_two {P : Program} {k : TypeId} {fs : Array Field} {f0 f1 : Field} (hu : P.underlying k = some (.struct fs)) (hfs : fs.toList = [f0, f1]) (hn : fs.all (·.name != "_") = true) (o0 : f0.offset = 0) (o1 : f1.offset = 1) {q r : IntKind}
    (u0 : P.underlying f0.type = some (.int q)) (u1 : P.underlying f1.type = some (.int r)) (c0 : P.cellsOf f0.type = 1) (c1 : P.cellsOf f1.type = 1) (ck : P.cellsOf k = 2) (hkt : P.keyType k = true) (hsz : ∃ m, P.types.size = m + 1)
    {a b : Int} (wa : (Lit.int q a).wf = true) (wb : (Lit.int r b).wf = true) : ∃ l, keyOf P k (.agg #[.int q a, .int r b]) = some l := by
  obtain ⟨m, hm⟩ := hsz
  refine ⟨.string (keyBytes [.int q a, .int r b]), ?_⟩
  unfold keyOf
  simp only [hu]
  rw [if_pos (by simp [hkt, Value.formed, hu, ck]), hm]
  unfold Program.keyLits
  simp only [hu, Value.cells]
  rw [if_pos ⟨by rw [ck]; rfl, hn⟩, hfs, List.mapM_cons, List.mapM_cons, List.mapM_nil, o0, o1, c0, c1]
  simp [Program.keyLits, u0, u1, wa, wb]
theorem Try.size_pos : ∃ m, Try.prog.types.size = m + 1 := ⟨Try.prog.types.size - 1, by
  have : 0 < Try.prog.types.size := of_decide_eq_true (by kernel_rfl)
  omega⟩
theorem Try.kvI : KV Try.prog 45 kvI where
  law := deep_law_laid laidOut (m := 2) (by decide) (of_decide_eq_true (by kernel_rfl)) (by kernel_rfl) (by kernel_rfl)
  lit k := by
    obtain ⟨⟨s, z⟩, h1, h2, h3⟩ := k
    exact keyOf_two Try.underlying45 rfl (by kernel_rfl) rfl rfl Try.underlying43 Try.underlying3 (by kernel_rfl) (by kernel_rfl) (by kernel_rfl) (by kernel_rfl) Try.size_pos (wf64 h1) (wfi h2 h3)
  inj a b h := by
    obtain ⟨⟨s, z⟩, h1⟩ := a
    obtain ⟨⟨s', z'⟩, h2⟩ := b
    simp only [Proofs.Ytpiodpljiklfkaa.kvI, Value.agg.injEq, Array.mk.injEq, List.cons.injEq, Value.int.injEq, true_and, and_true] at h
    refine Subtype.ext (Prod.ext ?_ ?_)
    · show s = s'
      omega
    · exact h.2

/-! ### What holds of a cache -/
def enOf (x : Nd) : En := ⟨x.s, x.z, x.l, x.pins⟩
def ents (N : Nat → Nd) (L : List Nat) : List En := L.map fun k => enOf (N k)
/-- Where the ID of a key stands. -/
def blkOf (N : Nat → Nd) (L : List Nat) (k : Nat × Int) : Option Nat := L.find? fun b => decide ((enOf (N b)).id = k)
def mapOf (N : Nat → Nd) (L : List Nat) (k : KI) : Option Value := (blkOf N L k.1).map fun b => .pointer (some ⟨b, 0, none⟩)
structure Ca (w : World) (B c m e room : Nat) (N : Nat → Nd) (L : List Nat) : Prop where
  box : BoxAt w c room (sizeF (ents N L)) m e
  nodes : ∀ k ∈ e :: L, NodeAt w k (N k)
  ring : Ring N e L
  nodup : (e :: L).Nodup
  map : MapF kvI w m (mapOf N L)
  data : ∀ k ∈ L, w.ownsRow B 5 1 (.slice (N k).a (N k).n (N k).c) (N k).n ((N k).l.map u8)
  base : ∀ k ∈ c :: m :: e :: L, B ≤ k
  ok : OkE room (ents N L)
  max : room ≤ 1048576
/-- The data of the nodes are the same. -/
def SameD (N N' : Nat → Nd) : Prop := ∀ k, (N' k).s = (N k).s ∧ (N' k).z = (N k).z ∧ (N' k).a = (N k).a ∧ (N' k).n = (N k).n ∧ (N' k).c = (N k).c ∧ (N' k).l = (N k).l ∧ (N' k).pins = (N k).pins
theorem SameD.en {N N' : Nat → Nd} (h : SameD N N') (k : Nat) : enOf (N' k) = enOf (N k) := by
  obtain ⟨h1, h2, -, -, -, h3, h4⟩ := h k
  unfold enOf
  rw [h1, h2, h3, h4]
theorem SameD.ents {N N' : Nat → Nd} (h : SameD N N') (L : List Nat) : Proofs.Ytpiodpljiklfkaa.ents N' L = Proofs.Ytpiodpljiklfkaa.ents N L := List.map_congr_left fun k _ => h.en k
theorem SameD.trans {N N' N'' : Nat → Nd} (h : SameD N N') (h2 : SameD N' N'') : SameD N N'' := fun k => by
  obtain ⟨a1, a2, a3, a4, a5, a6, a7⟩ := h k
  obtain ⟨b1, b2, b3, b4, b5, b6, b7⟩ := h2 k
  exact ⟨b1.trans a1, b2.trans a2, b3.trans a3, b4.trans a4, b5.trans a5, b6.trans a6, b7.trans a7⟩
theorem sameD_setNext (N : Nat → Nd) (a b : Nat) : SameD N (setNext N a b) := fun k => by
  unfold setNext
  split
  · rename_i h; subst h; exact ⟨rfl, rfl, rfl, rfl, rfl, rfl, rfl⟩
  · exact ⟨rfl, rfl, rfl, rfl, rfl, rfl, rfl⟩
theorem sameD_setPrev (N : Nat → Nd) (a b : Nat) : SameD N (setPrev N a b) := fun k => by
  unfold setPrev
  split
  · rename_i h; subst h; exact ⟨rfl, rfl, rfl, rfl, rfl, rfl, rfl⟩
  · exact ⟨rfl, rfl, rfl, rfl, rfl, rfl, rfl⟩
theorem sameD_link (N : Nat → Nd) (h p : Nat) : SameD N (linkN N h p (N p)) := fun k => by
  unfold linkN
  split
  · rename_i h; subst h; exact ⟨rfl, rfl, rfl, rfl, rfl, rfl, rfl⟩
  · exact ((sameD_setNext N _ p).trans (sameD_setPrev _ h p)) k
theorem link_next (N : Nat → Nd) (h p : Nat) (x : Nd) (k : Nat) : (linkN N h p x k).next = if k = p then h else if k = (N h).prev then p else (N k).next := by
  unfold linkN setPrev setNext
  by_cases h1 : k = p
  · rw [if_pos h1, if_pos h1]
  · rw [if_neg h1, if_neg h1]
    by_cases h2 : k = h
    · rw [if_pos h2]
      by_cases h3 : k = (N h).prev
      · rw [if_pos h3, ← h2, if_pos (by rw [h2]; rw [h2] at h3; exact h3)]
      · rw [if_neg h3, ← h2, if_neg (by rw [h2]; rw [h2] at h3; exact h3)]
    · rw [if_neg h2]
      by_cases h3 : k = (N h).prev
      · rw [if_pos h3, if_pos h3]
      · rw [if_neg h3, if_neg h3]
theorem link_prev (N : Nat → Nd) (h p : Nat) (x : Nd) (k : Nat) : (linkN N h p x k).prev = if k = p then (N h).prev else if k = h then p else (N k).prev := by
  unfold linkN setPrev setNext
  by_cases h1 : k = p
  · rw [if_pos h1, if_pos h1]
  · rw [if_neg h1, if_neg h1]
    by_cases h2 : k = h
    · rw [if_pos h2, if_pos h2]
    · rw [if_neg h2, if_neg h2]
      by_cases h3 : k = (N h).prev
      · rw [if_pos h3, h3]
      · rw [if_neg h3]
/-- With IDs apart, what the map holds is told by the set alone. -/
theorem blkOf_iff {N : Nat → Nd} {L : List Nat} (h : ((ents N L).map En.id).Nodup) {k : Nat × Int} {b : Nat} : blkOf N L k = some b ↔ b ∈ L ∧ (enOf (N b)).id = k := by
  induction L with
  | nil => simp [blkOf]
  | cons x L ih =>
    simp only [ents, List.map_cons, List.nodup_cons] at h
    obtain ⟨h1, h2⟩ := h
    unfold blkOf
    rw [List.find?_cons]
    by_cases hx : (enOf (N x)).id = k
    · rw [decide_eq_true hx]
      constructor
      · intro e; cases e; exact ⟨List.mem_cons_self .., hx⟩
      · rintro ⟨hb, he⟩
        rcases List.mem_cons.1 hb with rfl | hb
        · rfl
        · exact absurd (List.mem_map_of_mem (f := En.id) (List.mem_map_of_mem (f := fun k => enOf (N k)) hb)) (by rw [he, ← hx]; exact h1)
    · rw [decide_eq_false hx]
      refine (ih h2).trans ⟨fun ⟨hb, he⟩ => ⟨List.mem_cons_of_mem _ hb, he⟩, fun ⟨hb, he⟩ => ?_⟩
      rcases List.mem_cons.1 hb with rfl | hb
      · exact absurd he hx
      · exact ⟨hb, he⟩
theorem mapOf_congr {N N' : Nat → Nd} {L L' : List Nat} (h : ((ents N L).map En.id).Nodup) (hL : ∀ b, b ∈ L' ↔ b ∈ L) (hN : SameD N N') (h' : ((ents N' L').map En.id).Nodup) (k : KI) : mapOf N' L' k = mapOf N L k := by
  unfold mapOf
  have : blkOf N' L' k.1 = blkOf N L k.1 := by
    refine Option.ext fun b => ?_
    rw [blkOf_iff h', blkOf_iff h, hL, hN.en]
  rw [this]
/-- Types of the blocks that a cache may change. -/
def Typed (w : World) (F : List Nat) : Prop := ∀ k ∈ F, ∀ (cs : Array Value) (t : TypeId) (fr : Nat × Nat), w.heap[k]? = some (.cells cs t fr) → t = 81 ∨ t = 79
theorem own_chg {w w' : World} {F : List Nat} {B t s n c : Nat} {a : Option Addr} {xs : List Value} (h : w.ownsRow B t s (.slice a n c) n xs) (hc : Chg F w w') (hT : Typed w F) (h1 : t ≠ 81) (h2 : t ≠ 79) : w'.ownsRow B t s (.slice a n c) n xs := by
  refine ⟨h.1, ?_⟩
  rcases h.2 with hn | ⟨g, cap, cur, hv, hB, hg, rest⟩
  · exact .inl hn
  · refine .inr ⟨g, cap, cur, hv, hB, hc.heap hg fun hm => ?_, rest⟩
    rcases hT g hm _ _ _ hg with e | e
    · exact h1 e
    · exact h2 e
theorem Ca.typed {w : World} {B c m e room : Nat} {N : Nat → Nd} {L : List Nat} (h : Ca w B c m e room N L) : Typed w (c :: m :: e :: L) := fun k hk cs t fr hh => by
  rcases List.mem_cons.1 hk with rfl | hk
  · have h1 := h.box.symm.trans hh
    simp only [Option.some.injEq, Obj.cells.injEq] at h1
    exact .inr h1.2.1.symm
  · rcases List.mem_cons.1 hk with rfl | hk
    · obtain ⟨es, cl, h1, -⟩ := h.map
      rw [h1] at hh
      cases hh
    · have h1 := (h.nodes k hk).symm.trans hh
      simp only [Option.some.injEq, Obj.cells.injEq] at h1
      exact .inl h1.2.1.symm
theorem Ca.c_ne {w : World} {B c m e room : Nat} {N : Nat → Nd} {L : List Nat} (h : Ca w B c m e room N L) : c ∉ e :: L := fun hm => box_node h.box (h.nodes c hm).raw rfl
theorem map_ne_cells {κ : Type} {kv : κ → Value} {w : World} {b : Nat} {f : κ → Option Value} {cs : Array Value} {t : TypeId} {fr : Nat × Nat} (h : MapF kv w b f) (hh : w.heap[b]? = some (.cells cs t fr)) : False := by
  obtain ⟨es, cl, h1, -⟩ := h
  rw [h1] at hh
  cases hh
theorem Ca.m_ne {w : World} {B c m e room : Nat} {N : Nat → Nd} {L : List Nat} (h : Ca w B c m e room N L) : m ∉ e :: L ∧ m ≠ c := ⟨fun hm => map_ne_cells h.map (h.nodes m hm), fun e => by subst e; exact map_ne_cells h.map h.box⟩
theorem MapF.chg {κ : Type} {kv : κ → Value} {F : List Nat} {w w' : World} {b : Nat} {f : κ → Option Value} (h : MapF kv w b f) (hc : Chg F w w') (hb : b ∉ F) : MapF kv w' b f := by
  obtain ⟨es, cl, h1, h2⟩ := h
  exact ⟨es, cl, hc.heap h1 hb, h2⟩
theorem Ca.ext {w w' : World} {B c m e room : Nat} {N : Nat → Nd} {L : List Nat} (h : Ca w B c m e room N L) (hx : Ext w w') : Ca w' B c m e room N L where
  box := hx.heap' h.box
  nodes k hk := hx.heap' (h.nodes k hk)
  ring := h.ring
  nodup := h.nodup
  map := h.map.ext hx
  data k hk := own_ext (h.data k hk) hx
  base := h.base
  ok := h.ok
  max := h.max
/-- What another hand may do. -/
theorem Ca.chg {F : List Nat} {w w' : World} {B c m e room : Nat} {N : Nat → Nd} {L : List Nat} (h : Ca w B c m e room N L) (hc : Chg F w w') (hT : Typed w F) (hF : ∀ k ∈ c :: m :: e :: L, k ∉ F) : Ca w' B c m e room N L where
  box := h.box.chg hc (hF c (by simp))
  nodes k hk := (h.nodes k hk).chg hc (hF k (by rcases List.mem_cons.1 hk with rfl | hk <;> simp [*]))
  ring := h.ring
  nodup := h.nodup
  map := h.map.chg hc (hF m (by simp))
  data k hk := own_chg (h.data k hk) hc hT (by decide) (by decide)
  base := h.base
  ok := h.ok
  max := h.max

set_option maxRecDepth 100000 in
set_option maxHeartbeats 2000000 in
theorem use_any (B c m e room x : Nat) (N : Nat → Nd) (A D : List Nat) (w : World) (h : Ca w B c m e room N (A ++ x :: D)) :
    Calls Try.prog 39 #[.pointer (some ⟨c, 0, none⟩), .pointer (some ⟨x, 0, none⟩)] w (fun en w' => en = .returned (.tuple #[]) ∧ ∃ N', SameD N N' ∧ Ca w' B c m e room N' (A ++ D ++ [x]) ∧ Chg (e :: (A ++ x :: D)) w w') := by
  have hxS : x ∈ e :: (A ++ x :: D) := by simp
  have hnd := h.nodup
  have hxe : x ≠ e := by
    rintro rfl
    simp at hnd
  have hxAD : x ∉ A ++ D := by
    have h1 := (List.nodup_cons.1 hnd).2
    rw [List.nodup_append, List.nodup_cons] at h1
    intro hm
    rcases List.mem_append.1 hm with hm | hm
    · exact h1.2.2 x hm x (by simp) rfl
    · exact h1.2.1.1 hm
  have hr := h.ring
  have h2 := Seg.append.1 hr
  have hp := h2.1.last
  have hn := h2.2.head
  have hpA : (N x).prev ∈ e :: A := by rw [hp]; exact lastD_mem e A
  have hnD : (N x).next ∈ D ++ [e] := by
    rw [hn]
    cases D with
    | nil => simp
    | cons d D => simp
  have ha : (N x).prev ∈ e :: (A ++ x :: D) := by rcases List.mem_cons.1 hpA with h | h <;> simp [h]
  have hb : (N x).next ∈ e :: (A ++ x :: D) := by
    rcases List.mem_append.1 hnD with h | h
    · simp [h]
    · simp at h; simp [h]
  have hax : (N x).prev ≠ x := fun e => by
    rw [e] at hpA
    rcases List.mem_cons.1 hpA with h | h
    · exact hxe h
    · exact hxAD (List.mem_append_left _ h)
  have hbx : (N x).next ≠ x := fun e => by
    rw [e] at hnD
    rcases List.mem_append.1 hnD with h | h
    · exact hxAD (List.mem_append_right _ h)
    · exact hxe (by simpa using h)
  have HU := Lib.hid (unlink_any x N (e :: (A ++ x :: D)) w h.nodes hxS ha hb hax hbx)
  obtain ⟨N1, hN1⟩ : ∃ N1, N1 = setPrev (setNext N (N x).prev (N x).next) (N x).next (N x).prev := ⟨_, rfl⟩
  have hR1 := hr.unlink hnd
  rw [← hN1] at hR1 HU
  have hS1 : SameD N N1 := by rw [hN1]; exact (sameD_setNext _ _ _).trans (sameD_setPrev _ _ _)
  have hnd1 : (e :: (A ++ D)).Nodup := hnd.sublist ((List.Sublist.refl A |>.append (List.sublist_cons_self x D)).cons_cons e)
  have hxS1 : x ∉ e :: (A ++ D) := fun hm => by
    rcases List.mem_cons.1 hm with h | h
    · exact hxe h
    · exact hxAD h
  have hpe : (N1 e).prev ∈ e :: (A ++ D) := by rw [hR1.last]; exact lastD_mem _ _
  have hsub : ∀ k ∈ e :: (A ++ D), k ∈ e :: (A ++ x :: D) := fun k hk => by
    simp only [List.mem_cons, List.mem_append] at hk ⊢
    rcases hk with h | h | h <;> simp [h]
  have hR2 : Ring (linkN N1 e x (N1 x)) e (A ++ D ++ [x]) := hR1.link hxS1 hnd1 (fun k => link_next N1 e x _ k) (fun k => link_prev N1 e x _ k)
  have hS2 : SameD N (linkN N1 e x (N1 x)) := hS1.trans (sameD_link N1 e x)
  have hperm : (A ++ D ++ [x]).Perm (A ++ x :: D) := by
    rw [List.append_assoc]
    exact List.Perm.append_left A (List.perm_append_singleton x D)
  have hLi : ∀ w1, (∀ k ∈ e :: (A ++ x :: D), NodeAt w1 k (N1 k)) → Chg (e :: (A ++ x :: D)) w w1 →
      Calls Try.prog 59 #[.pointer (some ⟨c, 0, none⟩), .pointer (some ⟨x, 0, none⟩)] w1 (LiPost (e :: (A ++ D)) N1 x e (N1 x) w1) := fun w1 h1 h2 =>
    link_any c x e m room (sizeF (ents N (A ++ x :: D))) _ _ (N1 x) N1 (e :: (A ++ D)) w1 (h.box.chg h2 h.c_ne) (fun k hk => h1 k (hsub k hk)) (by simp) (h1 x hxS).raw hxS1 hpe
  have hfin : ∀ w1 w2, Chg (e :: (A ++ x :: D)) w w1 → (∀ k ∈ x :: e :: (A ++ D), NodeAt w2 k (linkN N1 e x (N1 x) k)) → Chg (x :: e :: (A ++ D)) w1 w2 →
      ∃ N', SameD N N' ∧ Ca w2 B c m e room N' (A ++ D ++ [x]) ∧ Chg (e :: (A ++ x :: D)) w w2 := fun w1 w2 h1 h2 h3 => by
    have hc : Chg (e :: (A ++ x :: D)) w w2 := h1.trans' (h3.mono fun k hk => by
      rcases List.mem_cons.1 hk with rfl | hk
      · exact hxS
      · exact hsub k hk)
    have hT : Typed w (e :: (A ++ x :: D)) := fun k hk => h.typed k (by rw [List.mem_cons, List.mem_cons]; exact .inr (.inr hk))
    have hE : (ents (linkN N1 e x (N1 x)) (A ++ D ++ [x])).Perm (ents N (A ++ x :: D)) := by rw [hS2.ents]; exact hperm.map _
    have hsz : sizeF (ents (linkN N1 e x (N1 x)) (A ++ D ++ [x])) = sizeF (ents N (A ++ x :: D)) := by
      rw [hS2.ents]
      simp only [ents, List.map_append, List.map_cons, List.map_nil, sizeF_app, sizeF]
      omega
    have hok : OkE room (ents (linkN N1 e x (N1 x)) (A ++ D ++ [x])) := h.ok.perm hE hsz
    refine ⟨linkN N1 e x (N1 x), hS2, ⟨by rw [hsz]; exact h.box.chg hc h.c_ne, fun k hk => h2 k (by simp only [List.mem_cons, List.mem_append, List.not_mem_nil, or_false] at hk ⊢; rcases hk with h | (h | h) | h <;> simp [h]), hR2, ?_, ?_, fun k hk => ?_, fun k hk => h.base k ?_, hok, h.max⟩, hc⟩
    · rw [List.nodup_cons] at hnd ⊢
      exact ⟨fun hm => hnd.1 (hperm.mem_iff.1 hm), hperm.nodup_iff.2 hnd.2⟩
    · exact (h.map.chg hc h.m_ne.1).congr fun a => mapOf_congr h.ok.apart (fun b => hperm.mem_iff) hS2 hok.apart a
    · obtain ⟨-, -, q1, q2, q3, q4, -⟩ := hS2 k
      rw [q1, q2, q3, q4]
      exact own_chg (h.data k (hperm.mem_iff.1 hk)) hc hT (by decide) (by decide)
    · simp only [List.mem_cons] at hk ⊢
      rcases hk with h | h | h | h
      · exact .inl h
      · exact .inr (.inl h)
      · exact .inr (.inr (.inl h))
      · exact .inr (.inr (.inr (hperm.mem_iff.1 h)))
  have HL := Lib.hid hLi
  have HF := Lib.hid hfin
  clear hLi hfin hN1 hR1 hS1 hnd1 hxS1 hpe hsub hR2 hS2 hperm hr h2 hp hn hpA hnD ha hb hax hbx hxAD hxe hnd hxS h
  go_enter Try.func39, Try.ntmps39
  go_wp2_with (first
    | (go_at_call 58; (with_reducible refine HU.out.mono ?_); rintro en w1 ⟨rfl, hn1, hc1⟩)
    | (go_at_call 59; (with_reducible refine (HL.out _ hn1 hc1).mono ?_); rintro en w2 ⟨rfl, hn2, hc2⟩)
    | fail)
  refine bodyPost_end (results_none rfl _ _ _) rfl ?_
  exact ⟨rfl, HF.out _ _ hc1 hn2 hc2⟩
end Go.Proofs.Ytpiodpljiklfkaa
