/-
  Layer mapping: the collection: add, result; put.
-/
import Derived.Test.YtejljmikammcdaaGreatDoorMaG
import Derived.Deep.AppendLies
namespace Go.Proofs.YtejljmikammcdaaGreatDoor
open Go.RowKit

/-- A collection in memory: own entries. -/
structure CoI (w : World) (B T g : Nat) (L : List En) (full : Bool) : Prop where
  box : ∃ a c, w.heap[g]? = some (.cells #[.slice a L.length c, .bool full] 64) ∧ w.ownsRow B 60 5 (.slice a L.length c) L.length (L.flatMap En.cells)
  each : ∀ k ∈ L, EnO w B T k
  le : L.length ≤ 32
  base : B ≤ g
theorem CoI.ext {w w' : World} {B T g : Nat} {L : List En} {full : Bool} (h : CoI w B T g L full) (hx : Ext w w') : CoI w' B T g L full := by
  obtain ⟨⟨a, c, h1, h2⟩, h3, h4, h5⟩ := h
  exact ⟨⟨a, c, hx.heap' h1, own_ext h2 hx⟩, fun k hk => (h3 k hk).ext hx, h4, h5⟩
theorem PtO.grown {w w' : World} {B S g : Nat} {k : Pt} {cs : Array Value} {t : TypeId} {fr : Nat × Nat} (h : PtO w B S k) (hg : w.grownBy w' (some g)) (hc : w.heap[g]? = some (.cells cs t fr)) (h1 : t ≠ 9) : PtO w' B S k :=
  ⟨own_other h.own hg (fun e => own_apart h.own hc h1 e.symm), h.small⟩
theorem EnO.grown {w w' : World} {B S g : Nat} {k : En} {cs : Array Value} {t : TypeId} {fr : Nat × Nat} (h : EnO w B S k) (hg : w.grownBy w' (some g)) (hc : w.heap[g]? = some (.cells cs t fr)) (h1 : t ≠ 9) (h2 : t ≠ 39) : EnO w' B S k :=
  ⟨h.l.grown hg hc h1, h.r.grown hg hc h1, h.hs.grown hg hc h1 h2⟩
/-- What is own stays own where another row grows. -/
theorem EnO.app {w w' : World} {B S e s n c : Nat} {a : Option Addr} {xs : List Value} {k : En} (h : EnO w B S k) (h' : w.ownsRow B e s (.slice a n c) n xs) (h1 : 9 ≠ e) (h2 : 39 ≠ e) (hg : w.grownBy w' (blockOf a)) : EnO w' B S k :=
  ⟨rgo_keep h.l h' h1 hg, rgo_keep h.r h' h1 hg, ⟨own_app_other h.hs.own h' h2 hg, fun q hq => rgo_keep (h.hs.each q hq) h' h1 hg⟩⟩

theorem heap_keepR {w w' : World} {k : Nat} {r : Option Nat} {o : Obj} (h : w.heap[k]? = some o) (hg : w.grownBy w' r) (hne : r ≠ some k) : w'.heap[k]? = some o := by
  obtain ⟨-, -, -, -, h5⟩ := hg
  rw [h5 k (Array.getElem?_eq_some_iff.1 h).1 (fun e => hne e.symm)]; exact h
/-- append, and where the new row lies. -/
theorem owp_appL {P : Program} {w : World} {o : Oper} {f : Act} {K : Act → World → Prop} {Q : Exit → Act → World → Prop} (sO xO : Operand) {t : TypeId}
    (ho : o.op = .call { callee := .builtin .append, args := #[sO, xO], argTypes := #[t, t] })
    {e s b : Nat} {z : Value} (E : Elem P t e s b z) {D : Nat} {a : Option Addr} {n c : Nat} {xs : List Value} (hs : f.eval sO = .slice a n c) (hown : w.ownsRow D e s (.slice a n c) n xs)
    {xa : Option Addr} {m xc : Nat} {news : List Value} (hx : f.eval xO = .slice xa m xc) (hrow : Row w xa m xc s news) (h1 : ∀ u ∈ news, u.oneCell' = true) (hm0 : 0 < m)
    (hb : (n + m) * b ≤ 140737488355328) (hm : n + m ≤ maxLen) (hD : D ≤ w.heap.size)
    (h : ∀ a' c' w', w'.ownsRow D e s (.slice a' (n + m) c') (n + m) (xs ++ news) → w.grownBy w' (blockOf a) → (∀ k, blockOf a' = some k → blockOf a = some k ∨ k = w.heap.size) → K (f.put o.dst (.slice a' (n + m) c')) w') : o.wp P f w K Q := by
  obtain ⟨i, hi, hz0, hz1, hz2⟩ := info_parts E.info
  cases hxa : xa with
  | none =>
    have h0 := hrow.nil hxa
    have hle := hrow.le
    omega
  | some p =>
    subst hxa
    obtain ⟨g, cap, w', hr, h2, h3, h4, -⟩ := run_append_lies (P := P) w t o.type D e i z s b E.und hi hz0 hz1 hz2 E.zs E.pos _ n xs hown p m xc news hrow.len (hrow.cell p rfl) h1 hm0 hm hb hD _ rfl
    rw [ownBlock_slice] at h3 h4
    unfold Oper.wp execOp
    simp only [ho, resolve, invoke, builtin, Sem.run_bind, Sem.run_pure, Result.andThen_ok, List.map_toArray, List.map_cons, List.map_nil, hs, hx, hr]
    refine h _ _ _ h2 h3 fun k hk => ?_
    have hgk : g = k := Option.some.inj hk
    subst hgk
    exact h4
/-- All but the collection and its row stays. -/
def Kep (g : Nat) (W W' : World) : Prop :=
  ∀ (a : Option Addr) (n c : Nat) (full : Bool), W.heap[g]? = some (.cells #[.slice a n c, .bool full] 64) →
    ∃ (a' : Option Addr) (n' c' : Nat) (full' : Bool), W'.heap[g]? = some (.cells #[.slice a' n' c', .bool full'] 64) ∧
      ∀ (k : Nat) (o : Obj), W.heap[k]? = some o → k ≠ g → blockOf a ≠ some k → W'.heap[k]? = some o ∧ blockOf a' ≠ some k
theorem Kep.of_ext {g : Nat} {W W' : World} (h : Ext W W') : Kep g W W' := fun a n c full hb => ⟨a, n, c, full, h.heap' hb, fun _ _ hk _ hn => ⟨h.heap' hk, hn⟩⟩
theorem Kep.trans {g : Nat} {A B C : World} (h : Kep g A B) (k : Kep g B C) : Kep g A C := fun a n c full hb => by
  obtain ⟨a1, n1, c1, f1, hb1, h1⟩ := h a n c full hb
  obtain ⟨a2, n2, c2, f2, hb2, h2⟩ := k a1 n1 c1 f1 hb1
  refine ⟨a2, n2, c2, f2, hb2, fun j o hj hne hn => ?_⟩
  obtain ⟨h3, h4⟩ := h1 j o hj hne hn
  exact h2 j o h3 hne h4

/-- add: what is left of the collection. -/
def AddO (w0 : World) (T g : Nat) (L : List En) (full : Bool) (e : En) (w : World) (en : Ending) (w' : World) : Prop :=
  en = .returned (.tuple #[]) ∧ Ext w0 w' ∧ w.heap.size ≤ w'.heap.size ∧ Kep g w w' ∧ ∃ (L' : List En) (full' : Bool), CoI w' w0.heap.size T g L' full' ∧ ((L' = L ++ [e] ∧ full' = full) ∨ full' = true)
set_option maxRecDepth 100000 in
set_option maxHeartbeats 4000000 in
theorem add_any (w0 : World) (T g : Nat) (L : List En) (full : Bool) (e : En) (w : World) (h0 : Ext w0 w) (h : CoI w w0.heap.size T g L full) (he : EnO w w0.heap.size T e) :
    Calls Tryz.prog 56 #[.pointer (some ⟨g, 0, none⟩), e.v] w (AddO w0 T g L full e w) := by
  obtain ⟨⟨a, c, hbox, hown⟩, heach, hle, hbase⟩ := h
  have HBX := Lib.hid hbox
  have HOW := Lib.hid hown
  have HEA := Lib.hid heach
  have HEE := Lib.hid he
  clear hbox hown heach he
  obtain ⟨⟨la, ln, lc, lP⟩, ⟨ra, rn, rc, rP⟩, ha, hc, D⟩ := e
  have H0 := Lib.hid h0
  obtain ⟨post, hpo⟩ : ∃ p : Ending → World → Prop, p = AddO w0 T g L full ⟨⟨la, ln, lc, lP⟩, ⟨ra, rn, rc, rP⟩, ha, hc, D⟩ w := ⟨_, rfl⟩
  rw [← hpo]
  have HPO := Lib.hid hpo
  have HX := Lib.hid (Ext.alloc' w (.cells #[.slice la ln lc, .bool lP.rest, .slice ra rn rc, .bool rP.rest, .slice ha D.length hc] 60))
  have hh := heap_alloc_new w (.cells #[.slice la ln lc, .bool lP.rest, .slice ra rn rc, .bool rP.rest, .slice ha D.length hc] 60)
  clear hpo h0
  go_enter Tryz.func56, Tryz.ntmps56
  go_upto_region 1 with fail
  change Code.wp _ _ _ _ (w.alloc (.cells #[.slice la ln lc, .bool lP.rest, .slice ra rn rc, .bool rP.rest, .slice ha D.length hc] 60))
  generalize w.alloc (.cells #[.slice la ln lc, .bool lP.rest, .slice ra rn rc, .bool rP.rest, .slice ha D.length hc] 60) = w1 at HX hh ⊢
  have HB := Lib.hid hh
  obtain ⟨b, hb⟩ : ∃ b, b = w.heap.size := ⟨_, rfl⟩
  rw [← hb] at HB ⊢
  have HBB := Lib.hid hb
  clear hb
  have HB1 := Lib.hid (HX.out.heap' HBX.out)
  have c7 := (box2 HB1.out).1
  clear hh
  by_cases h32 : L.length = 32
  · obtain ⟨q1, q2⟩ := eqI (x := (L.length : Int)) (y := 32) (by omega)
    go_wp2_with (first
      | ((with_reducible refine atStore 12 ?_); refine wpList_of_wp rfl (owp_st1 (o := ⟨none, _, _, _, _, _⟩) _ _ _ rfl g 1 (.bool true) rfl rfl rfl (box_there HB1.out (by simp)) (by kernel_rfl) rfl ?_))
      | fail)
    go_end0
    rw [HPO.out]
    have hgr := grown_setCell' w1 g 1 (.bool true)
    have ho := own_ext HOW.out HX.out
    refine ⟨rfl, Ext.rd (H0.out.trans' HX.out) hgr hbase, Nat.le_trans HX.out.size hgr.size, fun a1 n1 c1 f1 hb1 => ?_, L, true, ?_⟩
    · rw [HBX.out] at hb1
      simp only [Option.some.injEq, Obj.cells.injEq, and_true, Array.mk.injEq, List.cons.injEq, Value.slice.injEq, Value.bool.injEq] at hb1
      obtain ⟨⟨rfl, -, -⟩, -⟩ := hb1
      exact ⟨a, L.length, c, true, box_set (i := 1) HB1.out (.bool true), fun k o hk hne hn => ⟨heap_keep (HX.out.heap' hk) hgr hne, hn⟩⟩
    exact ⟨⟨⟨a, c, box_set (i := 1) HB1.out (.bool true), own_other ho hgr (fun e => own_apart ho HB1.out (by decide) e.symm)⟩, fun k hk => ((HEA.out k hk).ext HX.out).grown hgr HB1.out (by decide) (by decide), hle, hbase⟩, .inr rfl⟩
  · obtain ⟨q1, q2⟩ := neI (x := (L.length : Int)) (y := 32) (by omega)
    have hl31 : L.length < 32 := by omega
    go_upto_region 3 with fail
    clear c7 q1 q2
    have E1 := Ext.drew' w1
    have HN1 := Lib.hid (own_ext (own_ext HOW.out HX.out) E1)
    refine wp_region_z (fun w' => w'.heap[g]? = some (.cells #[.slice a L.length c, .bool full] 64) ∧ w'.heap[b]? = some (.cells #[.slice la ln lc, .bool lP.rest, .slice ra rn rc, .bool rP.rest, .slice ha D.length hc] 60)) ⟨E1.heap' HB1.out, E1.heap' HB.out⟩ [8, 9, 10] (.qs [0, 1, 2, 3, 4, 5] (.l 6 (.l 7 (.l 8 (.l 9 (.l 10 .nil)))))) (by kernel_rfl) (by kernel_rfl) ?_
    ((refine wpZ_q rfl rfl _ (fun w' hx' => by go_simp; try rfl) ?_; go_simp))
    ((refine wpZ_q rfl rfl _ (fun w' hx' => by go_simp; try rfl) ?_; go_simp))
    ((refine wpZ_q rfl rfl _ (fun w' hx' => by go_simp; try rfl) ?_; go_simp))
    ((refine wpZ_q rfl rfl _ (fun w' hx' => by go_simp; try rfl) ?_; go_simp))
    refine wpZ_q rfl rfl (.slice a L.length c) (fun w' hx' => by have d0 := (box2 hx'.1).1; go_simp; try rfl) ?_
    go_simp
    refine wpZ_q rfl rfl (.agg #[.slice la ln lc, .bool lP.rest, .slice ra rn rc, .bool rP.rest, .slice ha D.length hc]) (fun w' hx' => by obtain ⟨d0, d1, d2, d3, d4⟩ := box5c hx'.2; go_simp; try rfl) ?_
    go_simp
    refine wpZ_l rfl rfl ?_
    go_simp
    have hal := (Ext.alloc' w1 (.cells #[.slice la ln lc, .bool lP.rest, .slice ra rn rc, .bool rP.rest, .slice ha D.length hc] 60)).trans' (Ext.drew' _)
    have hrn := (Row.new w1 #[.slice la ln lc, .bool lP.rest, .slice ra rn rc, .bool rP.rest, .slice ha D.length hc] 60 1 5 rfl (by decide)).ext (Ext.drew' _)
    generalize (w1.alloc (.cells #[.slice la ln lc, .bool lP.rest, .slice ra rn rc, .bool rP.rest, .slice ha D.length hc] 60)).drew = w2 at hal hrn ⊢
    have hx02 := HX.out.trans' hal
    have hx2 := H0.out.trans' hx02
    have hob := own_ext HOW.out hx02
    have hg2 := hal.heap' HB1.out
    have hb2 := hal.heap' HB.out
    refine ⟨⟨hg2, hb2⟩, ?_⟩
    refine wpZ_l rfl rfl (owp_appL (.tmp 17) (.tmp 19) rfl Tryz.elEn rfl hob rfl hrn (en_one ⟨⟨la, ln, lc, lP⟩, ⟨ra, rn, rc, rP⟩, ha, hc, D⟩) (by decide) (by omega) (by unfold maxLen; omega) hx2.size ?_)
    intro a9 c9 w9 ho9 hg9 hl9
    have hgb := box_app hg2 hob (by decide) hg9
    have hbb := (show w9.heap[b]? = some (.cells #[.slice la ln lc, .bool lP.rest, .slice ra rn rc, .bool rP.rest, .slice ha D.length hc] 60) from by
      cases hk : blockOf a with
      | none => rw [hk] at hg9; exact (Ext.of_grown hg9).heap' hb2
      | some k =>
        have h1 := (own_block HOW.out k hk).2
        have h2 := HBB.out
        rw [hk] at hg9
        exact heap_keep hb2 hg9 (by omega))
    have hx9 : Ext w0 w9 := below_app hx2 hob hg9 hx2.size
    have HK9 := Lib.hid fun (o : En) (h : EnO w2 w0.heap.size T o) => h.app hob (by decide) (by decide) hg9
    refine ⟨fun _ => ⟨hgb, hbb⟩, ?_⟩
    go_simp
    refine wpZ_l rfl rfl ?_
    go_simp
    refine wpZ_l rfl rfl ?_
    go_simp
    refine wpZ_l rfl rfl (owp_st1 _ _ _ rfl g 0 (.slice a9 (L.length + 1) c9) rfl rfl rfl (box_there hgb (by simp)) (by kernel_rfl) rfl ?_)
    refine ⟨fun h => absurd h (by decide), wpZ_nil ?_⟩
    have hgr := grown_setCell' w9 g 0 (.slice a9 (L.length + 1) c9)
    have HA := Lib.hid (box_set (i := 0) hgb (.slice a9 (L.length + 1) c9))
    have HBo := Lib.hid (own_other ho9 hgr (fun e => own_apart ho9 hgb (by decide) e.symm))
    have HD := Lib.hid fun (o : En) (h : EnO w9 w0.heap.size T o) => h.grown hgr hgb (by decide) (by decide)
    have HE := Lib.hid (Ext.rd hx9 hgr hbase)
    have HX2 := Lib.hid hx02
    have HSZ := Lib.hid (show w.heap.size ≤ (w9.setCell ⟨g, 0, none⟩ (.slice a9 (L.length + 1) c9)).heap.size from Nat.le_trans hx02.size (Nat.le_trans hg9.size hgr.size))
    have HKB := Lib.hid (show Kep g w (w9.setCell ⟨g, 0, none⟩ (.slice a9 (L.length + 1) c9)) from fun a1 n1 c1 f1 hb1 => by
      rw [HBX.out] at hb1
      simp only [Option.some.injEq, Obj.cells.injEq, and_true, Array.mk.injEq, List.cons.injEq, Value.slice.injEq, Value.bool.injEq] at hb1
      obtain ⟨⟨rfl, -, -⟩, -⟩ := hb1
      refine ⟨a9, L.length + 1, c9, full, HA.out, fun k o hk hne hn => ⟨heap_keep (heap_keepR (hx02.heap' hk) hg9 hn) hgr hne, fun h9 => ?_⟩⟩
      rcases hl9 k h9 with h | h
      · exact hn h
      · have h1 := (Array.getElem?_eq_some_iff.1 hk).1
        have h2 := hx02.size
        omega)
    clear hgr hgb hbb hx9 ho9 hg9 hl9 hob hx2 hx02 hal hrn E1 hg2 hb2
    go_wp2
    go_end0
    rw [HPO.out]
    refine ⟨rfl, HE.out, HSZ.out, HKB.out, L ++ [⟨⟨la, ln, lc, lP⟩, ⟨ra, rn, rc, rP⟩, ha, hc, D⟩], full, ⟨⟨a9, c9, ?_, ?_⟩, fun k hk => ?_, by rw [List.length_append]; show L.length + 1 ≤ 32; omega, hbase⟩, .inl ⟨rfl, rfl⟩⟩
    · rw [List.length_append]; exact HA.out
    · rw [List.length_append, List.flatMap_append]; exact HBo.out
    · rcases List.mem_append.1 hk with hk | hk
      · exact HD.out k (HK9.out k ((HEA.out k hk).ext HX2.out))
      · obtain rfl : k = ⟨⟨la, ln, lc, lP⟩, ⟨ra, rn, rc, rP⟩, ha, hc, D⟩ := by simpa using hk
        exact HD.out _ (HK9.out _ (HEE.out.ext HX2.out))
/-- result: the entries, or an error. -/
def ResO (w : World) (B : Nat) (L : List En) (full : Bool) (en : Ending) (w' : World) : Prop :=
  w' = w ∧ ∃ (a : Option Addr) (n c e : Nat), en = .returned (.tuple #[.slice a n c, .int .i64 (e : Nat)]) ∧ (e = 0 → full = false ∧ n = L.length ∧ w.ownsRow B 60 5 (.slice a n c) n (L.flatMap En.cells))
theorem result_any (w : World) (B T g : Nat) (L : List En) (full : Bool) (h : CoI w B T g L full) :
    Calls Tryz.prog 24 #[.pointer (some ⟨g, 0, none⟩)] w (ResO w B L full) := by
  obtain ⟨⟨a, c, hbox, hown⟩, heach, hle, hbase⟩ := h
  have HOW := Lib.hid hown
  obtain ⟨post, hpo⟩ : ∃ p : Ending → World → Prop, p = ResO w B L full := ⟨_, rfl⟩
  rw [← hpo]
  have HPO := Lib.hid hpo
  obtain ⟨c0, c1, -⟩ := box2 hbox
  clear hbox hown heach hpo
  go_enter Tryz.func24, Tryz.ntmps24
  cases full with
  | true =>
    go_wp2
    rw [HPO.out]
    exact ⟨rfl, none, 0, 0, 72, rfl, (fun h => by cases h)⟩
  | false =>
    go_wp2
    rw [HPO.out]
    exact ⟨rfl, a, L.length, c, 0, rfl, fun _ => ⟨rfl, rfl, HOW.out⟩⟩

/-- put: what is left of the collection. -/
def PutO (w0 : World) (l r : Pat) (hs : List Pat) (T g : Nat) (L : List En) (full : Bool) (w : World) (en : Ending) (w' : World) : Prop :=
  ∃ (e : Nat) (L' : List En) (full' : Bool), en = .returned (.int .i64 (e : Nat)) ∧ CoI w' w0.heap.size T g L' full' ∧ Ext w0 w' ∧ w.heap.size ≤ w'.heap.size ∧ Kep g w w' ∧ (e = 0 → ∃ o : Option En, PutOk l r hs (o.map En.E) ∧ ((full' = full ∧ L' = L ++ o.toList) ∨ full' = true))
set_option maxRecDepth 100000 in
set_option maxHeartbeats 4000000 in
theorem put_any (w0 : World) (g : Nat) (L : List En) (full : Bool) (k : Rl) (a0 : Option Addr) (c0 : Nat) (H : List Pt) (T : Nat) (w : World) (h0 : Ext w0 w) (h : CoI w w0.heap.size T g L full) (hk : RlI w T k) (hH : PtsI w T a0 c0 H) (hok : OkP k.l.P) (hor : OkP k.r.P) (hol : ∀ q ∈ H, OkP q.P) (hT : T ≤ 1073741824) (hll : H.length ≤ 1073741824) :
    Calls Tryz.prog 23 #[.pointer (some ⟨g, 0, none⟩), k.v, .slice a0 H.length c0] w (PutO w0 k.l.P k.r.P (H.map Pt.P) T g L full w) := by
  have HRE := Lib.hid fun w' (hx : Ext w w') => reduce_any k.l a0 c0 H T w' (hk.l.ext hx) (hH.ext hx) hok hol hT hll
  have HCP := Lib.hid fun w' (hx : Ext w w') => Copy_any k.r T w' (hk.r.ext hx) (by have := hor.le; have := hk.r.len; omega)
  have HAD := Lib.hid fun (e : En) w' (hx : Ext w w') (he : EnO w' w0.heap.size T e) => add_any w0 T g L full e w' (h0.trans' hx) (h.ext hx) he
  have HCO := Lib.hid h
  have H0 := Lib.hid h0
  clear hk hH hok hor hol h h0
  obtain ⟨kx, ⟨la, ln, lc, lP⟩, ⟨ra, rn, rc, rP⟩⟩ := k
  obtain ⟨post, hpo⟩ : ∃ p : Ending → World → Prop, p = PutO w0 lP rP (H.map Pt.P) T g L full w := ⟨_, rfl⟩
  show Calls _ _ _ _ (PutO w0 lP rP (H.map Pt.P) T g L full w)
  rw [← hpo]
  have HPO := Lib.hid hpo
  have HX := Lib.hid (Ext.alloc' w (.cells #[.bool kx, .slice la ln lc, .bool lP.rest, .slice ra rn rc, .bool rP.rest] 48))
  have hh := heap_alloc_new w (.cells #[.bool kx, .slice la ln lc, .bool lP.rest, .slice ra rn rc, .bool rP.rest] 48)
  clear hpo
  go_enter Tryz.func23, Tryz.ntmps23
  go_upto_region 1 with fail
  change Code.wp _ _ _ _ (w.alloc (.cells #[.bool kx, .slice la ln lc, .bool lP.rest, .slice ra rn rc, .bool rP.rest] 48))
  generalize w.alloc (.cells #[.bool kx, .slice la ln lc, .bool lP.rest, .slice ra rn rc, .bool rP.rest] 48) = w1 at HX hh ⊢
  have HB := Lib.hid hh
  have hgl : g < w.heap.size := by
    obtain ⟨a, c, h1, -⟩ := HCO.out.box
    exact (Array.getElem?_eq_some_iff.1 h1).1
  generalize w.heap.size = b at HB hgl ⊢
  have hr12 := (box5 HB.out).2.1
  clear hh
  go_upto_region 2 with (first
    | ((with_reducible refine atSlot 12 ?_); refine wpList_of_wp rfl (wp_load_mid (op := ⟨some 12, _, _, _, _, _⟩) 39 _ rfl b 1 rfl [.slice la ln lc, .bool lP.rest] _ hr12 Tryz.underlying39 rfl (by kernel_rfl) ?_); clear hr12)
    | (go_at_call 55; (with_reducible refine (HRE.out _ HX.out).mono ?_); rintro en w5 ⟨⟨⟨da, dn, dc, dP⟩, ha, hc, D⟩, q, e, rfl, h7, h8, h9, hx5⟩; have H7 := Lib.hid h7; have H8 := Lib.hid h8; have HRO := Lib.hid h9; have HX5 := Lib.hid (HX.out.trans' hx5); have HB5 := Lib.hid (hx5.heap' HB.out); have HP5 := Lib.hid (put_new w5 #[.slice none 0 0, .bool false, .slice none 0 0] #[.slice da dn dc, .bool dP.rest, .slice ha D.length hc] 55); have hn5 := heap_alloc_new w5 (.cells #[.slice none 0 0, .bool false, .slice none 0 0] 55); clear h7 h8 h9 hx5)
    | ((with_reducible refine atStore 7 ?_); refine wpList_of_wp rfl (wp_store_row (o := ⟨none, _, _, _, _, _⟩) _ _ _ rfl w5.heap.size #[.slice da dn dc, .bool dP.rest, .slice ha D.length hc] rfl rfl _ _ hn5 (by kernel_rfl) rfl (by simp [Value.oneCell']) ?_); clear hn5)
    | fail)
  have HSB := Lib.hid (show w0.heap.size ≤ w1.heap.size from (H0.out.trans' HX.out).size)
  generalize (w5.alloc (.cells #[.slice none 0 0, .bool false, .slice none 0 0] 55)).setRow w5.heap.size #[.slice da dn dc, .bool dP.rest, .slice ha D.length hc] = w6 at HP5 ⊢
  obtain ⟨hx6, hb6⟩ := HP5.out
  have HX6 := Lib.hid (HX5.out.trans' hx6)
  have HF6 := Lib.hid hb6
  have HB6 := Lib.hid (hx6.heap' HB5.out)
  have HR6 := Lib.hid (show RgO w6 w0.heap.size T ⟨⟨da, dn, dc, dP⟩, ha, hc, D⟩ from (HRO.out.ext hx6).base HSB.out)
  have hg5 : g < w5.heap.size := Nat.lt_of_lt_of_le hgl (Nat.le_of_lt (Array.getElem?_eq_some_iff.1 HB5.out).1)
  generalize w5.heap.size = g5 at HF6 hg5 ⊢
  clear hx6 hb6 HP5 HRO HX5 HB5
  cases q with
  | false =>
    go_wp2
    rw [HPO.out]
    refine ⟨e, L, full, rfl, HCO.out.ext HX6.out, H0.out.trans' HX6.out, HX6.out.size, Kep.of_ext HX6.out, fun he => ⟨none, ?_, .inl ⟨rfl, by simp⟩⟩⟩
    obtain ⟨h1, h2, h3, h4⟩ := H7.out he
    intro xs hf hx
    have hv : VoidP lP (D.map Pt.P) := Classical.not_not.1 fun h => by have := h3.2 h; cases this
    have h5 := void_sound hv hx hf
    rw [h2.has xs hx] at h5
    exact h5
  | true =>
    have HE0 := Lib.hid (show e = 0 from Classical.not_not.1 fun h => by have := H8.out h; cases this)
    go_upto_region 3 with fail
    have E6 := Ext.drew' w6
    refine wp_region_z (fun w' => w'.heap[g5]? = some (.cells #[.slice da dn dc, .bool dP.rest, .slice ha D.length hc] 55) ∧ w'.heap[b]? = some (.cells #[.bool kx, .slice la ln lc, .bool lP.rest, .slice ra rn rc, .bool rP.rest] 48)) ⟨E6.heap' HF6.out, E6.heap' HB6.out⟩ [] (.qs [0, 1, 2, 3, 4, 6, 7] (.l 5 (.qs [8] (.l 9 .nil)))) (by kernel_rfl) (by kernel_rfl) ?_
    ((refine wpZ_q rfl rfl _ (fun w' hx' => by go_simp; try rfl) ?_; go_simp))
    ((refine wpZ_q rfl rfl _ (fun w' hx' => by go_simp; try rfl) ?_; go_simp))
    refine wpZ_q rfl rfl (.agg #[.slice da dn dc, .bool dP.rest]) (fun w' hx' => by obtain ⟨d0, d2, d3⟩ := box3 hx'.1; have d1 := d3 1 _ rfl; have d00 := d3 0 _ rfl; go_simp; try rfl) ?_
    go_simp
    ((refine wpZ_q rfl rfl _ (fun w' hx' => by go_simp; try rfl) ?_; go_simp))
    refine wpZ_q rfl rfl (.agg #[.slice ra rn rc, .bool rP.rest]) (fun w' hx' => by obtain ⟨d0, d1, d2, d3, d4⟩ := box5c hx'.2; go_simp; try rfl) ?_
    go_simp
    ((refine wpZ_q rfl rfl _ (fun w' hx' => by go_simp; try rfl) ?_; go_simp))
    refine wpZ_q rfl rfl (.slice ha D.length hc) (fun w' hx' => by have d2 := (box3 hx'.1).2.1; go_simp; try rfl) ?_
    go_simp
    refine wpZ_l rfl rfl ?_
    go_simp
    refine (HCP.out _ (HX6.out.trans' E6)).mono ?_
    rintro en w7 ⟨⟨ca, cn, cc, cP⟩, hcp, rfl, hco, hx7⟩
    have HX7 := Lib.hid (E6.trans' hx7)
    refine ⟨⟨HX7.out.heap' HF6.out, HX7.out.heap' HB6.out⟩, ?_⟩
    have HCC := Lib.hid (show PtO w7 w0.heap.size T ⟨ca, cn, cc, cP⟩ from hco.base (H0.out.trans' (HX6.out.trans' E6)).size)
    have HCE := Lib.hid (show cP = rP from hcp)
    clear hcp hco hx7 E6
    go_simp
    ((refine wpZ_q rfl rfl _ (fun w' hx' => by go_simp; try rfl) ?_; go_simp))
    refine wpZ_l rfl rfl ?_
    go_simp
    have hR7 := HR6.out.ext HX7.out
    refine (HAD.out ⟨⟨da, dn, dc, dP⟩, ⟨ca, cn, cc, cP⟩, ha, hc, D⟩ _ (HX6.out.trans' HX7.out) ⟨hR7.b, HCC.out, hR7.hs⟩).mono ?_
    rintro en w8 ⟨rfl, hx8, hsz8, hkb, L', full', hco8, hor8⟩
    have HS8 := Lib.hid (Nat.le_trans (HX6.out.trans' HX7.out).size hsz8)
    obtain ⟨ac, cc', hcb, hcr⟩ := (HCO.out.ext (HX6.out.trans' HX7.out)).box
    obtain ⟨ac', nc', cc'', fc', hcb', hkk⟩ := hkb _ _ _ _ hcb
    refine ⟨⟨(hkk g5 _ (HX7.out.heap' HF6.out) (by omega) (fun e => own_apart hcr (HX7.out.heap' HF6.out) (by decide) e.symm)).1, (hkk b _ (HX7.out.heap' HB6.out) (by omega) (fun e => own_apart hcr (HX7.out.heap' HB6.out) (by decide) e.symm)).1⟩, wpZ_nil ?_⟩
    have HKP := Lib.hid ((Kep.of_ext (HX6.out.trans' HX7.out)).trans hkb)
    have HCO8 := Lib.hid hco8
    have HOR8 := Lib.hid hor8
    have HX8 := Lib.hid hx8
    clear hco8 hor8 hx8 hkb hR7 hkk hcb hcr hcb'
    go_wp2
    rw [HPO.out]
    refine ⟨e, L', full', rfl, HCO8.out, HX8.out, HS8.out, HKP.out, fun he => ⟨some ⟨⟨da, dn, dc, dP⟩, ⟨ca, cn, cc, cP⟩, ha, hc, D⟩, ?_, ?_⟩⟩
    · obtain ⟨h1, h2, h3, h4⟩ := H7.out he
      exact ⟨h1, HCE.out, h2⟩
    · rcases HOR8.out with ⟨h1, h2⟩ | h1
      · exact .inl ⟨h2, h1⟩
      · exact .inr h1
end Go.Proofs.YtejljmikammcdaaGreatDoor
