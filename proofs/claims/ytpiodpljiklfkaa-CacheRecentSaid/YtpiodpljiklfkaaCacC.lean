/-
  Caches: Has, Pins, Bytes, Get.
-/
import Derived.Test.YtpiodpljiklfkaaCacB
namespace Go.Proofs.Ytpiodpljiklfkaa
open Go.RowKit Go.WideMaps

theorem zero_of {P : Program} {t : TypeId} {z : Value} (h : (P.info? t).map (·.zero) = some (some z)) (w : World) : (zeroValue t).run P w = .ok z w := by
  cases hi : P.info? t with
  | none => rw [hi] at h; simp at h
  | some i =>
    rw [hi] at h
    simp only [Option.map_some, Option.some.injEq] at h
    simp [zeroValue, typeInfo, hi, h]
/-- A look-up in a region. -/
theorem wpY_look {P : Program} {ops : Array Oper} {B : Nat} {w0 : World} {fr : List Nat} {Q : Act → World → Prop} {j : Nat} {l : XP} {a : Act} {w : World} {o : Oper} (ho : ops[j]? = some o) (hw : Region.wanted o (yielded ops a.tmps) = true)
    {κ : Type} {kt : TypeId} {kv : κ → Value} (H : KV P kt kv) (mO xO : Operand) {t et : TypeId} (hop : o.op = .lookup t mO xO true) (ht : P.underlying t = some (.map kt et)) {z : Value} (hz : ∀ w', (zeroValue et).run P w' = .ok z w')
    {b : Nat} {f : κ → Option Value} (hm : a.eval mO = .map (some b)) (hf : ∀ w', Below B w0 w' → MapF kv w' b f) (k : κ) (hx : a.eval xO = kv k)
    (h : wpY P ops B w0 fr Q l (a.put o.dst (.tuple #[(f k).getD z, .bool (f k).isSome])) w) : wpY P ops B w0 fr Q (.q j l) a w :=
  wpY_q ho hw _ (fun w' hx' => by
    simp only [execOp, hop, hm, hx, (hf w' hx').run_look H ht (hz w') k true, Sem.run_bind, Sem.run_pure, Result.andThen_ok]
    rfl) h

def Cac (w : World) (B c room : Nat) (E : List En) (F : List Nat) : Prop := ∃ m e N L, Ca w B c m e room N L ∧ E = ents N L ∧ F = c :: m :: e :: L
theorem Cac.typed {w : World} {B c room : Nat} {E : List En} {F : List Nat} (h : Cac w B c room E F) : Typed w F := by
  obtain ⟨m, e, N, L, h1, -, rfl⟩ := h
  exact h1.typed
theorem Cac.ext {w w' : World} {B c room : Nat} {E : List En} {F : List Nat} (h : Cac w B c room E F) (hx : Ext w w') : Cac w' B c room E F := by
  obtain ⟨m, e, N, L, h1, h2, h3⟩ := h
  exact ⟨m, e, N, L, h1.ext hx, h2, h3⟩
theorem Cac.chg {w w' : World} {B c room : Nat} {E : List En} {F G : List Nat} (h : Cac w B c room E F) (hc : Chg G w w') (hT : Typed w G) (hF : ∀ k ∈ F, k ∉ G) : Cac w' B c room E F := by
  obtain ⟨m, e, N, L, h1, h2, rfl⟩ := h
  exact ⟨m, e, N, L, h1.chg hc hT hF, h2, rfl⟩
theorem Cac.ok {w : World} {B c room : Nat} {E : List En} {F : List Nat} (h : Cac w B c room E F) : OkE room E ∧ room ≤ 1048576 := by
  obtain ⟨m, e, N, L, h1, rfl, -⟩ := h
  exact ⟨h1.ok, h1.max⟩
theorem Cac.base {w : World} {B c room : Nat} {E : List En} {F : List Nat} (h : Cac w B c room E F) : ∀ k ∈ F, B ≤ k := by
  obtain ⟨m, e, N, L, h1, -, rfl⟩ := h
  exact h1.base
theorem Cac.lt {w : World} {B c room : Nat} {E : List En} {F : List Nat} (h : Cac w B c room E F) : ∀ k ∈ F, k < w.heap.size := by
  obtain ⟨m, e, N, L, h1, -, rfl⟩ := h
  intro k hk
  rcases List.mem_cons.1 hk with rfl | hk
  · exact (Array.getElem?_eq_some_iff.1 h1.box).1
  · rcases List.mem_cons.1 hk with rfl | hk
    · exact h1.map.lt
    · exact (Array.getElem?_eq_some_iff.1 (h1.nodes k hk)).1
/-- The cache has changed, and nothing else that was there. -/
def CacTo (w : World) (B c room : Nat) (F : List Nat) (E' : List En) (w' : World) : Prop := ∃ F', Cac w' B c room E' F' ∧ Chg F w w' ∧ ∀ k ∈ F', k ∈ F ∨ w.heap.size ≤ k

/-- Where an ID stands, in the list and in the ring. -/
theorem blk_at {N : Nat → Nd} {k : Nat × Int} {L : List Nat} {i : Nat} (h : atF k (ents N L) = some i) : ∃ A x D, L = A ++ x :: D ∧ A.length = i ∧ blkOf N L k = some x ∧ (enOf (N x)).id = k := by
  induction L generalizing i with
  | nil => cases h
  | cons y L ih =>
    simp only [ents, List.map_cons, atF] at h
    by_cases hy : (enOf (N y)).id = k
    · rw [if_pos hy] at h
      cases h
      exact ⟨[], y, L, rfl, rfl, by unfold blkOf; rw [List.find?_cons, decide_eq_true hy], hy⟩
    · rw [if_neg hy] at h
      obtain ⟨j, hj, rfl⟩ := Option.map_eq_some_iff.1 h
      obtain ⟨A, x, D, rfl, rfl, h1, h2⟩ := ih hj
      exact ⟨y :: A, x, D, rfl, rfl, by unfold blkOf at h1 ⊢; rw [List.find?_cons, decide_eq_false hy]; exact h1, h2⟩
theorem blk_none {N : Nat → Nd} {k : Nat × Int} {L : List Nat} (h : atF k (ents N L) = none) : blkOf N L k = none := by
  refine List.find?_eq_none.2 fun x hx => ?_
  have := atF_none h _ (List.mem_map_of_mem (f := fun k => enOf (N k)) hx)
  simpa using this
theorem ents_at {N : Nat → Nd} {A D : List Nat} {x : Nat} : (ents N (A ++ x :: D))[A.length]? = some (enOf (N x)) := by
  unfold ents
  rw [List.map_append, List.getElem?_append_right (by simp), List.length_map, Nat.sub_self]
  rfl
theorem ents_use {N : Nat → Nd} {A D : List Nat} {x : Nat} : useF (ents N (A ++ x :: D)) A.length = ents N (A ++ D ++ [x]) := by
  have h : ents N (A ++ x :: D) = ents N A ++ enOf (N x) :: ents N D := by simp [ents]
  rw [h, show A.length = (ents N A).length by simp [ents], useF_cut]
  simp [ents]
/-- A key. -/
theorem key_of {s : Nat} {z : Int} (hs : s ≤ 18446744073709551615) (hz : -9223372036854775808 ≤ z ∧ z ≤ 9223372036854775807) : ∃ k : KI, k.1 = (s, z) ∧ kvI k = .agg #[.int .u64 s, .int .i64 z] := ⟨⟨(s, z), hs, hz.1, hz.2⟩, rfl, rfl⟩
/-- What a look-up of an ID answers. -/
def lkV (b : Option Nat) : Value := .tuple #[(b.map fun b => Value.pointer (some ⟨b, 0, none⟩)).getD (.pointer none), .bool b.isSome]

set_option maxRecDepth 100000 in
set_option maxHeartbeats 2000000 in
theorem Has_any (B c room : Nat) (E : List En) (F : List Nat) (s : Nat) (z : Int) (w : World) (h : Cac w B c room E F) (hs : s ≤ 18446744073709551615) (hz : -9223372036854775808 ≤ z ∧ z ≤ 9223372036854775807) :
    Calls Try.prog 22 #[.pointer (some ⟨c, 0, none⟩), .agg #[.int .u64 s, .int .i64 z]] w (NewNone (.bool (atF (s, z) E).isSome) w) := by
  obtain ⟨m, e, N, L, hC, rfl, rfl⟩ := h
  obtain ⟨k, hk, hkv⟩ := key_of hs hz
  have hx1 : Ext w (w.alloc (.cells #[.int .u64 s, .int .i64 z] 45)) := Ext.alloc' w _
  have hh1 := heap_alloc_new w (.cells #[.int .u64 s, .int .i64 z] 45)
  have HC1 := Lib.hid (hC.ext hx1)
  have HH1 := Lib.hid hh1
  have hv : ∃ bo, blkOf N L (s, z) = bo ∧ bo.isSome = (atF (s, z) (ents N L)).isSome := by
    cases hat : atF (s, z) (ents N L) with
    | none => exact ⟨none, blk_none hat, rfl⟩
    | some i =>
      obtain ⟨A, x, D, rfl, -, hb, -⟩ := blk_at hat
      exact ⟨some x, hb, rfl⟩
  obtain ⟨bo, hbo, hbs⟩ := hv
  rw [← hbs]
  have hmo : mapOf N L k = bo.map fun b => .pointer (some ⟨b, 0, none⟩) := by unfold mapOf; rw [hk, hbo]
  have HV := Lib.hid hmo
  have HKV := Lib.hid hkv
  clear hC hs hz hk hbo hbs hmo hkv hh1
  go_enter Try.func22, Try.ntmps22
  go_wp2
  generalize w.alloc (.cells #[.int .u64 s, .int .i64 z] 45) = w1 at hx1 HC1 HH1 ⊢
  have HB := Lib.hid fun w' (h : Ext w1 w') => (HC1.out.ext h).box.map
  have HM := Lib.hid fun w' (h : Ext w1 w') => (HC1.out.ext h).map
  have HK := Lib.hid fun w' (h : Ext w1 w') => range_of_heap2 (h.heap' HH1.out)
  refine wp_region_e [] (.qs [0, 1, 2, 3, 4, 5, 6, 7, 8, 9, 10] .nil) (by kernel_rfl) (by kernel_rfl) ?_
  have E1 := Ext.drew' w1
  iterate 3 ((refine wpY_q rfl rfl _ (fun w' hx' => by go_simp; try rfl) ?_; go_simp))
  refine wpY_q rfl rfl (.map (some m)) (fun w' hx' => by have hb' := HB.out w' hx'; go_simp; try rfl) ?_
  go_simp
  refine wpY_ld rfl rfl (.tmp 3) rfl w.heap.size 0 rfl [.int .u64 s, .int .i64 z] _ HK.out Try.underlying45 rfl (by kernel_rfl) ?_
  refine wpY_look rfl rfl Try.kvI (.tmp 11) (.tmp 12) rfl Try.underlying76 (z := .pointer none) (fun w' => zero_of (by kernel_rfl) w') rfl HM.out k HKV.out.symm ?_
  rw [HV.out]
  cases bo with
  | none =>
    iterate 5 ((refine wpY_q rfl rfl _ (fun w' hx' => by go_simp; try rfl) ?_; go_simp))
    refine wpY_nil ?_
    go_wp2
    go_ret
    exact ⟨rfl, hx1.trans' E1⟩
  | some b =>
    iterate 5 ((refine wpY_q rfl rfl _ (fun w' hx' => by go_simp; try rfl) ?_; go_simp))
    refine wpY_nil ?_
    go_wp2
    go_ret
    exact ⟨rfl, hx1.trans' E1⟩

set_option maxRecDepth 100000 in
set_option maxHeartbeats 4000000 in
theorem Pins_any (B c room : Nat) (E : List En) (F : List Nat) (s : Nat) (z : Int) (w : World) (h : Cac w B c room E F) (hs : s ≤ 18446744073709551615) (hz : -9223372036854775808 ≤ z ∧ z ≤ 9223372036854775807) :
    Calls Try.prog 25 #[.pointer (some ⟨c, 0, none⟩), .agg #[.int .u64 s, .int .i64 z]] w (NewNone (.int .i64 (pinsC E (s, z) : Nat)) w) := by
  obtain ⟨m, e, N, L, hC, rfl, rfl⟩ := h
  obtain ⟨k, hk, hkv⟩ := key_of hs hz
  have HKV := Lib.hid hkv
  have hx1 : Ext w (w.alloc (.cells #[.int .u64 s, .int .i64 z] 45)) := Ext.alloc' w _
  have HC1 := Lib.hid (hC.ext hx1)
  have HH1 := Lib.hid (heap_alloc_new w (.cells #[.int .u64 s, .int .i64 z] 45))
  clear hC hs hz hkv
  cases hat : atF (s, z) (ents N L) with
  | none =>
    have HV := Lib.hid (show mapOf N L k = none by unfold mapOf; rw [hk, blk_none hat]; rfl)
    have hp : pinsC (ents N L) (s, z) = 0 := by unfold pinsC; rw [hat]
    rw [hp]
    clear hat hp hk
    go_enter Try.func25, Try.ntmps25
    go_wp2
    generalize w.alloc (.cells #[.int .u64 s, .int .i64 z] 45) = w1 at hx1 HC1 HH1 ⊢
    have HB := Lib.hid fun w' (h : Ext w1 w') => (HC1.out.ext h).box.map
    have HM := Lib.hid fun w' (h : Ext w1 w') => (HC1.out.ext h).map
    have HK := Lib.hid fun w' (h : Ext w1 w') => range_of_heap2 (h.heap' HH1.out)
    have E1 := Ext.drew' w1
    refine wp_region_e [] (.qs [0, 1, 2, 3, 4, 5, 6, 7, 8, 9, 10] .nil) (by kernel_rfl) (by kernel_rfl) ?_
    iterate 3 ((refine wpY_q rfl rfl _ (fun w' hx' => by go_simp; try rfl) ?_; go_simp))
    refine wpY_q rfl rfl (.map (some m)) (fun w' hx' => by have hb' := HB.out w' hx'; go_simp; try rfl) ?_
    go_simp
    refine wpY_ld rfl rfl (.tmp 3) rfl w.heap.size 0 rfl [.int .u64 s, .int .i64 z] _ HK.out Try.underlying45 rfl (by kernel_rfl) ?_
    refine wpY_look rfl rfl Try.kvI (.tmp 11) (.tmp 12) rfl Try.underlying76 (z := .pointer none) (fun w' => zero_of (by kernel_rfl) w') rfl HM.out k HKV.out.symm ?_
    rw [HV.out]
    iterate 5 ((refine wpY_q rfl rfl _ (fun w' hx' => by go_simp; try rfl) ?_; go_simp))
    refine wpY_nil ?_
    clear HB HM HK
    go_wp2
    go_ret
    exact ⟨rfl, hx1.trans' E1⟩
  | some i =>
    obtain ⟨A, x, D, rfl, rfl, hb, hid⟩ := blk_at hat
    have HV := Lib.hid (show mapOf N (A ++ x :: D) k = some (.pointer (some ⟨x, 0, none⟩)) by unfold mapOf; rw [hk, hb]; rfl)
    have hat2 := @ents_at N A D x
    have hp : pinsC (ents N (A ++ x :: D)) (s, z) = (N x).pins := by unfold pinsC; rw [hat]; simp only; rw [hat2]; rfl
    rw [hp]
    clear hat hat2 hp hk hb hid
    go_enter Try.func25, Try.ntmps25
    go_wp2
    generalize w.alloc (.cells #[.int .u64 s, .int .i64 z] 45) = w1 at hx1 HC1 HH1 ⊢
    have HB := Lib.hid fun w' (h : Ext w1 w') => (HC1.out.ext h).box.map
    have HM := Lib.hid fun w' (h : Ext w1 w') => (HC1.out.ext h).map
    have HK := Lib.hid fun w' (h : Ext w1 w') => range_of_heap2 (h.heap' HH1.out)
    have E1 := Ext.drew' w1
    refine wp_region_e [] (.qs [0, 1, 2, 3, 4, 5, 6, 7, 8, 9, 10] .nil) (by kernel_rfl) (by kernel_rfl) ?_
    iterate 3 ((refine wpY_q rfl rfl _ (fun w' hx' => by go_simp; try rfl) ?_; go_simp))
    refine wpY_q rfl rfl (.map (some m)) (fun w' hx' => by have hb' := HB.out w' hx'; go_simp; try rfl) ?_
    go_simp
    refine wpY_ld rfl rfl (.tmp 3) rfl w.heap.size 0 rfl [.int .u64 s, .int .i64 z] _ HK.out Try.underlying45 rfl (by kernel_rfl) ?_
    refine wpY_look rfl rfl Try.kvI (.tmp 11) (.tmp 12) rfl Try.underlying76 (z := .pointer none) (fun w' => zero_of (by kernel_rfl) w') rfl HM.out k HKV.out.symm ?_
    rw [HV.out]
    iterate 5 ((refine wpY_q rfl rfl _ (fun w' hx' => by go_simp; try rfl) ?_; go_simp))
    refine wpY_nil ?_
    clear HB HM HK
    have hd := ((HC1.out.ext E1).nodes x (by simp)).pins
    go_wp2
    go_ret
    exact ⟨rfl, hx1.trans' E1⟩

/-- What Get answers: bytes in new memory. -/
def GetO (w : World) (B c room : Nat) (F : List Nat) (r : List En × List UInt8 × Bool) (en : Ending) (w' : World) : Prop :=
  ∃ (a : Option Addr) (n cp : Nat), en = .returned (.tuple #[.slice a n cp, .bool r.2.2]) ∧ w'.ownsRow w.heap.size 5 1 (.slice a n cp) n (r.2.1.map u8) ∧ CacTo w B c room F r.1 w'
theorem Ca.small {w : World} {B c m e room : Nat} {N : Nat → Nd} {L : List Nat} (h : Ca w B c m e room N L) {x : Nat} (hx : x ∈ L) : (N x).l.length ≤ 1048576 ∧ (N x).n = (N x).l.length := by
  have h1 : ∀ (E : List En) (y : En), y ∈ E → y.l.length ≤ sizeF E := fun E => by
    induction E with
    | nil => intro y hy; cases hy
    | cons z E ih =>
      intro y hy
      simp only [sizeF]
      rcases List.mem_cons.1 hy with rfl | hy
      · omega
      · have := ih y hy; omega
  have h2 := h1 _ _ (List.mem_map_of_mem (f := fun k => enOf (N k)) hx)
  have h3 := h.ok.fits
  have h4 := h.max
  have h5 := own_len (h.data x hx)
  have h6 : (enOf (N x)).l = (N x).l := rfl
  rw [h6] at h2
  have h7 : sizeF (List.map (fun k => enOf (N k)) L) = sizeF (ents N L) := rfl
  exact ⟨by omega, by omega⟩

set_option maxRecDepth 100000 in
set_option maxHeartbeats 4000000 in
theorem Get_any (B c room : Nat) (E : List En) (F : List Nat) (s : Nat) (z : Int) (w : World) (h : Cac w B c room E F) (hs : s ≤ 18446744073709551615) (hz : -9223372036854775808 ≤ z ∧ z ≤ 9223372036854775807) :
    Calls Try.prog 20 #[.pointer (some ⟨c, 0, none⟩), .agg #[.int .u64 s, .int .i64 z]] w (GetO w B c room F (getC E (s, z))) := by
  obtain ⟨m, e, N, L, hC, rfl, rfl⟩ := h
  obtain ⟨k, hk, hkv⟩ := key_of hs hz
  have HKV := Lib.hid hkv
  have hx1 : Ext w (w.alloc (.cells #[.int .u64 s, .int .i64 z] 45)) := Ext.alloc' w _
  have HC1 := Lib.hid (hC.ext hx1)
  have HH1 := Lib.hid (heap_alloc_new w (.cells #[.int .u64 s, .int .i64 z] 45))
  clear hC hs hz hkv
  cases hat : atF (s, z) (ents N L) with
  | none =>
    have HV := Lib.hid (show mapOf N L k = none by unfold mapOf; rw [hk, blk_none hat]; rfl)
    have hp : getC (ents N L) (s, z) = (ents N L, [], false) := by unfold getC; rw [hat]
    rw [hp]
    clear hat hp hk
    go_enter Try.func20, Try.ntmps20
    go_wp2
    generalize w.alloc (.cells #[.int .u64 s, .int .i64 z] 45) = w1 at hx1 HC1 HH1 ⊢
    have HB := Lib.hid fun w' (h : Ext w1 w') => (HC1.out.ext h).box.map
    have HM := Lib.hid fun w' (h : Ext w1 w') => (HC1.out.ext h).map
    have HK := Lib.hid fun w' (h : Ext w1 w') => range_of_heap2 (h.heap' HH1.out)
    have E1 := Ext.drew' w1
    refine wp_region_e [] (.qs [0, 1, 2, 3, 4, 5, 6, 7, 8, 9, 10] .nil) (by kernel_rfl) (by kernel_rfl) ?_
    iterate 3 ((refine wpY_q rfl rfl _ (fun w' hx' => by go_simp; try rfl) ?_; go_simp))
    refine wpY_q rfl rfl (.map (some m)) (fun w' hx' => by have hb' := HB.out w' hx'; go_simp; try rfl) ?_
    go_simp
    refine wpY_ld rfl rfl (.tmp 3) rfl w.heap.size 0 rfl [.int .u64 s, .int .i64 z] _ HK.out Try.underlying45 rfl (by kernel_rfl) ?_
    refine wpY_look rfl rfl Try.kvI (.tmp 12) (.tmp 13) rfl Try.underlying76 (z := .pointer none) (fun w' => zero_of (by kernel_rfl) w') rfl HM.out k HKV.out.symm ?_
    rw [HV.out]
    iterate 5 ((refine wpY_q rfl rfl _ (fun w' hx' => by go_simp; try rfl) ?_; go_simp))
    refine wpY_nil ?_
    clear HB HM HK
    go_wp2
    go_ret2
    exact ⟨none, 0, 0, rfl, own_nil _ _ _ _, _, ⟨m, e, N, L, HC1.out.ext E1, rfl, rfl⟩, Chg.of_ext (hx1.trans' E1), fun k hk => .inl hk⟩
  | some i =>
    obtain ⟨A, x, D, rfl, rfl, hb, hid⟩ := blk_at hat
    have HV := Lib.hid (show mapOf N (A ++ x :: D) k = some (.pointer (some ⟨x, 0, none⟩)) by unfold mapOf; rw [hk, hb]; rfl)
    have hat2 := @ents_at N A D x
    have hp : getC (ents N (A ++ x :: D)) (s, z) = (ents N (A ++ D ++ [x]), (N x).l, true) := by unfold getC; rw [hat]; simp only; rw [hat2, ents_use]; rfl
    rw [hp]
    clear hat hat2 hp hk hb hid
    go_enter Try.func20, Try.ntmps20
    go_wp2
    generalize w.alloc (.cells #[.int .u64 s, .int .i64 z] 45) = w1 at hx1 HC1 HH1 ⊢
    have HB := Lib.hid fun w' (h : Ext w1 w') => (HC1.out.ext h).box.map
    have HM := Lib.hid fun w' (h : Ext w1 w') => (HC1.out.ext h).map
    have HK := Lib.hid fun w' (h : Ext w1 w') => range_of_heap2 (h.heap' HH1.out)
    have E1 := Ext.drew' w1
    refine wp_region_e [] (.qs [0, 1, 2, 3, 4, 5, 6, 7, 8, 9, 10] .nil) (by kernel_rfl) (by kernel_rfl) ?_
    iterate 3 ((refine wpY_q rfl rfl _ (fun w' hx' => by go_simp; try rfl) ?_; go_simp))
    refine wpY_q rfl rfl (.map (some m)) (fun w' hx' => by have hb' := HB.out w' hx'; go_simp; try rfl) ?_
    go_simp
    refine wpY_ld rfl rfl (.tmp 3) rfl w.heap.size 0 rfl [.int .u64 s, .int .i64 z] _ HK.out Try.underlying45 rfl (by kernel_rfl) ?_
    refine wpY_look rfl rfl Try.kvI (.tmp 12) (.tmp 13) rfl Try.underlying76 (z := .pointer none) (fun w' => zero_of (by kernel_rfl) w') rfl HM.out k HKV.out.symm ?_
    rw [HV.out]
    iterate 5 ((refine wpY_q rfl rfl _ (fun w' hx' => by go_simp; try rfl) ?_; go_simp))
    refine wpY_nil ?_
    clear HB HM HK
    have HC2 := Lib.hid (HC1.out.ext E1)
    have HX2 := Lib.hid (hx1.trans' E1)
    have hsm : (N x).n ≤ 1048576 := by have h := HC2.out.small (x := x) (by simp); omega
    clear HC1 HH1 E1 hx1
    go_wp2_with (first
      | (go_at_call 39; (with_reducible refine (use_any B c m e room x N A D _ HC2.out).mono ?_); rintro en w3 ⟨rfl, N', hS, hC3, hc3⟩; refine Stop.of ?_)
      | fail)
    obtain ⟨-, -, q1, q2, q3, q4, -⟩ := hS x
    have hd := (hC3.nodes x (by simp)).bytes
    rw [q1, q2, q3] at hd
    have ho := hC3.data x (by simp)
    rw [q1, q2, q3, q4] at ho
    have HCL := Lib.hid (Clone_any (N x).a (N x).n (N x).c (N x).l w3 (Bytes.of_own ho) (by omega))
    have HC3 := Lib.hid hC3
    have HS := Lib.hid hS
    have HCH := Lib.hid hc3
    clear q1 q2 q3 q4 ho hC3 hS hc3
    refine Stop.out ?_
    go_wp2_with (first
      | (go_at_call 40; (with_reducible refine HCL.out.mono ?_); rintro en w4 ⟨a4, n4, c4, rfl, ho4, hx4⟩)
      | fail)
    go_ret2
    have hs := HX2.out.size
    have hs2 := HCH.out.size
    refine ⟨a4, n4, c4, rfl, own_base ho4 (Nat.le_trans hs hs2), _, ⟨m, e, N', _, HC3.out.ext hx4, ?_, rfl⟩, ?_, fun k hk => .inl ?_⟩
    · rw [HS.out.ents]
    · exact (((Chg.of_ext HX2.out).trans' (HCH.out.mono fun k hk => by rw [List.mem_cons, List.mem_cons]; exact .inr (.inr hk))).trans' (Chg.of_ext hx4))
    · simp only [List.mem_cons, List.mem_append, List.not_mem_nil, or_false] at hk ⊢
      rcases hk with h | h | h | (h | h) | h <;> simp [h]

theorem Bytes38_any (B c room : Nat) (E : List En) (F : List Nat) (w : World) (h : Cac w B c room E F) :
    Calls Try.prog 15 #[.pointer (some ⟨c, 0, none⟩)] w (NewNone (.int .i64 (sizeF E : Nat)) w) := by
  obtain ⟨m, e, N, L, hC, rfl, rfl⟩ := h
  have hb := hC.box.total
  clear hC
  go_enter Try.func15, Try.ntmps15
  go_wp2
  go_ret
  exact ⟨rfl, Below.refl _ _⟩
end Go.Proofs.Ytpiodpljiklfkaa
