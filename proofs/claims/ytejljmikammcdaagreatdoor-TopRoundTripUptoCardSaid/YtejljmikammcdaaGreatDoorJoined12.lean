/-
  Several texts in one: StA, StB, StC, StD, StE.
-/
import Derived.Test.YtejljmikammcdaaGreatDoorJoined11
import Derived.Carry
import Derived.StringKeys
/-
  Layer stream, at the two streams of awake08: what lies in memory; newForest.
-/
namespace Go.Proofs.YtejljmikammcdaaGreatDoor
open Go.RowKit Go.WideMaps

/-- The two names as keys. -/
def kvN (b : Bool) : Value := .string (if b then ⟨#[100, 101, 118]⟩ else ⟨#[109, 97, 105, 110]⟩)
theorem Tryz.kvN : KV Tryz.prog 9 kvN where
  law := string_law Tryz.underlying9
  lit b := ⟨_, keyOf_string_mk Tryz.underlying9 (by cases b <;> decide)⟩
  inj a b h := by
    cases a <;> cases b <;> first
      | rfl
      | exact absurd h (by simp [Proofs.YtejljmikammcdaaGreatDoor.kvN])
/-- The names of the streams and of their parents. -/
def Ls : List (ByteArray × ByteArray) := [(⟨#[109, 97, 105, 110]⟩, ⟨#[]⟩), (⟨#[100, 101, 118]⟩, ⟨#[109, 97, 105, 110]⟩)]
def smC (b : Option Addr) (cb : Nat) (x : ByteArray × ByteArray) : List Value := [.string x.1, .string x.2, .slice b 1 cb]
theorem sm_three (b : Option Addr) (cb : Nat) (x : ByteArray × ByteArray) : (smC b cb x).length = 3 := rfl
theorem Tryz.elSm : Elem Tryz.prog 45 44 3 56 (.agg #[.string ByteArray.empty, .string ByteArray.empty, .slice none 0 0]) := ⟨Tryz.underlying45, by kernel_rfl, rfl, by decide⟩
def vwP : Pat := ⟨[[118, 105, 101, 119]], true⟩
def maP : Pat := ⟨[[109, 97, 105, 110]], true⟩
def deP : Pat := ⟨[[100, 101, 118]], true⟩
def spC (p : Option Addr) (cp : Nat) : List Value := [.int .i64 1, .slice p 1 cp, .bool true, .slice none 0 0, .bool false]
/-- The list of streams. -/
structure Da (w : World) (a : Option Addr) (c : Nat) (b : Option Addr) (cb : Nat) (p : Option Addr) (cp : Nat) : Prop where
  row : Row w a 2 c 3 (Ls.flatMap (smC b cb))
  path : Row w b 1 cb 5 (spC p cp)
  pt : PtI w 100 ⟨p, 1, cp, vwP⟩
theorem Da.ext {w w' : World} {a : Option Addr} {c : Nat} {b : Option Addr} {cb : Nat} {p : Option Addr} {cp : Nat} (h : Da w a c b cb p cp) (hx : Ext w w') : Da w' a c b cb p cp := ⟨h.row.ext hx, h.path.ext hx, h.pt.ext hx⟩
/-- The map of the first j names. -/
def fJ (j : Nat) (b : Bool) : Option Value := if b then (if 1 < j then some (.int .i64 1) else none) else (if 0 < j then some (.int .i64 0) else none)
/-- The forest. -/
structure Fo (w : World) (g m : Nat) (a : Option Addr) (c : Nat) : Prop where
  box : w.heap[g]? = some (.cells #[.slice a 2 c, .map (some m)] 90)
  map : MapF kvN w m (fJ 2)
theorem Fo.ext {w w' : World} {g m : Nat} {a : Option Addr} {c : Nat} (h : Fo w g m a c) (hx : Ext w w') : Fo w' g m a c := ⟨hx.heap' h.box, h.map.ext hx⟩
theorem zeroV {P : Program} {t : TypeId} {z : Value} (h : (P.info? t).map (·.zero) = some (some z)) (w : World) : (zeroValue t).run P w = .ok z w := by
  cases hi : P.info? t with
  | none => rw [hi] at h; simp at h
  | some i =>
    rw [hi] at h
    simp only [Option.map_some, Option.some.injEq] at h
    simp [zeroValue, typeInfo, hi, h]
theorem wpZ_look {P : Program} {ops : Array Oper} {R : World → Prop} {fr : List Nat} {Q : Act → World → Prop} {j : Nat} {l : XP} {a : Act} {w : World} {o : Oper} (ho : ops[j]? = some o) (hw : Region.wanted o (yielded ops a.tmps) = true)
    {κ : Type} {kt : TypeId} {kv : κ → Value} (H : KV P kt kv) (mO xO : Operand) {t et : TypeId} {ok : Bool} (hop : o.op = .lookup t mO xO ok) (ht : P.underlying t = some (.map kt et)) {z : Value} (hz : ∀ w', (zeroValue et).run P w' = .ok z w')
    {b : Nat} {f : κ → Option Value} (hm : a.eval mO = .map (some b)) (hf : ∀ w', R w' → MapF kv w' b f) (k : κ) (hx : a.eval xO = kv k)
    (h : wpZ P ops R fr Q l (a.put o.dst (if ok then .tuple #[(f k).getD z, .bool (f k).isSome] else (f k).getD z)) w) : wpZ P ops R fr Q (.q j l) a w :=
  wpZ_q ho hw _ (fun w' hx' => by
    simp only [execOp, hop, hm, hx, (hf w' hx').run_look H ht (hz w') k ok, Sem.run_bind, Sem.run_pure, Result.andThen_ok]) h
def NfO (w : World) (a : Option Addr) (c : Nat) (en : Ending) (w' : World) : Prop := ∃ g m, en = .returned (.pointer (some ⟨g, 0, none⟩)) ∧ Fo w' g m a c ∧ Ext w w'
def NfRel (w : World) (g m : Nat) (a : Option Addr) (c : Nat) (v14 : Value) (wr : World) : Prop := ∃ j : Nat, v14 = .int .i64 j ∧ j ≤ 2 ∧ wr.heap[g]? = some (.cells #[.slice a 2 c, .map (some m)] 90) ∧ MapF kvN wr m (fJ j) ∧ Ext w wr
theorem fJ_new {j : Nat} (hj : j < 2) : fJ j (decide (j = 1)) = none := by
  match j, hj with
  | 0, _ => rfl
  | 1, _ => rfl
theorem fJ_step {j : Nat} (hj : j < 2) (y : Bool) : fJ (j + 1) y = (if y = decide (j = 1) then some (.int .i64 j) else fJ j y) := by
  match j, hj with
  | 0, _ => cases y <;> simp [fJ]
  | 1, _ => cases y <;> simp [fJ]
theorem Ls_at {j : Nat} (hj : j < 2) : ∃ x, Ls[j]? = some x ∧ Value.string x.1 = kvN (decide (j = 1)) := by
  match j, hj with
  | 0, _ => exact ⟨_, rfl, rfl⟩
  | 1, _ => exact ⟨_, rfl, rfl⟩
set_option maxRecDepth 100000 in
set_option maxHeartbeats 4000000 in
theorem newForest_any (a : Option Addr) (c : Nat) (b : Option Addr) (cb : Nat) (p : Option Addr) (cp : Nat) (w : World) (h : Da w a c b cb p cp) : Calls Tryz.prog 71 #[.slice a 2 c] w (NfO w a c) := by
  have HROW := Lib.hid fun w' (hx : Ext w w') => h.row.ext hx
  have hmm := @run_makeMap Tryz.prog
  obtain ⟨post, hpo⟩ : ∃ q : Ending → World → Prop, q = NfO w a c := ⟨_, rfl⟩
  rw [← hpo]
  have HPO := Lib.hid hpo
  clear hpo h
  go_enter Tryz.func71, Tryz.ntmps71
  go_upto_region 2 with fail
  have hmp : MapF kvN (w.alloc (.map #[] 0)) w.heap.size (fJ 0) := (MapF.new w).congr fun y => by cases y <;> rfl
  have hx1 := Ext.alloc' w (.map #[] 0)
  have hs1 : (w.alloc (.map #[] 0)).heap.size = w.heap.size + 1 := World.size_alloc _ _
  obtain ⟨m, hb⟩ : ∃ m, m = w.heap.size := ⟨_, rfl⟩
  rw [← hb] at hmp hs1 ⊢
  generalize w.alloc (.map #[] 0) = w1 at hmp hx1 hs1 ⊢
  try rw [← hs1]
  have hx2 := Ext.alloc' w1 (.cells #[.slice a 2 c, .map (some m)] 90)
  have hb2 := heap_alloc_new w1 (.cells #[.slice a 2 c, .map (some m)] 90)
  generalize w1.alloc (.cells #[.slice a 2 c, .map (some m)] 90) = w2 at hx2 hb2 ⊢
  have HX2 := Lib.hid (hx1.trans' hx2)
  have HMB := Lib.hid (show w.heap.size ≤ m by omega)
  have HM2 := Lib.hid (hmp.ext hx2)
  have HGM := Lib.hid (show w1.heap.size ≠ m by omega)
  have HB2 := Lib.hid hb2
  generalize w1.heap.size = g at HB2 HGM ⊢
  clear hb hmp hx1 hx2 hs1 hb2 hmm
  go_wp2
  go_loopw [14] (NfRel w g m a c) (fun i _ => 2 - (intOf i).toNat)
  case atStart => exact ⟨0, rfl, by decide, HB2.out, HM2.out, HX2.out⟩
  case round =>
    obtain ⟨j, rfl, hj, hbx, hmp, hx⟩ := hrel
    rename World => wd
    have HXD := Lib.hid (show Ext w wd from hx)
    have HBD := Lib.hid hbx
    have HMD := Lib.hid hmp
    clear hx hbx hmp
    by_cases hj2 : j < 2
    · obtain ⟨x, hx, hk⟩ := Ls_at hj2
      have HKV := Lib.hid hk
      have HLX := Lib.hid hx
      have HFN := Lib.hid (fJ_new hj2)
      have hrow := HROW.out wd HXD.out
      have HPN := Lib.hid (put_new wd #[.string ⟨#[]⟩, .string ⟨#[]⟩, .slice none 0 0] #[.string x.1, .string x.2, .slice b 1 cb] 44)
      have HNN := heap_alloc_new wd (.cells #[.string ⟨#[]⟩, .string ⟨#[]⟩, .slice none 0 0] 44)
      clear hx hk
      go_upto_region 5 with (first
        | ((with_reducible refine atSlot 17 ?_); refine wpList_of_wp rfl (owp_ix (o := ⟨some 17, _, _, _, _, _⟩) _ _ rfl Tryz.elSm rfl hrow j rfl rfl hj2 ?_); intro b1 o1 hc2; have hd := flat_range (sm_three b cb) HLX.out hc2; clear hc2 hrow)
        | ((with_reducible refine atSlot 18 ?_); refine wpList_of_wp rfl (wp_load_mid (op := ⟨some 18, _, _, _, _, _⟩) 44 _ rfl b1 o1 rfl [.string x.1, .string x.2, .slice b 1 cb] _ hd Tryz.underlying44 rfl (by kernel_rfl) ?_); clear hd)
        | ((with_reducible refine atStore 5 ?_); refine wpList_of_wp rfl (wp_store_row (o := ⟨none, _, _, _, _, _⟩) _ _ _ rfl wd.heap.size #[.string x.1, .string x.2, .slice b 1 cb] rfl rfl _ _ HNN (by kernel_rfl) rfl (by simp [Value.oneCell']) ?_); clear HNN)
        | fail)
      generalize (wd.alloc (.cells #[.string ⟨#[]⟩, .string ⟨#[]⟩, .slice none 0 0] 44)).setRow wd.heap.size #[.string x.1, .string x.2, .slice b 1 cb] = we at HPN ⊢
      obtain ⟨hxe, hbe⟩ := HPN.out
      have HXE := Lib.hid (HXD.out.trans' hxe)
      have HBE := Lib.hid (hxe.heap' HBD.out)
      have HME := Lib.hid (HMD.out.ext hxe)
      have HB5 := Lib.hid hbe
      generalize wd.heap.size = g5 at HB5 ⊢
      clear hxe hbe HPN
      have E5 := Ext.drew' we
      refine wp_region_z (fun w' => w'.heap[g]? = some (.cells #[.slice a 2 c, .map (some m)] 90) ∧ w'.heap[g5]? = some (.cells #[.string x.1, .string x.2, .slice b 1 cb] 44) ∧ MapF kvN w' m (fJ j)) ⟨E5.heap' HBE.out, E5.heap' HB5.out, HME.out.ext E5⟩ [] (.qs [0, 1, 2, 3, 4, 5, 6, 7, 8, 9, 10, 11] .nil) (by kernel_rfl) (by kernel_rfl) ?_
      ((refine wpZ_q rfl rfl _ (fun w' hx' => by go_simp; try rfl) ?_; go_simp))
      ((refine wpZ_q rfl rfl _ (fun w' hx' => by go_simp; try rfl) ?_; go_simp))
      ((refine wpZ_q rfl rfl _ (fun w' hx' => by go_simp; try rfl) ?_; go_simp))
      refine wpZ_q rfl rfl (.map (some m)) (fun w' hx' => by have d1 := (box2 hx'.1).2.1; go_simp; try rfl) ?_
      go_simp
      ((refine wpZ_q rfl rfl _ (fun w' hx' => by go_simp; try rfl) ?_; go_simp))
      refine wpZ_q rfl rfl (.string x.1) (fun w' hx' => by obtain ⟨d0, d2, d3⟩ := box3 hx'.2.1; have d00 := d3 0 _ rfl; go_simp; try rfl) ?_
      go_simp
      refine wpZ_look (z := .int .i64 0) rfl rfl Tryz.kvN _ _ rfl Tryz.underlying88 (zeroV (by kernel_rfl)) rfl (fun w' hx' => hx'.2.2) (decide (j = 1)) HKV.out ?_
      rw [HFN.out]
      go_simp
      iterate 5 ((refine wpZ_q rfl rfl _ (fun w' hx' => by go_simp; try rfl) ?_; go_simp))
      refine wpZ_nil ?_
      have HXF := Lib.hid (HXE.out.trans' E5)
      have HBF := Lib.hid (E5.heap' HBE.out)
      have HB5F := Lib.hid (E5.heap' HB5.out)
      have HMF := Lib.hid (HME.out.ext E5)
      clear E5
      generalize we.drew = wf at HXF HBF HB5F HMF ⊢
      go_upto_region 7 with fail
      have E6 := Ext.drew' wf
      refine wp_region_z (fun w' => w'.heap[g]? = some (.cells #[.slice a 2 c, .map (some m)] 90) ∧ w'.heap[g5]? = some (.cells #[.string x.1, .string x.2, .slice b 1 cb] 44)) ⟨E6.heap' HBF.out, E6.heap' HB5F.out⟩ [7] (.qs [0, 1, 2, 3, 4, 5, 6] (.l 7 .nil)) (by kernel_rfl) (by kernel_rfl) ?_
      ((refine wpZ_q rfl rfl _ (fun w' hx' => by go_simp; try rfl) ?_; go_simp))
      ((refine wpZ_q rfl rfl _ (fun w' hx' => by go_simp; try rfl) ?_; go_simp))
      ((refine wpZ_q rfl rfl _ (fun w' hx' => by go_simp; try rfl) ?_; go_simp))
      refine wpZ_q rfl rfl (.map (some m)) (fun w' hx' => by have d1 := (box2 hx'.1).2.1; go_simp; try rfl) ?_
      go_simp
      ((refine wpZ_q rfl rfl _ (fun w' hx' => by go_simp; try rfl) ?_; go_simp))
      refine wpZ_q rfl rfl (.string x.1) (fun w' hx' => by obtain ⟨d0, d2, d3⟩ := box3 hx'.2; have d00 := d3 0 _ rfl; go_simp; try rfl) ?_
      go_simp
      ((refine wpZ_q rfl rfl _ (fun w' hx' => by go_simp; try rfl) ?_; go_simp))
      refine wpZ_l rfl rfl (owp_put Tryz.kvN _ _ _ rfl Tryz.underlying88 rfl (HMF.out.ext E6) (decide (j = 1)) HKV.out rfl ?_)
      intro wg hm9 hg9
      have HMG := Lib.hid (show MapF kvN wg m (fJ (j + 1)) from hm9.congr fun y => by
        rw [fJ_step hj2 y]
        by_cases hy : y = decide (j = 1)
        · rw [if_pos hy, if_pos hy]; rfl
        · rw [if_neg hy, if_neg hy])
      have HXG := Lib.hid (Ext.rd (HXF.out.trans' E6) hg9 HMB.out)
      have HBG := Lib.hid (heap_keep (E6.heap' HBF.out) hg9 HGM.out)
      refine ⟨fun h => absurd h (by decide), wpZ_nil ?_⟩
      clear hm9 hg9 E6
      go_wp2
      exact ⟨⟨j + 1, by go_num, hj2, HBG.out, HMG.out, HXG.out⟩, by simp [intOf]; omega⟩
    · have hjL : j = 2 := by omega
      subst hjL
      go_wp2
      rw [HPO.out]
      exact ⟨g, m, rfl, ⟨HBD.out, HMD.out⟩, HXD.out⟩
end Go.Proofs.YtejljmikammcdaaGreatDoor
/-
  Layer stream, at the two streams of awake08: parent, above and the steps of Check but the first.
-/
namespace Go.Proofs.YtejljmikammcdaaGreatDoor
open Go.RowKit Go.WideMaps

/-- An answer, and nothing old has changed. -/
def RetE (v : Value) (w : World) (en : Ending) (w' : World) : Prop := en = .returned v ∧ Ext w w'
set_option maxRecDepth 100000 in
set_option maxHeartbeats 4000000 in
theorem parent0 (g m : Nat) (a : Option Addr) (c : Nat) (b : Option Addr) (cb : Nat) (p : Option Addr) (cp : Nat) (w : World) (h : Da w a c b cb p cp) (hf : Fo w g m a c) :
    Calls Tryz.prog 96 #[.pointer (some ⟨g, 0, none⟩), .int .i64 0] w (RetE (.tuple #[.int .i64 0, .bool false]) w) := by
  obtain ⟨post, hpo⟩ : ∃ q : Ending → World → Prop, q = RetE (.tuple #[.int .i64 0, .bool false]) w := ⟨_, rfl⟩
  rw [← hpo]
  have HPO := Lib.hid hpo
  clear hpo
  have hrow := h.row
  obtain ⟨d0, d1, -⟩ := box2 hf.box
  clear hf h
  go_enter Tryz.func96, Tryz.ntmps96
  go_wp2_with (first
    | ((with_reducible refine atSlot 13 ?_); refine wpList_of_wp rfl (owp_ix (o := ⟨some 13, _, _, _, _, _⟩) _ _ rfl Tryz.elSm rfl hrow 0 rfl rfl (by decide) ?_); intro b1 o1 hc2; have e1 : w.cell? ⟨b1, o1 + 1, none⟩ = some (.string ⟨#[]⟩) := hc2 1 (by decide); clear hc2 hrow)
    | fail)
  rw [HPO.out]
  exact ⟨rfl, Below.refl _ _⟩
set_option maxRecDepth 100000 in
set_option maxHeartbeats 4000000 in
theorem parent1 (g m : Nat) (a : Option Addr) (c : Nat) (b : Option Addr) (cb : Nat) (p : Option Addr) (cp : Nat) (w : World) (h : Da w a c b cb p cp) (hf : Fo w g m a c) :
    Calls Tryz.prog 96 #[.pointer (some ⟨g, 0, none⟩), .int .i64 1] w (RetE (.tuple #[.int .i64 0, .bool true]) w) := by
  obtain ⟨post, hpo⟩ : ∃ q : Ending → World → Prop, q = RetE (.tuple #[.int .i64 0, .bool true]) w := ⟨_, rfl⟩
  rw [← hpo]
  have HPO := Lib.hid hpo
  clear hpo
  have hrow := h.row
  have HR := Lib.hid h.row
  have HF := Lib.hid hf
  obtain ⟨d0, d1, -⟩ := box2 hf.box
  clear hf h
  go_enter Tryz.func96, Tryz.ntmps96
  go_upto_region 3 with (first
    | ((with_reducible refine atSlot 13 ?_); refine wpList_of_wp rfl (owp_ix (o := ⟨some 13, _, _, _, _, _⟩) _ _ rfl Tryz.elSm rfl hrow 1 rfl rfl (by decide) ?_); intro b1 o1 hc2; have e1 : w.cell? ⟨b1, o1 + 1, none⟩ = some (.string ⟨#[109, 97, 105, 110]⟩) := hc2 1 (by decide); clear hc2 hrow)
    | fail)
  clear d0 d1
  have E5 := Ext.drew' w
  refine wp_region_z (fun w' => w'.heap[g]? = some (.cells #[.slice a 2 c, .map (some m)] 90) ∧ MapF kvN w' m (fJ 2) ∧ Row w' a 2 c 3 (Ls.flatMap (smC b cb))) ⟨E5.heap' HF.out.box, HF.out.map.ext E5, HR.out.ext E5⟩ [] (.qs [0, 1, 2, 3, 4, 5, 6, 7, 8, 9, 10, 11, 12, 13, 14, 15, 16, 17] .nil) (by kernel_rfl) (by kernel_rfl) ?_
  iterate 3 ((refine wpZ_q rfl rfl _ (fun w' hx' => by go_simp; try rfl) ?_; go_simp))
  refine wpZ_q rfl rfl (.map (some m)) (fun w' hx' => by have d1 := (box2 hx'.1).2.1; go_simp; try rfl) ?_
  go_simp
  iterate 3 ((refine wpZ_q rfl rfl _ (fun w' hx' => by go_simp; try rfl) ?_; go_simp))
  refine wpZ_q rfl rfl (.slice a 2 c) (fun w' hx' => by have d1 := (box2 hx'.1).1; go_simp; try rfl) ?_
  go_simp
  ((refine wpZ_q rfl rfl _ (fun w' hx' => by go_simp; try rfl) ?_; go_simp))
  refine wpZ_ix rfl rfl (.tmp 25) (.tmp 26) rfl Tryz.elSm rfl (fun w' hx' => hx'.2.2) (u := w.drew) ⟨E5.heap' HF.out.box, HF.out.map.ext E5, HR.out.ext E5⟩ 1 rfl rfl (by decide) ?_
  intro b2 o2 hc
  have HC := Lib.hid hc
  clear hc
  go_simp
  ((refine wpZ_q rfl rfl _ (fun w' hx' => by go_simp; try rfl) ?_; go_simp))
  refine wpZ_q rfl rfl (.string ⟨#[109, 97, 105, 110]⟩) (fun w' hx' => by have d1 : w'.cell? ⟨b2, o2 + 1, none⟩ = some (.string ⟨#[109, 97, 105, 110]⟩) := HC.out 1 (by decide) w' hx'; go_simp; try rfl) ?_
  go_simp
  refine wpZ_look (z := .int .i64 0) rfl rfl Tryz.kvN _ _ rfl Tryz.underlying88 (zeroV (by kernel_rfl)) rfl (fun w' hx' => hx'.2.1) false rfl ?_
  rw [show fJ 2 false = some (.int .i64 0) from rfl]
  go_simp
  iterate 5 ((refine wpZ_q rfl rfl _ (fun w' hx' => by go_simp; try rfl) ?_; go_simp))
  refine wpZ_nil ?_
  go_wp2
  rw [HPO.out]
  exact ⟨rfl, E5⟩
theorem Tryz.elInt : Elem Tryz.prog 217 3 1 8 (.int .i64 0) := ⟨Tryz.underlying217, by kernel_rfl, rfl, by decide⟩
def bitV : Value → Nat
  | .bool true => 1
  | _ => 0
/-- above: the row of the one ancestor, or none. -/
def AbO (L : List Value) (w : World) (en : Ending) (w' : World) : Prop := ∃ (x : Option Addr) (cx : Nat), en = .returned (.slice x L.length cx) ∧ w'.ownsRow w.heap.size 3 1 (.slice x L.length cx) L.length L ∧ Ext w w'
/-- Between two rounds of above, for stream i. -/
def AbRel (w : World) (i : Nat) (v5 v6 v7 : Value) (wr : World) : Prop := ∃ (k : Nat) (x : Option Addr) (cx : Nat), k ≤ i ∧ v5 = .slice x k cx ∧ v6 = .int .i64 0 ∧ v7 = .bool (decide (k < i)) ∧ wr.ownsRow w.heap.size 3 1 (.slice x k cx) k (List.replicate k (.int .i64 0)) ∧ Ext w wr
set_option maxRecDepth 100000 in
set_option maxHeartbeats 4000000 in
theorem above0 (g m : Nat) (a : Option Addr) (c : Nat) (b : Option Addr) (cb : Nat) (p : Option Addr) (cp : Nat) (w : World) (h : Da w a c b cb p cp) (hf : Fo w g m a c) :
    Calls Tryz.prog 148 #[.pointer (some ⟨g, 0, none⟩), .int .i64 0] w (AbO [] w) := by
  have HP0 := Lib.hid (parent0 g m a c b cb p cp w h hf)
  obtain ⟨post, hpo⟩ : ∃ q : Ending → World → Prop, q = AbO [] w := ⟨_, rfl⟩
  rw [← hpo]
  have HPO := Lib.hid hpo
  clear hf h hpo
  go_enter Tryz.func148, Tryz.ntmps148
  go_upto_region 2 with fail
  go_wp2_with (first
    | (go_at_call 96; (with_reducible refine HP0.out.mono ?_); rintro en w1 ⟨rfl, hx1⟩; have HX1 := Lib.hid hx1; clear hx1)
    | fail)
  go_loopw [5, 6, 7] (AbRel w 0) (fun _ _ v _ => bitV v)
  case atStart => exact ⟨0, none, 0, Nat.le_refl _, rfl, rfl, rfl, own_nil _ _ _ _, HX1.out⟩
  case round =>
    obtain ⟨k, x, cx, hk, rfl, rfl, rfl, hown, hx⟩ := hrel
    rename World => wd
    obtain rfl : k = 0 := by omega
    have HXD := Lib.hid (show Ext w wd from hx)
    have HO := Lib.hid hown
    clear hown hx
    have e0 : decide (0 < 0) = false := rfl
    rw [e0]
    go_wp2
    rw [HPO.out]
    exact ⟨x, cx, rfl, HO.out, HXD.out⟩
set_option maxRecDepth 100000 in
set_option maxHeartbeats 4000000 in
theorem above1 (g m : Nat) (a : Option Addr) (c : Nat) (b : Option Addr) (cb : Nat) (p : Option Addr) (cp : Nat) (w : World) (h : Da w a c b cb p cp) (hf : Fo w g m a c) :
    Calls Tryz.prog 148 #[.pointer (some ⟨g, 0, none⟩), .int .i64 1] w (AbO [.int .i64 0] w) := by
  have HP1 := Lib.hid (parent1 g m a c b cb p cp w h hf)
  have HP0 := Lib.hid fun w' (hx : Ext w w') => parent0 g m a c b cb p cp w' (h.ext hx) (hf.ext hx)
  have HF := Lib.hid hf
  obtain ⟨post, hpo⟩ : ∃ q : Ending → World → Prop, q = AbO [.int .i64 0] w := ⟨_, rfl⟩
  rw [← hpo]
  have HPO := Lib.hid hpo
  clear hf h hpo
  go_enter Tryz.func148, Tryz.ntmps148
  go_upto_region 2 with fail
  go_wp2_with (first
    | (go_at_call 96; (with_reducible refine HP1.out.mono ?_); rintro en w1 ⟨rfl, hx1⟩; have HX1 := Lib.hid hx1; clear hx1)
    | fail)
  go_loopw [5, 6, 7] (AbRel w 1) (fun _ _ v _ => bitV v)
  case atStart => exact ⟨0, none, 0, Nat.zero_le _, rfl, rfl, rfl, own_nil _ _ _ _, HX1.out⟩
  case round =>
    obtain ⟨k, x, cx, hk, rfl, rfl, rfl, hown, hx⟩ := hrel
    rename World => wd
    have HXD := Lib.hid (show Ext w wd from hx)
    have HO := Lib.hid hown
    obtain ⟨d0, d1, -⟩ := box2 (hx.heap' HF.out.box)
    clear hown hx
    by_cases hk0 : k = 0
    · subst hk0
      have e0 : decide (0 < 1) = true := rfl
      rw [e0]
      have HAL := Lib.hid (Ext.alloc' wd (.cells #[.int .i64 0] 3))
      have HOB := Lib.hid (own_ext HO.out HAL.out)
      have HXA := Lib.hid (HXD.out.trans' HAL.out)
      have HP0' := Lib.hid HP0.out
      go_wp2_with (first
        | ((with_reducible refine atSlot 34 ?_); refine wpList_of_wp rfl (owp_app (o := ⟨some 34, _, _, _, _, _⟩) _ _ rfl Tryz.elInt rfl HOB.out rfl (Row.new wd #[.int .i64 0] 3 1 1 rfl (by decide)) (by simp [Value.oneCell']) (by omega) (by unfold maxLen; omega) HXA.out.size ?_); intro a6 c6 w6 ho6 hg6; have HO6 := Lib.hid ho6; have HX6 := Lib.hid (show Ext w w6 from below_app HXA.out HOB.out hg6 HXA.out.size); clear ho6 hg6)
        | (go_at_call 96; (with_reducible refine (HP0.out _ HX6.out).mono ?_); rintro en w7 ⟨rfl, hx7⟩; have HX7 := Lib.hid (HX6.out.trans' hx7); have HO7 := Lib.hid (own_ext HO6.out hx7); clear hx7)
        | fail)
      exact ⟨⟨1, a6, c6, Nat.le_refl _, rfl, rfl, rfl, HO7.out, HX7.out⟩, by simp [bitV]⟩
    · obtain rfl : k = 1 := by omega
      have e0 : decide (1 < 1) = false := rfl
      rw [e0]
      go_wp2
      rw [HPO.out]
      exact ⟨x, cx, rfl, HO.out, HXD.out⟩
/-- An index between two rounds of a loop over k things. -/
def IxRel (w : World) (k : Nat) (v : Value) (wr : World) : Prop := ∃ j : Nat, v = .int .i64 j ∧ j ≤ k ∧ Ext w wr
/-- The same, with an empty slice. -/
def IzRel (w : World) (k : Nat) (u v : Value) (wr : World) : Prop := ∃ j : Nat, u = .slice none 0 0 ∧ v = .int .i64 j ∧ j ≤ k ∧ Ext w wr
set_option maxRecDepth 100000 in
set_option maxHeartbeats 4000000 in
theorem parentMissing0 (g m : Nat) (a : Option Addr) (c : Nat) (b : Option Addr) (cb : Nat) (p : Option Addr) (cp : Nat) (w : World) (h : Da w a c b cb p cp) (hf : Fo w g m a c) :
    Calls Tryz.prog 126 #[.pointer (some ⟨g, 0, none⟩), .int .i64 0] w (RetE (.int .i64 0) w) := by
  have HP0 := Lib.hid (parent0 g m a c b cb p cp w h hf)
  have HF := Lib.hid hf
  have HD := Lib.hid h
  obtain ⟨post, hpo⟩ : ∃ q : Ending → World → Prop, q = RetE (.int .i64 0) w := ⟨_, rfl⟩
  rw [← hpo]
  have HPO := Lib.hid hpo
  clear hf h hpo
  go_enter Tryz.func126, Tryz.ntmps126
  go_wp2_with (first
    | (go_at_call 96; (with_reducible refine HP0.out.mono ?_); rintro en w1 ⟨rfl, hx1⟩; have HX1 := Lib.hid hx1; have hrow := (HD.out.ext hx1).row; obtain ⟨d0, d1, -⟩ := box2 (HF.out.ext hx1).box; clear hx1)
    | ((with_reducible refine atSlot 21 ?_); refine wpList_of_wp rfl (owp_ix (o := ⟨some 21, _, _, _, _, _⟩) _ _ rfl Tryz.elSm rfl hrow 0 rfl rfl (by decide) ?_); intro b1 o1 hc2; have e1 : w1.cell? ⟨b1, o1 + 1, none⟩ = some (.string ⟨#[]⟩) := hc2 1 (by decide); clear hc2)
    | fail)
  rw [HPO.out]
  exact ⟨rfl, HX1.out⟩
set_option maxRecDepth 100000 in
set_option maxHeartbeats 4000000 in
theorem cycle0 (g m : Nat) (a : Option Addr) (c : Nat) (b : Option Addr) (cb : Nat) (p : Option Addr) (cp : Nat) (w : World) (h : Da w a c b cb p cp) (hf : Fo w g m a c) :
    Calls Tryz.prog 127 #[.pointer (some ⟨g, 0, none⟩), .int .i64 0] w (RetE (.int .i64 0) w) := by
  have HP0 := Lib.hid (above0 g m a c b cb p cp w h hf)
  obtain ⟨post, hpo⟩ : ∃ q : Ending → World → Prop, q = RetE (.int .i64 0) w := ⟨_, rfl⟩
  rw [← hpo]
  have HPO := Lib.hid hpo
  clear hf h hpo
  go_enter Tryz.func127, Tryz.ntmps127
  go_wp2_with (first
    | (go_at_call 148; (with_reducible refine HP0.out.mono ?_); rintro en w1 ⟨x, cx, rfl, ho1, hx1⟩; have HX1 := Lib.hid hx1; have HO1 := Lib.hid (Row.of_own ho1); clear hx1 ho1)
    | fail)
  go_loopw [11] (IxRel w1 0) (fun v _ => 0 - (intOf v).toNat)
  case atStart => exact ⟨0, rfl, Nat.zero_le _, Below.refl _ _⟩
  case round =>
    obtain ⟨j, rfl, hj, hx⟩ := hrel
    rename World => wd
    have HXD := Lib.hid (show Ext w1 wd from hx)
    have hrow := HO1.out.ext hx
    clear hx
    by_cases hj1 : j < 0
    · exact absurd hj1 (Nat.not_lt_zero _)
    · obtain rfl : j = 0 := by omega
      go_wp2
      rw [HPO.out]
      exact ⟨rfl, HX1.out.trans' HXD.out⟩
set_option maxRecDepth 100000 in
set_option maxHeartbeats 4000000 in
theorem tooDeep0 (g m : Nat) (a : Option Addr) (c : Nat) (b : Option Addr) (cb : Nat) (p : Option Addr) (cp : Nat) (w : World) (h : Da w a c b cb p cp) (hf : Fo w g m a c) :
    Calls Tryz.prog 128 #[.pointer (some ⟨g, 0, none⟩), .int .i64 0] w (RetE (.int .i64 0) w) := by
  have HP0 := Lib.hid (above0 g m a c b cb p cp w h hf)
  obtain ⟨post, hpo⟩ : ∃ q : Ending → World → Prop, q = RetE (.int .i64 0) w := ⟨_, rfl⟩
  rw [← hpo]
  have HPO := Lib.hid hpo
  clear hf h hpo
  go_enter Tryz.func128, Tryz.ntmps128
  go_wp2_with (first
    | (go_at_call 148; (with_reducible refine HP0.out.mono ?_); rintro en w1 ⟨x, cx, rfl, -, hx1⟩; have HX1 := Lib.hid hx1; clear hx1)
    | fail)
  rw [HPO.out]
  exact ⟨rfl, HX1.out⟩
set_option maxRecDepth 100000 in
set_option maxHeartbeats 4000000 in
theorem parentMissing1 (g m : Nat) (a : Option Addr) (c : Nat) (b : Option Addr) (cb : Nat) (p : Option Addr) (cp : Nat) (w : World) (h : Da w a c b cb p cp) (hf : Fo w g m a c) :
    Calls Tryz.prog 126 #[.pointer (some ⟨g, 0, none⟩), .int .i64 1] w (RetE (.int .i64 0) w) := by
  have HP0 := Lib.hid (parent1 g m a c b cb p cp w h hf)
  have HF := Lib.hid hf
  have HD := Lib.hid h
  obtain ⟨post, hpo⟩ : ∃ q : Ending → World → Prop, q = RetE (.int .i64 0) w := ⟨_, rfl⟩
  rw [← hpo]
  have HPO := Lib.hid hpo
  clear hf h hpo
  go_enter Tryz.func126, Tryz.ntmps126
  go_wp2_with (first
    | (go_at_call 96; (with_reducible refine HP0.out.mono ?_); rintro en w1 ⟨rfl, hx1⟩; have HX1 := Lib.hid hx1; have hrow := (HD.out.ext hx1).row; obtain ⟨d0, d1, -⟩ := box2 (HF.out.ext hx1).box; clear hx1)
    | ((with_reducible refine atSlot 21 ?_); refine wpList_of_wp rfl (owp_ix (o := ⟨some 21, _, _, _, _, _⟩) _ _ rfl Tryz.elSm rfl hrow 1 rfl rfl (by decide) ?_); intro b1 o1 hc2; have e1 : w1.cell? ⟨b1, o1 + 1, none⟩ = some (.string ⟨#[109, 97, 105, 110]⟩) := hc2 1 (by decide); clear hc2)
    | fail)
  rw [HPO.out]
  exact ⟨rfl, HX1.out⟩
set_option maxRecDepth 100000 in
set_option maxHeartbeats 4000000 in
theorem cycle1 (g m : Nat) (a : Option Addr) (c : Nat) (b : Option Addr) (cb : Nat) (p : Option Addr) (cp : Nat) (w : World) (h : Da w a c b cb p cp) (hf : Fo w g m a c) :
    Calls Tryz.prog 127 #[.pointer (some ⟨g, 0, none⟩), .int .i64 1] w (RetE (.int .i64 0) w) := by
  have HP0 := Lib.hid (above1 g m a c b cb p cp w h hf)
  obtain ⟨post, hpo⟩ : ∃ q : Ending → World → Prop, q = RetE (.int .i64 0) w := ⟨_, rfl⟩
  rw [← hpo]
  have HPO := Lib.hid hpo
  clear hf h hpo
  go_enter Tryz.func127, Tryz.ntmps127
  go_wp2_with (first
    | (go_at_call 148; (with_reducible refine HP0.out.mono ?_); rintro en w1 ⟨x, cx, rfl, ho1, hx1⟩; have HX1 := Lib.hid hx1; have HO1 := Lib.hid (Row.of_own ho1); clear hx1 ho1)
    | fail)
  go_loopw [11] (IxRel w1 1) (fun v _ => 1 - (intOf v).toNat)
  case atStart => exact ⟨0, rfl, Nat.zero_le _, Below.refl _ _⟩
  case round =>
    obtain ⟨j, rfl, hj, hx⟩ := hrel
    rename World => wd
    have HXD := Lib.hid (show Ext w1 wd from hx)
    have hrow := HO1.out.ext hx
    clear hx
    by_cases hj1 : j < 1
    · obtain rfl : j = 0 := by omega
      go_wp2_with (first
        | ((with_reducible refine atSlot 13 ?_); refine wpList_of_wp rfl (owp_ix (o := ⟨some 13, _, _, _, _, _⟩) _ _ rfl Tryz.elInt rfl hrow 0 rfl rfl (by decide) ?_); intro b1 o1 hc2; have e1 : wd.cell? ⟨b1, o1, none⟩ = some (.int .i64 0) := hc2 0 (by decide); clear hc2)
        | fail)
      exact ⟨⟨1, by go_num, by omega, HXD.out⟩, by simp [intOf]⟩
    · obtain rfl : j = 1 := by omega
      go_wp2
      rw [HPO.out]
      exact ⟨rfl, HX1.out.trans' HXD.out⟩
set_option maxRecDepth 100000 in
set_option maxHeartbeats 4000000 in
theorem tooDeep1 (g m : Nat) (a : Option Addr) (c : Nat) (b : Option Addr) (cb : Nat) (p : Option Addr) (cp : Nat) (w : World) (h : Da w a c b cb p cp) (hf : Fo w g m a c) :
    Calls Tryz.prog 128 #[.pointer (some ⟨g, 0, none⟩), .int .i64 1] w (RetE (.int .i64 0) w) := by
  have HP0 := Lib.hid (above1 g m a c b cb p cp w h hf)
  obtain ⟨post, hpo⟩ : ∃ q : Ending → World → Prop, q = RetE (.int .i64 0) w := ⟨_, rfl⟩
  rw [← hpo]
  have HPO := Lib.hid hpo
  clear hf h hpo
  go_enter Tryz.func128, Tryz.ntmps128
  go_wp2_with (first
    | (go_at_call 148; (with_reducible refine HP0.out.mono ?_); rintro en w1 ⟨x, cx, rfl, -, hx1⟩; have HX1 := Lib.hid hx1; clear hx1)
    | fail)
  rw [HPO.out]
  exact ⟨rfl, HX1.out⟩
end Go.Proofs.YtejljmikammcdaaGreatDoor
/-
  Layer stream, at the two streams of awake08: isPathLine, itself, badImport.
-/
namespace Go.Proofs.YtejljmikammcdaaGreatDoor
open Go.RowKit Go.WideMaps

theorem vw_chk : chkP vwP = 0 := by decide
theorem vw_check (w : World) (p : Option Addr) (cp : Nat) (h : PtI w 100 ⟨p, 1, cp, vwP⟩) : Calls Tryz.prog 75 #[.agg #[.slice p 1 cp, .bool true]] w (RetE (.int .i64 0) w) := by
  have := Check_any ⟨p, 1, cp, vwP⟩ 100 w h (by decide)
  rw [vw_chk] at this
  exact this
theorem range_box1 {w : World} {g : Nat} {a b c d e : Value} {t : TypeId} {fr : Nat × Nat} (h : w.heap[g]? = some (.cells #[a, b, c, d, e] t fr)) : w.rangeAt g 1 [b, c] ∧ w.rangeAt g 3 [d, e] ∧ w.rangeAt g 0 [a, b, c, d, e] := by
  refine ⟨range_box h 1 _ ?_, range_box h 3 _ ?_, range_box h 0 _ ?_⟩
  · intro j v hj
    match j, hj with
    | 0, hj => exact hj
    | 1, hj => exact hj
  · intro j v hj
    match j, hj with
    | 0, hj => exact hj
    | 1, hj => exact hj
  · intro j v hj
    match j, hj with
    | 0, hj => exact hj
    | 1, hj => exact hj
    | 2, hj => exact hj
    | 3, hj => exact hj
    | 4, hj => exact hj
set_option maxRecDepth 100000 in
set_option maxHeartbeats 4000000 in
theorem isPathLine_any (a : Option Addr) (c : Nat) (b : Option Addr) (cb : Nat) (p : Option Addr) (cp : Nat) (w : World) (h : Da w a c b cb p cp) :
    Calls Tryz.prog 147 #[.agg #[.int .i64 1, .slice p 1 cp, .bool true, .slice none 0 0, .bool false]] w (RetE (.bool true) w) := by
  have HCK := Lib.hid fun w' (hx : Ext w w') => vw_check w' p cp (h.pt.ext hx)
  have HP := Lib.hid h.pt
  have HX := Lib.hid (Ext.alloc' w (.cells #[.int .i64 1, .slice p 1 cp, .bool true, .slice none 0 0, .bool false] 41))
  have hh := heap_alloc_new w (.cells #[.int .i64 1, .slice p 1 cp, .bool true, .slice none 0 0, .bool false] 41)
  obtain ⟨post, hpo⟩ : ∃ q : Ending → World → Prop, q = RetE (.bool true) w := ⟨_, rfl⟩
  rw [← hpo]
  have HPO := Lib.hid hpo
  clear h hpo
  go_enter Tryz.func147, Tryz.ntmps147
  go_upto_region 1 with fail
  change Code.wp _ _ _ _ (w.alloc (.cells #[.int .i64 1, .slice p 1 cp, .bool true, .slice none 0 0, .bool false] 41))
  generalize w.alloc (.cells #[.int .i64 1, .slice p 1 cp, .bool true, .slice none 0 0, .bool false] 41) = w1 at HX hh ⊢
  have HB := Lib.hid hh
  generalize w.heap.size = g at HB ⊢
  obtain ⟨hr4, -, -⟩ := range_box1 HB.out
  clear hh
  go_wp2_with (first
    | ((with_reducible refine atSlot 4 ?_); refine wpList_of_wp rfl (wp_load_mid (op := ⟨some 4, _, _, _, _, _⟩) 39 _ rfl g 1 rfl [.slice p 1 cp, .bool true] _ hr4 Tryz.underlying39 rfl (by kernel_rfl) ?_); clear hr4)
    | (go_at_call 75; (with_reducible refine (HCK.out _ HX.out).mono ?_); rintro en w2 ⟨rfl, hx2⟩; have HX2 := Lib.hid (HX.out.trans' hx2); have hrow := (HP.out.ext HX2.out).row; obtain ⟨d0, d1, d2, d3, d4⟩ := box5c (hx2.heap' HB.out); clear hx2)
    | ((with_reducible refine atSlot 11 ?_); refine wpList_of_wp rfl (owp_ix (o := ⟨some 11, _, _, _, _, _⟩) _ _ rfl Tryz.elStr rfl hrow 0 rfl rfl (by decide) ?_); intro b1 o1 hc2; have e1 : w2.cell? ⟨b1, o1, none⟩ = some (.string ⟨#[118, 105, 101, 119]⟩) := hc2 0 (by decide); clear hc2)
    | fail)
  rw [HPO.out]
  exact ⟨rfl, HX2.out⟩
theorem Tryz.elSp : Elem Tryz.prog 42 41 5 72 (.agg #[.int .i64 0, .slice none 0 0, .bool false, .slice none 0 0, .bool false]) := ⟨Tryz.underlying42, by kernel_rfl, rfl, by decide⟩
theorem ma_comp (w : World) : Calls Tryz.prog 123 #[.string ⟨#[109, 97, 105, 110]⟩] w (RetE (.bool true) w) :=
  (Component_any [109, 97, 105, 110] w (by decide)).mono fun en w' h => by
    obtain ⟨h1, rfl⟩ := h
    rw [show compB [109, 97, 105, 110] = true by decide] at h1
    exact ⟨h1, Below.refl _ _⟩
theorem de_comp (w : World) : Calls Tryz.prog 123 #[.string ⟨#[100, 101, 118]⟩] w (RetE (.bool true) w) :=
  (Component_any [100, 101, 118] w (by decide)).mono fun en w' h => by
    obtain ⟨h1, rfl⟩ := h
    rw [show compB [100, 101, 118] = true by decide] at h1
    exact ⟨h1, Below.refl _ _⟩
theorem range_of_cells {w : World} {b o n s i : Nat} {xs : List Value} (h : ∀ j, j < n → w.cell? ⟨b, o + j, none⟩ = xs[i * s + j]?) (hi : i = 0 := by rfl) (hn : xs.length ≤ n := by exact Nat.le_refl _) : w.rangeAt b o xs := fun j v hj => by
  subst hi
  have hlt : j < xs.length := (List.getElem?_eq_some_iff.1 hj).1
  rw [h j (by omega), Nat.zero_mul, Nat.zero_add]
  exact hj
set_option maxRecDepth 100000 in
set_option maxHeartbeats 4000000 in
theorem itself0 (g m : Nat) (a : Option Addr) (c : Nat) (b : Option Addr) (cb : Nat) (p : Option Addr) (cp : Nat) (w : World) (h : Da w a c b cb p cp) (hf : Fo w g m a c) :
    Calls Tryz.prog 125 #[.pointer (some ⟨g, 0, none⟩), .int .i64 0] w (RetE (.int .i64 0) w) := by
  have hrow := h.row
  have HF := Lib.hid hf
  have HD := Lib.hid h
  have HIS := Lib.hid fun w' (hx : Ext w w') => isPathLine_any a c b cb p cp w' (h.ext hx)
  have HPN := Lib.hid (put_new w #[.string ⟨#[]⟩, .string ⟨#[]⟩, .slice none 0 0] #[.string ⟨#[109, 97, 105, 110]⟩, .string ⟨#[]⟩, .slice b 1 cb] 44)
  have HNN := heap_alloc_new w (.cells #[.string ⟨#[]⟩, .string ⟨#[]⟩, .slice none 0 0] 44)
  obtain ⟨d0, d1, -⟩ := box2 hf.box
  obtain ⟨post, hpo⟩ : ∃ q : Ending → World → Prop, q = RetE (.int .i64 0) w := ⟨_, rfl⟩
  rw [← hpo]
  have HPO := Lib.hid hpo
  clear hf h hpo
  go_enter Tryz.func125, Tryz.ntmps125
  go_upto_region 2 with (first
    | ((with_reducible refine atSlot 13 ?_); refine wpList_of_wp rfl (owp_ix (o := ⟨some 13, _, _, _, _, _⟩) _ _ rfl Tryz.elSm rfl hrow 0 rfl rfl (by decide) ?_); intro b1 o1 hc2; have hd := flat_range (sm_three b cb) (show Ls[0]? = some (⟨#[109, 97, 105, 110]⟩, ⟨#[]⟩) from rfl) hc2; clear hc2)
    | ((with_reducible refine atSlot 14 ?_); refine wpList_of_wp rfl (wp_load_mid (op := ⟨some 14, _, _, _, _, _⟩) 44 _ rfl b1 o1 rfl [.string ⟨#[109, 97, 105, 110]⟩, .string ⟨#[]⟩, .slice b 1 cb] _ hd Tryz.underlying44 rfl (by kernel_rfl) ?_); clear hd)
    | ((with_reducible refine atStore 5 ?_); refine wpList_of_wp rfl (wp_store_row (o := ⟨none, _, _, _, _, _⟩) _ _ _ rfl w.heap.size #[.string ⟨#[109, 97, 105, 110]⟩, .string ⟨#[]⟩, .slice b 1 cb] rfl rfl _ _ HNN (by kernel_rfl) rfl (by simp [Value.oneCell']) ?_); clear HNN)
    | fail)
  clear d0 d1 hrow
  generalize (w.alloc (.cells #[.string ⟨#[]⟩, .string ⟨#[]⟩, .slice none 0 0] 44)).setRow w.heap.size #[.string ⟨#[109, 97, 105, 110]⟩, .string ⟨#[]⟩, .slice b 1 cb] = w1 at HPN ⊢
  obtain ⟨hx1, hb1⟩ := HPN.out
  have HX1 := Lib.hid hx1
  have HB := Lib.hid hb1
  generalize w.heap.size = g5 at HB ⊢
  obtain ⟨e12, e2, e123⟩ := box3 HB.out
  have e0 := e123 0 _ rfl
  clear e12 e123 hx1 hb1 HPN
  go_upto_region 4 with (first
    | (go_at_call 123; (with_reducible refine (ma_comp _).mono ?_); rintro en w2 ⟨rfl, hx2⟩; have HX2 := Lib.hid (HX1.out.trans' hx2); have HB2 := Lib.hid (hx2.heap' HB.out); obtain ⟨e12, -, e123⟩ := box3 HB2.out; have f0 := e123 0 _ rfl; clear e12 e123 hx2)
    | fail)
  clear e0 e2 f0
  have E5 := Ext.drew' w2
  refine wp_region_z (fun w' => w'.heap[g]? = some (.cells #[.slice a 2 c, .map (some m)] 90) ∧ MapF kvN w' m (fJ 2) ∧ w'.heap[g5]? = some (.cells #[.string ⟨#[109, 97, 105, 110]⟩, .string ⟨#[]⟩, .slice b 1 cb] 44)) ⟨E5.heap' (HF.out.ext HX2.out).box, (HF.out.ext HX2.out).map.ext E5, E5.heap' HB2.out⟩ [] (.qs [0, 1, 2, 3, 4, 5, 6, 7, 8] .nil) (by kernel_rfl) (by kernel_rfl) ?_
  iterate 3 ((refine wpZ_q rfl rfl _ (fun w' hx' => by go_simp; try rfl) ?_; go_simp))
  refine wpZ_q rfl rfl (.map (some m)) (fun w' hx' => by have d1 := (box2 hx'.1).2.1; go_simp; try rfl) ?_
  go_simp
  ((refine wpZ_q rfl rfl _ (fun w' hx' => by go_simp; try rfl) ?_; go_simp))
  refine wpZ_q rfl rfl (.string ⟨#[109, 97, 105, 110]⟩) (fun w' hx' => by obtain ⟨d0, d2, d3⟩ := box3 hx'.2.2; have d00 := d3 0 _ rfl; go_simp; try rfl) ?_
  go_simp
  refine wpZ_look (z := .int .i64 0) rfl rfl Tryz.kvN _ _ rfl Tryz.underlying88 (zeroV (by kernel_rfl)) rfl (fun w' hx' => hx'.2.1) false rfl ?_
  rw [show fJ 2 false = some (.int .i64 0) from rfl]
  go_simp
  iterate 2 ((refine wpZ_q rfl rfl _ (fun w' hx' => by go_simp; try rfl) ?_; go_simp))
  refine wpZ_nil ?_
  have HX3 := Lib.hid (HX2.out.trans' E5)
  have HB3 := Lib.hid (E5.heap' HB2.out)
  clear E5
  generalize w2.drew = w3 at HX3 HB3 ⊢
  have e2 := (box3 HB3.out).2.1
  go_wp2
  go_loopw [42] (IxRel w3 1) (fun v _ => 1 - (intOf v).toNat)
  case atStart => exact ⟨0, rfl, by decide, Below.refl _ _⟩
  case round =>
    obtain ⟨j, rfl, hj, hx⟩ := hrel
    rename World => wd
    have HXD := Lib.hid (HX3.out.trans' hx)
    have HBD := Lib.hid (hx.heap' HB3.out)
    have HX3D := Lib.hid (show Ext w3 wd from hx)
    clear hx
    by_cases hj1 : j < 1
    · obtain rfl : j = 0 := by omega
      have hrow := (HD.out.ext HXD.out).path
      have HPN := Lib.hid (put_new wd #[.int .i64 0, .slice none 0 0, .bool false, .slice none 0 0, .bool false] #[.int .i64 1, .slice p 1 cp, .bool true, .slice none 0 0, .bool false] 41)
      have HNN := heap_alloc_new wd (.cells #[.int .i64 0, .slice none 0 0, .bool false, .slice none 0 0, .bool false] 41)
      go_upto_region 9 with (first
        | ((with_reducible refine atSlot 44 ?_); refine wpList_of_wp rfl (owp_ix (o := ⟨some 44, _, _, _, _, _⟩) _ _ rfl Tryz.elSp rfl hrow 0 rfl rfl (by decide) ?_); intro b2 o2 hc2; have hd : wd.rangeAt b2 o2 (spC p cp) := range_of_cells hc2; clear hc2)
        | ((with_reducible refine atSlot 45 ?_); refine wpList_of_wp rfl (wp_load_mid (op := ⟨some 45, _, _, _, _, _⟩) 41 _ rfl b2 o2 rfl (spC p cp) _ hd Tryz.underlying41 rfl (by kernel_rfl) ?_); clear hd)
        | ((with_reducible refine atStore 7 ?_); refine wpList_of_wp rfl (wp_store_row (o := ⟨none, _, _, _, _, _⟩) _ _ _ rfl wd.heap.size #[.int .i64 1, .slice p 1 cp, .bool true, .slice none 0 0, .bool false] rfl rfl _ _ HNN (by kernel_rfl) rfl (by simp [Value.oneCell']) ?_); clear HNN)
        | fail)
      generalize (wd.alloc (.cells #[.int .i64 0, .slice none 0 0, .bool false, .slice none 0 0, .bool false] 41)).setRow wd.heap.size #[.int .i64 1, .slice p 1 cp, .bool true, .slice none 0 0, .bool false] = we at HPN ⊢
      obtain ⟨hxe, hbe⟩ := HPN.out
      have HXE := Lib.hid (HXD.out.trans' hxe)
      have HX3E := Lib.hid (HX3D.out.trans' hxe)
      obtain ⟨-, -, hr⟩ := range_box1 hbe
      clear hbe hxe HPN
      go_wp2_with (first
        | ((with_reducible refine atSlot 46 ?_); refine wpList_of_wp rfl (wp_load_mid (op := ⟨some 46, _, _, _, _, _⟩) 41 _ rfl wd.heap.size 0 rfl [.int .i64 1, .slice p 1 cp, .bool true, .slice none 0 0, .bool false] _ hr Tryz.underlying41 rfl (by kernel_rfl) ?_); clear hr)
        | (go_at_call 147; (with_reducible refine (HIS.out _ HXE.out).mono ?_); rintro en wf ⟨rfl, hxf⟩; have HXF := Lib.hid (HX3E.out.trans' hxf); clear hxf)
        | fail)
      exact ⟨⟨1, by go_num, by omega, HXF.out⟩, by simp [intOf]⟩
    · obtain rfl : j = 1 := by omega
      have e3 := (box3 HBD.out).2.1
      go_wp2
      rw [HPO.out]
      exact ⟨rfl, HXD.out⟩
set_option maxRecDepth 100000 in
set_option maxHeartbeats 4000000 in
theorem itself1 (g m : Nat) (a : Option Addr) (c : Nat) (b : Option Addr) (cb : Nat) (p : Option Addr) (cp : Nat) (w : World) (h : Da w a c b cb p cp) (hf : Fo w g m a c) :
    Calls Tryz.prog 125 #[.pointer (some ⟨g, 0, none⟩), .int .i64 1] w (RetE (.int .i64 0) w) := by
  have hrow := h.row
  have HF := Lib.hid hf
  have HD := Lib.hid h
  have HIS := Lib.hid fun w' (hx : Ext w w') => isPathLine_any a c b cb p cp w' (h.ext hx)
  have HPN := Lib.hid (put_new w #[.string ⟨#[]⟩, .string ⟨#[]⟩, .slice none 0 0] #[.string ⟨#[100, 101, 118]⟩, .string ⟨#[109, 97, 105, 110]⟩, .slice b 1 cb] 44)
  have HNN := heap_alloc_new w (.cells #[.string ⟨#[]⟩, .string ⟨#[]⟩, .slice none 0 0] 44)
  obtain ⟨d0, d1, -⟩ := box2 hf.box
  obtain ⟨post, hpo⟩ : ∃ q : Ending → World → Prop, q = RetE (.int .i64 0) w := ⟨_, rfl⟩
  rw [← hpo]
  have HPO := Lib.hid hpo
  clear hf h hpo
  go_enter Tryz.func125, Tryz.ntmps125
  go_upto_region 2 with (first
    | ((with_reducible refine atSlot 13 ?_); refine wpList_of_wp rfl (owp_ix (o := ⟨some 13, _, _, _, _, _⟩) _ _ rfl Tryz.elSm rfl hrow 1 rfl rfl (by decide) ?_); intro b1 o1 hc2; have hd := flat_range (sm_three b cb) (show Ls[1]? = some (⟨#[100, 101, 118]⟩, ⟨#[109, 97, 105, 110]⟩) from rfl) hc2; clear hc2)
    | ((with_reducible refine atSlot 14 ?_); refine wpList_of_wp rfl (wp_load_mid (op := ⟨some 14, _, _, _, _, _⟩) 44 _ rfl b1 o1 rfl [.string ⟨#[100, 101, 118]⟩, .string ⟨#[109, 97, 105, 110]⟩, .slice b 1 cb] _ hd Tryz.underlying44 rfl (by kernel_rfl) ?_); clear hd)
    | ((with_reducible refine atStore 5 ?_); refine wpList_of_wp rfl (wp_store_row (o := ⟨none, _, _, _, _, _⟩) _ _ _ rfl w.heap.size #[.string ⟨#[100, 101, 118]⟩, .string ⟨#[109, 97, 105, 110]⟩, .slice b 1 cb] rfl rfl _ _ HNN (by kernel_rfl) rfl (by simp [Value.oneCell']) ?_); clear HNN)
    | fail)
  clear d0 d1 hrow
  generalize (w.alloc (.cells #[.string ⟨#[]⟩, .string ⟨#[]⟩, .slice none 0 0] 44)).setRow w.heap.size #[.string ⟨#[100, 101, 118]⟩, .string ⟨#[109, 97, 105, 110]⟩, .slice b 1 cb] = w1 at HPN ⊢
  obtain ⟨hx1, hb1⟩ := HPN.out
  have HX1 := Lib.hid hx1
  have HB := Lib.hid hb1
  generalize w.heap.size = g5 at HB ⊢
  obtain ⟨e12, e2, e123⟩ := box3 HB.out
  have e0 := e123 0 _ rfl
  clear e12 e123 hx1 hb1 HPN
  go_upto_region 4 with (first
    | (go_at_call 123; (with_reducible refine (de_comp _).mono ?_); rintro en w2 ⟨rfl, hx2⟩; have HX2 := Lib.hid (HX1.out.trans' hx2); have HB2 := Lib.hid (hx2.heap' HB.out); obtain ⟨e12, -, e123⟩ := box3 HB2.out; have f0 := e123 0 _ rfl; clear e12 e123 hx2)
    | fail)
  clear e0 e2 f0
  have E5 := Ext.drew' w2
  refine wp_region_z (fun w' => w'.heap[g]? = some (.cells #[.slice a 2 c, .map (some m)] 90) ∧ MapF kvN w' m (fJ 2) ∧ w'.heap[g5]? = some (.cells #[.string ⟨#[100, 101, 118]⟩, .string ⟨#[109, 97, 105, 110]⟩, .slice b 1 cb] 44)) ⟨E5.heap' (HF.out.ext HX2.out).box, (HF.out.ext HX2.out).map.ext E5, E5.heap' HB2.out⟩ [] (.qs [0, 1, 2, 3, 4, 5, 6, 7, 8] .nil) (by kernel_rfl) (by kernel_rfl) ?_
  iterate 3 ((refine wpZ_q rfl rfl _ (fun w' hx' => by go_simp; try rfl) ?_; go_simp))
  refine wpZ_q rfl rfl (.map (some m)) (fun w' hx' => by have d1 := (box2 hx'.1).2.1; go_simp; try rfl) ?_
  go_simp
  ((refine wpZ_q rfl rfl _ (fun w' hx' => by go_simp; try rfl) ?_; go_simp))
  refine wpZ_q rfl rfl (.string ⟨#[100, 101, 118]⟩) (fun w' hx' => by obtain ⟨d0, d2, d3⟩ := box3 hx'.2.2; have d00 := d3 0 _ rfl; go_simp; try rfl) ?_
  go_simp
  refine wpZ_look (z := .int .i64 0) rfl rfl Tryz.kvN _ _ rfl Tryz.underlying88 (zeroV (by kernel_rfl)) rfl (fun w' hx' => hx'.2.1) true rfl ?_
  rw [show fJ 2 true = some (.int .i64 1) from rfl]
  go_simp
  iterate 2 ((refine wpZ_q rfl rfl _ (fun w' hx' => by go_simp; try rfl) ?_; go_simp))
  refine wpZ_nil ?_
  have HX3 := Lib.hid (HX2.out.trans' E5)
  have HB3 := Lib.hid (E5.heap' HB2.out)
  clear E5
  generalize w2.drew = w3 at HX3 HB3 ⊢
  have e2 := (box3 HB3.out).2.1
  go_wp2
  go_loopw [42] (IxRel w3 1) (fun v _ => 1 - (intOf v).toNat)
  case atStart => exact ⟨0, rfl, by decide, Below.refl _ _⟩
  case round =>
    obtain ⟨j, rfl, hj, hx⟩ := hrel
    rename World => wd
    have HXD := Lib.hid (HX3.out.trans' hx)
    have HBD := Lib.hid (hx.heap' HB3.out)
    have HX3D := Lib.hid (show Ext w3 wd from hx)
    clear hx
    by_cases hj1 : j < 1
    · obtain rfl : j = 0 := by omega
      have hrow := (HD.out.ext HXD.out).path
      have HPN := Lib.hid (put_new wd #[.int .i64 0, .slice none 0 0, .bool false, .slice none 0 0, .bool false] #[.int .i64 1, .slice p 1 cp, .bool true, .slice none 0 0, .bool false] 41)
      have HNN := heap_alloc_new wd (.cells #[.int .i64 0, .slice none 0 0, .bool false, .slice none 0 0, .bool false] 41)
      go_upto_region 9 with (first
        | ((with_reducible refine atSlot 44 ?_); refine wpList_of_wp rfl (owp_ix (o := ⟨some 44, _, _, _, _, _⟩) _ _ rfl Tryz.elSp rfl hrow 0 rfl rfl (by decide) ?_); intro b2 o2 hc2; have hd : wd.rangeAt b2 o2 (spC p cp) := range_of_cells hc2; clear hc2)
        | ((with_reducible refine atSlot 45 ?_); refine wpList_of_wp rfl (wp_load_mid (op := ⟨some 45, _, _, _, _, _⟩) 41 _ rfl b2 o2 rfl (spC p cp) _ hd Tryz.underlying41 rfl (by kernel_rfl) ?_); clear hd)
        | ((with_reducible refine atStore 7 ?_); refine wpList_of_wp rfl (wp_store_row (o := ⟨none, _, _, _, _, _⟩) _ _ _ rfl wd.heap.size #[.int .i64 1, .slice p 1 cp, .bool true, .slice none 0 0, .bool false] rfl rfl _ _ HNN (by kernel_rfl) rfl (by simp [Value.oneCell']) ?_); clear HNN)
        | fail)
      generalize (wd.alloc (.cells #[.int .i64 0, .slice none 0 0, .bool false, .slice none 0 0, .bool false] 41)).setRow wd.heap.size #[.int .i64 1, .slice p 1 cp, .bool true, .slice none 0 0, .bool false] = we at HPN ⊢
      obtain ⟨hxe, hbe⟩ := HPN.out
      have HXE := Lib.hid (HXD.out.trans' hxe)
      have HX3E := Lib.hid (HX3D.out.trans' hxe)
      obtain ⟨-, -, hr⟩ := range_box1 hbe
      clear hbe hxe HPN
      go_wp2_with (first
        | ((with_reducible refine atSlot 46 ?_); refine wpList_of_wp rfl (wp_load_mid (op := ⟨some 46, _, _, _, _, _⟩) 41 _ rfl wd.heap.size 0 rfl [.int .i64 1, .slice p 1 cp, .bool true, .slice none 0 0, .bool false] _ hr Tryz.underlying41 rfl (by kernel_rfl) ?_); clear hr)
        | (go_at_call 147; (with_reducible refine (HIS.out _ HXE.out).mono ?_); rintro en wf ⟨rfl, hxf⟩; have HXF := Lib.hid (HX3E.out.trans' hxf); clear hxf)
        | fail)
      exact ⟨⟨1, by go_num, by omega, HXF.out⟩, by simp [intOf]⟩
    · obtain rfl : j = 1 := by omega
      have e3 := (box3 HBD.out).2.1
      go_wp2
      rw [HPO.out]
      exact ⟨rfl, HXD.out⟩
end Go.Proofs.YtejljmikammcdaaGreatDoor
/-
  Layer stream, at the two streams of awake08: badImport.
-/
namespace Go.Proofs.YtejljmikammcdaaGreatDoor
open Go.RowKit Go.WideMaps

set_option maxRecDepth 100000 in
set_option maxHeartbeats 4000000 in
theorem badImport0 (g m : Nat) (a : Option Addr) (c : Nat) (b : Option Addr) (cb : Nat) (p : Option Addr) (cp : Nat) (w : World) (h : Da w a c b cb p cp) (hf : Fo w g m a c) :
    Calls Tryz.prog 129 #[.pointer (some ⟨g, 0, none⟩), .int .i64 0] w (RetE (.int .i64 0) w) := by
  have HP0 := Lib.hid (above0 g m a c b cb p cp w h hf)
  have HF := Lib.hid hf
  have HD := Lib.hid h
  obtain ⟨post, hpo⟩ : ∃ q : Ending → World → Prop, q = RetE (.int .i64 0) w := ⟨_, rfl⟩
  rw [← hpo]
  have HPO := Lib.hid hpo
  clear hf h hpo
  go_enter Tryz.func129, Tryz.ntmps129
  go_upto_region 2 with fail
  go_wp2_with (first
    | (go_at_call 148; (with_reducible refine HP0.out.mono ?_); rintro en w1 ⟨x, cx, rfl, ho1, hx1⟩; have HX1 := Lib.hid hx1; have HO1 := Lib.hid (Row.of_own ho1); clear hx1 ho1)
    | fail)
  go_loopw [5, 22] (IzRel w1 0) (fun _ v _ => 0 - (intOf v).toNat)
  case atStart => exact ⟨0, rfl, rfl, Nat.zero_le _, Below.refl _ _⟩
  case round =>
    obtain ⟨j, rfl, rfl, hj, hx⟩ := hrel
    rename World => wd
    have HXD := Lib.hid (show Ext w1 wd from hx)
    have HXW := Lib.hid (HX1.out.trans' hx)
    clear hx
    by_cases hj1 : j < 0
    · exact absurd hj1 (Nat.not_lt_zero _)
    · obtain rfl : j = 0 := by omega
      have hrow := (HD.out.ext HXW.out).row
      obtain ⟨d0, d1, -⟩ := box2 (HF.out.ext HXW.out).box
      go_wp2_with (first
        | ((with_reducible refine atSlot 54 ?_); refine wpList_of_wp rfl (owp_ix (o := ⟨some 54, _, _, _, _, _⟩) _ _ rfl Tryz.elSm rfl hrow 0 rfl rfl (by decide) ?_); intro b1 o1 hc2; have e2 : wd.cell? ⟨b1, o1 + 2, none⟩ = some (.slice b 1 cb) := hc2 2 (by decide); clear hc2)
        | fail)
      go_loopw [5, 58] (IzRel wd 1) (fun _ v _ => 1 - (intOf v).toNat)
      case atStart => exact ⟨0, rfl, rfl, by decide, Below.refl _ _⟩
      case round =>
        obtain ⟨t, rfl, rfl, ht, hx⟩ := hrel
        rename World => we
        have HXE := Lib.hid (show Ext wd we from hx)
        clear hx
        by_cases ht1 : t < 1
        · obtain rfl : t = 0 := by omega
          have hr2 := (HD.out.ext (HXW.out.trans' HXE.out)).path
          have HPN := Lib.hid (put_new we #[.int .i64 0, .slice none 0 0, .bool false, .slice none 0 0, .bool false] #[.int .i64 1, .slice p 1 cp, .bool true, .slice none 0 0, .bool false] 41)
          have HNN := heap_alloc_new we (.cells #[.int .i64 0, .slice none 0 0, .bool false, .slice none 0 0, .bool false] 41)
          go_upto_region 15 with (first
            | ((with_reducible refine atSlot 60 ?_); refine wpList_of_wp rfl (owp_ix (o := ⟨some 60, _, _, _, _, _⟩) _ _ rfl Tryz.elSp rfl hr2 0 rfl rfl (by decide) ?_); intro b3 o3 hc2; have hd : we.rangeAt b3 o3 (spC p cp) := range_of_cells hc2; clear hc2)
            | ((with_reducible refine atSlot 61 ?_); refine wpList_of_wp rfl (wp_load_mid (op := ⟨some 61, _, _, _, _, _⟩) 41 _ rfl b3 o3 rfl (spC p cp) _ hd Tryz.underlying41 rfl (by kernel_rfl) ?_); clear hd)
            | ((with_reducible refine atStore 11 ?_); refine wpList_of_wp rfl (wp_store_row (o := ⟨none, _, _, _, _, _⟩) _ _ _ rfl we.heap.size #[.int .i64 1, .slice p 1 cp, .bool true, .slice none 0 0, .bool false] rfl rfl _ _ HNN (by kernel_rfl) rfl (by simp [Value.oneCell']) ?_); clear HNN)
            | fail)
          generalize (we.alloc (.cells #[.int .i64 0, .slice none 0 0, .bool false, .slice none 0 0, .bool false] 41)).setRow we.heap.size #[.int .i64 1, .slice p 1 cp, .bool true, .slice none 0 0, .bool false] = wf at HPN ⊢
          obtain ⟨hxf, hbf⟩ := HPN.out
          have HXF := Lib.hid (HXE.out.trans' hxf)
          obtain ⟨f0, -⟩ := box5c hbf
          clear hbf hxf HPN
          go_wp2
          exact ⟨⟨1, rfl, by go_num, by omega, HXF.out⟩, by simp [intOf]⟩
        · obtain rfl : t = 1 := by omega
          go_wp2
          rw [HPO.out]
          exact ⟨rfl, HXW.out.trans' HXE.out⟩
set_option maxRecDepth 100000 in
set_option maxHeartbeats 4000000 in
theorem badImport1 (g m : Nat) (a : Option Addr) (c : Nat) (b : Option Addr) (cb : Nat) (p : Option Addr) (cp : Nat) (w : World) (h : Da w a c b cb p cp) (hf : Fo w g m a c) :
    Calls Tryz.prog 129 #[.pointer (some ⟨g, 0, none⟩), .int .i64 1] w (RetE (.int .i64 0) w) := by
  have HP0 := Lib.hid (above1 g m a c b cb p cp w h hf)
  have HF := Lib.hid hf
  have HD := Lib.hid h
  obtain ⟨post, hpo⟩ : ∃ q : Ending → World → Prop, q = RetE (.int .i64 0) w := ⟨_, rfl⟩
  rw [← hpo]
  have HPO := Lib.hid hpo
  clear hf h hpo
  go_enter Tryz.func129, Tryz.ntmps129
  go_upto_region 2 with fail
  go_wp2_with (first
    | (go_at_call 148; (with_reducible refine HP0.out.mono ?_); rintro en w1 ⟨x, cx, rfl, ho1, hx1⟩; have HX1 := Lib.hid hx1; have HO1 := Lib.hid (Row.of_own ho1); clear hx1 ho1)
    | fail)
  go_loopw [5, 22] (IzRel w1 1) (fun _ v _ => 1 - (intOf v).toNat)
  case atStart => exact ⟨0, rfl, rfl, Nat.zero_le _, Below.refl _ _⟩
  case round =>
    obtain ⟨j, rfl, rfl, hj, hx⟩ := hrel
    rename World => wd
    have HXD := Lib.hid (show Ext w1 wd from hx)
    have HXW := Lib.hid (HX1.out.trans' hx)
    clear hx
    by_cases hj1 : j < 1
    · obtain rfl : j = 0 := by omega
      have hr1 := HO1.out.ext HXD.out
      have hrow := (HD.out.ext HXW.out).row
      obtain ⟨d0, d1, -⟩ := box2 (HF.out.ext HXW.out).box
      go_upto_region 5 with (first
        | ((with_reducible refine atSlot 24 ?_); refine wpList_of_wp rfl (owp_ix (o := ⟨some 24, _, _, _, _, _⟩) _ _ rfl Tryz.elInt rfl hr1 0 rfl rfl (by decide) ?_); intro b1 o1 hc2; have e1 : wd.cell? ⟨b1, o1, none⟩ = some (.int .i64 0) := hc2 0 (by decide); clear hc2 hr1)
        | fail)
      go_wp2_with (first
        | ((with_reducible refine atSlot 31 ?_); refine wpList_of_wp rfl (owp_ix (o := ⟨some 31, _, _, _, _, _⟩) _ _ rfl Tryz.elSm rfl hrow 0 rfl rfl (by decide) ?_); intro b2 o2 hc2; have e2 : wd.cell? ⟨b2, o2 + 2, none⟩ = some (.slice b 1 cb) := hc2 2 (by decide); clear hc2 hrow)
        | fail)
      go_loopw [5, 35] (IzRel wd 1) (fun _ v _ => 1 - (intOf v).toNat)
      case atStart => exact ⟨0, rfl, rfl, by decide, Below.refl _ _⟩
      case round =>
        obtain ⟨t, rfl, rfl, ht, hx⟩ := hrel
        rename World => we
        have HXE := Lib.hid (show Ext wd we from hx)
        clear hx
        by_cases ht1 : t < 1
        · obtain rfl : t = 0 := by omega
          have hr2 := (HD.out.ext (HXW.out.trans' HXE.out)).path
          have HPN := Lib.hid (put_new we #[.int .i64 0, .slice none 0 0, .bool false, .slice none 0 0, .bool false] #[.int .i64 1, .slice p 1 cp, .bool true, .slice none 0 0, .bool false] 41)
          have HNN := heap_alloc_new we (.cells #[.int .i64 0, .slice none 0 0, .bool false, .slice none 0 0, .bool false] 41)
          go_upto_region 8 with (first
            | ((with_reducible refine atSlot 37 ?_); refine wpList_of_wp rfl (owp_ix (o := ⟨some 37, _, _, _, _, _⟩) _ _ rfl Tryz.elSp rfl hr2 0 rfl rfl (by decide) ?_); intro b3 o3 hc2; have hd : we.rangeAt b3 o3 (spC p cp) := range_of_cells hc2; clear hc2)
            | ((with_reducible refine atSlot 38 ?_); refine wpList_of_wp rfl (wp_load_mid (op := ⟨some 38, _, _, _, _, _⟩) 41 _ rfl b3 o3 rfl (spC p cp) _ hd Tryz.underlying41 rfl (by kernel_rfl) ?_); clear hd)
            | ((with_reducible refine atStore 9 ?_); refine wpList_of_wp rfl (wp_store_row (o := ⟨none, _, _, _, _, _⟩) _ _ _ rfl we.heap.size #[.int .i64 1, .slice p 1 cp, .bool true, .slice none 0 0, .bool false] rfl rfl _ _ HNN (by kernel_rfl) rfl (by simp [Value.oneCell']) ?_); clear HNN)
            | fail)
          generalize (we.alloc (.cells #[.int .i64 0, .slice none 0 0, .bool false, .slice none 0 0, .bool false] 41)).setRow we.heap.size #[.int .i64 1, .slice p 1 cp, .bool true, .slice none 0 0, .bool false] = wf at HPN ⊢
          obtain ⟨hxf, hbf⟩ := HPN.out
          have HXF := Lib.hid (HXE.out.trans' hxf)
          obtain ⟨f0, -⟩ := box5c hbf
          clear hbf hxf HPN
          go_wp2
          exact ⟨⟨1, rfl, by go_num, by omega, HXF.out⟩, by simp [intOf]⟩
        · obtain rfl : t = 1 := by omega
          go_wp2
          exact ⟨⟨1, rfl, by go_num, by omega, HXD.out.trans' HXE.out⟩, by simp [intOf]⟩
    · obtain rfl : j = 1 := by omega
      have hrow := (HD.out.ext HXW.out).row
      obtain ⟨d0, d1, -⟩ := box2 (HF.out.ext HXW.out).box
      go_wp2_with (first
        | ((with_reducible refine atSlot 54 ?_); refine wpList_of_wp rfl (owp_ix (o := ⟨some 54, _, _, _, _, _⟩) _ _ rfl Tryz.elSm rfl hrow 1 rfl rfl (by decide) ?_); intro b1 o1 hc2; have e2 : wd.cell? ⟨b1, o1 + 2, none⟩ = some (.slice b 1 cb) := hc2 2 (by decide); clear hc2)
        | fail)
      go_loopw [5, 58] (IzRel wd 1) (fun _ v _ => 1 - (intOf v).toNat)
      case atStart => exact ⟨0, rfl, rfl, by decide, Below.refl _ _⟩
      case round =>
        obtain ⟨t, rfl, rfl, ht, hx⟩ := hrel
        rename World => we
        have HXE := Lib.hid (show Ext wd we from hx)
        clear hx
        by_cases ht1 : t < 1
        · obtain rfl : t = 0 := by omega
          have hr2 := (HD.out.ext (HXW.out.trans' HXE.out)).path
          have HPN := Lib.hid (put_new we #[.int .i64 0, .slice none 0 0, .bool false, .slice none 0 0, .bool false] #[.int .i64 1, .slice p 1 cp, .bool true, .slice none 0 0, .bool false] 41)
          have HNN := heap_alloc_new we (.cells #[.int .i64 0, .slice none 0 0, .bool false, .slice none 0 0, .bool false] 41)
          go_upto_region 15 with (first
            | ((with_reducible refine atSlot 60 ?_); refine wpList_of_wp rfl (owp_ix (o := ⟨some 60, _, _, _, _, _⟩) _ _ rfl Tryz.elSp rfl hr2 0 rfl rfl (by decide) ?_); intro b3 o3 hc2; have hd : we.rangeAt b3 o3 (spC p cp) := range_of_cells hc2; clear hc2)
            | ((with_reducible refine atSlot 61 ?_); refine wpList_of_wp rfl (wp_load_mid (op := ⟨some 61, _, _, _, _, _⟩) 41 _ rfl b3 o3 rfl (spC p cp) _ hd Tryz.underlying41 rfl (by kernel_rfl) ?_); clear hd)
            | ((with_reducible refine atStore 11 ?_); refine wpList_of_wp rfl (wp_store_row (o := ⟨none, _, _, _, _, _⟩) _ _ _ rfl we.heap.size #[.int .i64 1, .slice p 1 cp, .bool true, .slice none 0 0, .bool false] rfl rfl _ _ HNN (by kernel_rfl) rfl (by simp [Value.oneCell']) ?_); clear HNN)
            | fail)
          generalize (we.alloc (.cells #[.int .i64 0, .slice none 0 0, .bool false, .slice none 0 0, .bool false] 41)).setRow we.heap.size #[.int .i64 1, .slice p 1 cp, .bool true, .slice none 0 0, .bool false] = wf at HPN ⊢
          obtain ⟨hxf, hbf⟩ := HPN.out
          have HXF := Lib.hid (HXE.out.trans' hxf)
          obtain ⟨f0, -⟩ := box5c hbf
          clear hbf hxf HPN
          go_wp2
          exact ⟨⟨1, rfl, by go_num, by omega, HXF.out⟩, by simp [intOf]⟩
        · obtain rfl : t = 1 := by omega
          go_wp2
          rw [HPO.out]
          exact ⟨rfl, HXW.out.trans' HXE.out⟩
end Go.Proofs.YtejljmikammcdaaGreatDoor
/-
  Layer stream, at the two streams of awake08: steps, Check, find.
-/
namespace Go.Proofs.YtejljmikammcdaaGreatDoor
open Go.RowKit Go.WideMaps

def fnV (f : FuncId) : Value := .func (.func f) #[] #[]
def stF : List FuncId := [125, 126, 127, 128, 129]
def fnC (f : FuncId) : List Value := [fnV f]
theorem fn_one (f : FuncId) : (fnC f).length = 1 := rfl
theorem Tryz.elStp : Elem Tryz.prog 162 166 1 8 (.agg #[.nilFunc]) := ⟨Tryz.underlying162, by kernel_rfl, rfl, by decide⟩
def StpO (w : World) (en : Ending) (w' : World) : Prop := ∃ x, en = .returned (.slice (some ⟨x, 0, none⟩) 5 5) ∧ Row w' (some ⟨x, 0, none⟩) 5 5 1 (stF.flatMap fnC) ∧ Ext w w'
set_option maxRecDepth 100000 in
set_option maxHeartbeats 4000000 in
theorem steps_any (w : World) : Calls Tryz.prog 95 #[] w (StpO w) := by
  obtain ⟨post, hpo⟩ : ∃ q : Ending → World → Prop, q = StpO w := ⟨_, rfl⟩
  rw [← hpo]
  have HPO := Lib.hid hpo
  clear hpo
  go_enter Tryz.func95, Tryz.ntmps95
  go_wp2
  rw [HPO.out]
  exact ⟨w.heap.size, rfl, Row.new w _ _ 5 1 rfl (by decide), Ext.alloc' w _⟩
/-- Step j does well at both streams. -/
theorem step_at (g m : Nat) (a : Option Addr) (c : Nat) (b : Option Addr) (cb : Nat) (p : Option Addr) (cp : Nat) (j : Nat) (hj : j < 5) : ∃ f, stF[j]? = some f ∧ (∀ args w, (callFunc f args).run Tryz.prog w = .ok (.enter f args) w) ∧ ∀ i : Nat, i < 2 → ∀ w : World, Da w a c b cb p cp → Fo w g m a c →
    Calls Tryz.prog f #[.pointer (some ⟨g, 0, none⟩), .int .i64 i] w (RetE (.int .i64 0) w) := by
  match j, hj with
  | 0, _ => exact ⟨_, rfl, enters_of Tryz.func125 (by kernel_rfl) rfl, fun i hi w h hf => by
      match i, hi with
      | 0, _ => exact itself0 g m a c b cb p cp w h hf
      | 1, _ => exact itself1 g m a c b cb p cp w h hf⟩
  | 1, _ => exact ⟨_, rfl, enters_of Tryz.func126 (by kernel_rfl) rfl, fun i hi w h hf => by
      match i, hi with
      | 0, _ => exact parentMissing0 g m a c b cb p cp w h hf
      | 1, _ => exact parentMissing1 g m a c b cb p cp w h hf⟩
  | 2, _ => exact ⟨_, rfl, enters_of Tryz.func127 (by kernel_rfl) rfl, fun i hi w h hf => by
      match i, hi with
      | 0, _ => exact cycle0 g m a c b cb p cp w h hf
      | 1, _ => exact cycle1 g m a c b cb p cp w h hf⟩
  | 3, _ => exact ⟨_, rfl, enters_of Tryz.func128 (by kernel_rfl) rfl, fun i hi w h hf => by
      match i, hi with
      | 0, _ => exact tooDeep0 g m a c b cb p cp w h hf
      | 1, _ => exact tooDeep1 g m a c b cb p cp w h hf⟩
  | 4, _ => exact ⟨_, rfl, enters_of Tryz.func129 (by kernel_rfl) rfl, fun i hi w h hf => by
      match i, hi with
      | 0, _ => exact badImport0 g m a c b cb p cp w h hf
      | 1, _ => exact badImport1 g m a c b cb p cp w h hf⟩
set_option maxRecDepth 100000 in
set_option maxHeartbeats 4000000 in
theorem SCheck_any (a : Option Addr) (c : Nat) (b : Option Addr) (cb : Nat) (p : Option Addr) (cp : Nat) (w : World) (h : Da w a c b cb p cp) :
    Calls Tryz.prog 70 #[.slice a 2 c] w (RetE (.tuple #[.int .i64 0, .int .i64 0]) w) := by
  have HNF := Lib.hid (newForest_any a c b cb p cp w h)
  have HD := Lib.hid h
  obtain ⟨post, hpo⟩ : ∃ q : Ending → World → Prop, q = RetE (.tuple #[.int .i64 0, .int .i64 0]) w := ⟨_, rfl⟩
  rw [← hpo]
  have HPO := Lib.hid hpo
  clear h hpo
  go_enter Tryz.func70, Tryz.ntmps70
  go_upto_region 4 with (first
    | (go_at_call 71; (with_reducible refine HNF.out.mono ?_); rintro en w1 ⟨g, m, rfl, hfo, hx1⟩; have HX1 := Lib.hid hx1; have HF1 := Lib.hid hfo; clear hx1 hfo)
    | fail)
  go_wp2_with (first
    | (go_at_call 95; (with_reducible refine (steps_any _).mono ?_); rintro en w2 ⟨x, rfl, hr2, hx2⟩; have HX2 := Lib.hid (HX1.out.trans' hx2); have HF2 := Lib.hid (HF1.out.ext hx2); have HR2 := Lib.hid hr2; clear hx2 hr2)
    | fail)
  go_loopw [16] (IxRel w2 5) (fun v _ => 5 - (intOf v).toNat)
  case atStart => exact ⟨0, rfl, by decide, Below.refl _ _⟩
  case round =>
    obtain ⟨j, rfl, hj, hx⟩ := hrel
    rename World => wd
    have HXD := Lib.hid (show Ext w2 wd from hx)
    have HXW := Lib.hid (HX2.out.trans' hx)
    clear hx
    by_cases hj5 : j < 5
    · obtain ⟨f, hf1, eg, hf2⟩ := step_at g m a c b cb p cp j hj5
      have HEG := Lib.hid eg
      clear eg
      have HF := Lib.hid hf2
      have HFX := Lib.hid hf1
      have hrow := HR2.out.ext HXD.out
      clear hf1 hf2
      have HPN := Lib.hid (put_new wd #[.nilFunc] #[fnV f] 166)
      have HNN := heap_alloc_new wd (.cells #[.nilFunc] 166)
      go_upto_region 7 with (first
        | ((with_reducible refine atSlot 18 ?_); refine wpList_of_wp rfl (owp_ix (o := ⟨some 18, _, _, _, _, _⟩) _ _ rfl Tryz.elStp rfl hrow j rfl rfl hj5 ?_); intro b1 o1 hc2; have hd := flat_range fn_one HFX.out hc2; clear hc2)
        | ((with_reducible refine atSlot 19 ?_); refine wpList_of_wp rfl (wp_load_mid (op := ⟨some 19, _, _, _, _, _⟩) 166 _ rfl b1 o1 rfl [fnV f] _ hd Tryz.underlying166 rfl (by kernel_rfl) ?_); clear hd)
        | ((with_reducible refine atStore 6 ?_); refine wpList_of_wp rfl (wp_store_row (o := ⟨none, _, _, _, _, _⟩) _ _ _ rfl wd.heap.size #[fnV f] rfl rfl _ _ HNN (by kernel_rfl) rfl (by simp [Value.oneCell', fnV]) ?_); clear HNN)
        | fail)
      generalize (wd.alloc (.cells #[.nilFunc] 166)).setRow wd.heap.size #[fnV f] = we at HPN ⊢
      obtain ⟨hxe, hbe⟩ := HPN.out
      have HXE := Lib.hid (HXD.out.trans' hxe)
      have HXWE := Lib.hid (HXW.out.trans' hxe)
      have HB6 := Lib.hid hbe
      generalize wd.heap.size = g6 at HB6 ⊢
      clear hxe hbe HPN
      go_wp2
      go_loopw [22] (IxRel we 2) (fun v _ => 2 - (intOf v).toNat)
      case atStart => exact ⟨0, rfl, by decide, Below.refl _ _⟩
      case round =>
        obtain ⟨i, rfl, hi, hx⟩ := hrel
        rename World => wf
        have HXF := Lib.hid (show Ext we wf from hx)
        have HXG := Lib.hid (HXWE.out.trans' hx)
        have c6 : wf.cell? ⟨g6, 0, none⟩ = some (.func (.func f) #[] #[]) := by
          have h := cell_of_row wf g6 0 _ _ _ (hx.heap' HB6.out)
          rw [h]; rfl
        clear hx
        by_cases hi2 : i < 2
        · have HI := Lib.hid (HF.out i hi2 wf (HD.out.ext HXG.out) (HF2.out.ext (HXE.out.trans' HXF.out)))
          have eg := HEG.out
          go_wp2_with (first
            | (go_at_fn f; (with_reducible refine HI.out.mono ?_); rintro en wg ⟨rfl, hxg⟩; have HXH := Lib.hid (HXF.out.trans' hxg); clear hxg)
            | fail)
          exact ⟨⟨i + 1, by go_num, hi2, HXH.out⟩, by simp [intOf]; omega⟩
        · obtain rfl : i = 2 := by omega
          go_wp2
          exact ⟨⟨j + 1, by go_num, hj5, HXE.out.trans' HXF.out⟩, by simp [intOf]; omega⟩
    · obtain rfl : j = 5 := by omega
      go_wp2
      rw [HPO.out]
      exact ⟨rfl, HXW.out⟩
/-- find: the forest and the index of "dev". -/
def FndO (w : World) (a : Option Addr) (c : Nat) (en : Ending) (w' : World) : Prop := ∃ g m, en = .returned (.tuple #[.pointer (some ⟨g, 0, none⟩), .int .i64 1, .int .i64 0]) ∧ Fo w' g m a c ∧ Ext w w'
set_option maxRecDepth 100000 in
set_option maxHeartbeats 4000000 in
theorem find_any (a : Option Addr) (c : Nat) (b : Option Addr) (cb : Nat) (p : Option Addr) (cp : Nat) (w : World) (h : Da w a c b cb p cp) :
    Calls Tryz.prog 38 #[.slice a 2 c, .string ⟨#[100, 101, 118]⟩] w (FndO w a c) := by
  have HCK := Lib.hid (SCheck_any a c b cb p cp w h)
  have HNF := Lib.hid fun w' (hx : Ext w w') => newForest_any a c b cb p cp w' (h.ext hx)
  obtain ⟨post, hpo⟩ : ∃ q : Ending → World → Prop, q = FndO w a c := ⟨_, rfl⟩
  rw [← hpo]
  have HPO := Lib.hid hpo
  clear h hpo
  go_enter Tryz.func38, Tryz.ntmps38
  go_upto_region 6 with (first
    | (go_at_call 70; (with_reducible refine HCK.out.mono ?_); rintro en w1 ⟨rfl, hx1⟩; have HX1 := Lib.hid hx1; clear hx1)
    | (go_at_call 71; (with_reducible refine (HNF.out _ HX1.out).mono ?_); rintro en w2 ⟨g, m, rfl, hfo, hx2⟩; have HX2 := Lib.hid (HX1.out.trans' hx2); have HF2 := Lib.hid hfo; obtain ⟨d0, d1, -⟩ := box2 hfo.box; clear hx2 hfo)
    | ((with_reducible refine atSlot 28 ?_); refine wpList_of_wp rfl (owp_look (z := .int .i64 0) (o := ⟨some 28, _, _, _, _, _⟩) Tryz.kvN _ _ rfl Tryz.underlying88 (zeroV (by kernel_rfl) _) rfl HF2.out.map true rfl ?_); rw [show fJ 2 true = some (.int .i64 1) from rfl])
    | fail)
  go_wp2
  refine ⟨rfl, _, results_tmp3 rfl _ _ _, ?_⟩
  rw [HPO.out]
  exact ⟨g, m, rfl, HF2.out, HX2.out⟩
end Go.Proofs.YtejljmikammcdaaGreatDoor
