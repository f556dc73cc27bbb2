/-
  Layer mapping: reduce; the collection: add, result.
-/
import Derived.Test.YtejljmikammcdaaGreatDoorMaF
namespace Go.Proofs.YtejljmikammcdaaGreatDoor
open Go.RowKit

/-- mapping.reduce: what it answers. -/
def RcO (base : Pat) (L : List Pat) (S : Nat) (w : World) (en : Ending) (w' : World) : Prop :=
  ∃ (k : Rg) (q : Bool) (e : Nat), en = .returned (.tuple #[k.v, .bool q, .int .i64 (e : Nat)]) ∧ (e = 0 → k.b.P = base ∧ RedOk base L (k.hs.map Pt.P) ∧ (q = true ↔ ¬ VoidP base (k.hs.map Pt.P)) ∧ k.hs.length ≤ 64) ∧ (e ≠ 0 → q = false) ∧ RgO w' w.heap.size S k ∧ Ext w w'
theorem RgO.row {w : World} {B S g : Nat} {cs cs' : Array Value} {k : Rg} (h : RgO w B S k) (hg : w.heap[g]? = some (.cells cs 55 (0, 0))) : RgO (w.setRow g cs') B S k :=
  ⟨⟨own_other h.b.own (grown_setRow _ _ _) (fun e => own_apart h.b.own hg (by decide) e.symm), h.b.small⟩, h.hs.grown (grown_setRow _ _ _) hg (by decide) (by decide)⟩
theorem RgO.nil (w : World) (B S : Nat) : RgO w B S Rg.zero := ⟨PtO.nil _ _ _, PtsO.nil _ _ _⟩
set_option maxRecDepth 100000 in
set_option maxHeartbeats 4000000 in
theorem reduce_any (k : Pt) (a0 : Option Addr) (c0 : Nat) (L : List Pt) (S : Nat) (w : World) (hk : PtI w S k) (hL : PtsI w S a0 c0 L) (hok : OkP k.P) (hol : ∀ q ∈ L, OkP q.P) (hS : S ≤ 1073741824) (hll : L.length ≤ 1073741824) :
    Calls Tryz.prog 55 #[k.v, .slice a0 L.length c0] w (RcO k.P (L.map Pt.P) S w) := by
  have HRD := Lib.hid fun w' (h : Ext w w') => Reduce_any k a0 c0 L S w' (hk.ext h) (hL.ext h) hok hol hS hll
  have HVO := Lib.hid fun (g : Rg) w' (hg : RgI w' S g) (h1 : g.b.P = k.P) (h2 : RedOk k.P (L.map Pt.P) (g.hs.map Pt.P)) => Void_any g.b g.a g.c g.hs S w' hg.b hg.hs hS (by rw [h1]; exact hok) (fun q hq => h2.ok q.P (List.mem_map_of_mem hq))
  clear hk hL hok hol
  obtain ⟨ka, kn, kc, kP⟩ := k
  obtain ⟨post, hpo⟩ : ∃ p : Ending → World → Prop, p = RcO kP (L.map Pt.P) S w := ⟨_, rfl⟩
  show Calls _ _ _ _ (RcO kP (L.map Pt.P) S w)
  rw [← hpo]
  have HPO := Lib.hid hpo
  have HX := Lib.hid (two_boxes w #[.slice ka kn kc, .bool kP.rest] #[.slice none 0 0, .bool false, .slice none 0 0] 39 55)
  clear hpo
  go_enter Tryz.func55, Tryz.ntmps55
  go_upto_region 1 with fail
  generalize (w.alloc (.cells #[.slice ka kn kc, .bool kP.rest] 39)).alloc (.cells #[.slice none 0 0, .bool false, .slice none 0 0] 55) = w2 at HX ⊢
  obtain ⟨hx2, hh1, hh2⟩ := HX.out
  have HX2 := Lib.hid hx2
  have HB2 := Lib.hid hh2
  have hr8 := (box2 hh1).2.2
  obtain ⟨b, hb⟩ : ∃ b, b = w.heap.size := ⟨_, rfl⟩
  rw [← hb] at HB2 hr8 ⊢
  have HBB := Lib.hid hb
  clear hx2 hh1 hh2 HX hb
  go_upto_region 2 with (first
    | ((with_reducible refine atSlot 8 ?_); refine wpList_of_wp rfl (wp_load_mid (op := ⟨some 8, _, _, _, _, _⟩) 39 _ rfl b 0 rfl [.slice ka kn kc, .bool kP.rest] _ hr8 Tryz.underlying39 rfl (by kernel_rfl) ?_); clear hr8)
    | (go_at_call 18; (with_reducible refine (HRD.out _ HX2.out).mono ?_); rintro en w5 ⟨⟨⟨da, dn, dc, dP⟩, ha, hc, D⟩, rfl, h7, h8, h9, hx5⟩; have HDP := Lib.hid (show dP = kP from h7); have HRE := Lib.hid h8; have HRO := Lib.hid h9; have HX5 := Lib.hid (HX2.out.trans' hx5); have HB5 := Lib.hid (hx5.heap' HB2.out); have HP5 := Lib.hid (put_new w5 #[.slice none 0 0, .bool false, .slice none 0 0] #[.slice da dn dc, .bool dP.rest, .slice ha D.length hc] 55); have hn5 := heap_alloc_new w5 (.cells #[.slice none 0 0, .bool false, .slice none 0 0] 55); clear h7 h8 h9 hx5)
    | ((with_reducible refine atStore 7 ?_); refine wpList_of_wp rfl (wp_store_row (o := ⟨none, _, _, _, _, _⟩) _ _ _ rfl w5.heap.size #[.slice da dn dc, .bool dP.rest, .slice ha D.length hc] rfl rfl _ _ hn5 (by kernel_rfl) rfl (by simp [Value.oneCell']) ?_); clear hn5)
    | fail)
  have HSB := Lib.hid (show w.heap.size ≤ w2.heap.size from HX2.out.size)
  have hD : D.length ≤ 1073741824 := by have := HRE.out.len; rw [List.length_map, List.length_map] at this; exact Nat.le_trans this hll
  generalize (w5.alloc (.cells #[.slice none 0 0, .bool false, .slice none 0 0] 55)).setRow w5.heap.size #[.slice da dn dc, .bool dP.rest, .slice ha D.length hc] = w6 at HP5 ⊢
  obtain ⟨hx6, hb6⟩ := HP5.out
  have HX6 := Lib.hid (HX5.out.trans' hx6)
  have HF6 := Lib.hid hb6
  have HB6 := Lib.hid (hx6.heap' HB5.out)
  have HR6 := Lib.hid (show RgO w6 w.heap.size S ⟨⟨da, dn, dc, dP⟩, ha, hc, D⟩ from (HRO.out.ext hx6).base HSB.out)
  have c12 := (box3 hb6).2.1
  have HG5 := Lib.hid (show b + 1 < w5.heap.size from (Array.getElem?_eq_some_iff.1 HB5.out).1)
  generalize w5.heap.size = g5 at HF6 HG5 c12 ⊢
  clear hx6 hb6 HP5 HRO HX5 HB5
  by_cases h64 : 64 < D.length
  · have h64' : (64 : Int) < (D.length : Int) := by omega
    go_wp2_with (first
      | ((with_reducible refine atStore 4 ?_); refine wpList_of_wp rfl (wp_store_row (o := ⟨none, _, _, _, _, _⟩) _ _ _ rfl (b + 1) #[.slice none 0 0, .bool false, .slice none 0 0] rfl rfl _ _ HB6.out (by kernel_rfl) rfl (by simp [Value.oneCell']) ?_))
      | fail)
    refine bodyPost_ret (results_c2 (ty := 55) rfl _ (b + 1) [.slice none 0 0, .bool false, .slice none 0 0] _ rfl (box3 (setRow_heap _ _ _ _ _ _ HB6.out)).2.2 Tryz.underlying55 rfl (by kernel_rfl)) rfl ?_
    rw [HPO.out]
    exact ⟨Rg.zero, false, 72, rfl, (fun h => by cases h), fun _ => rfl, RgO.nil _ _ _, HX6.out.setRow (by rw [HBB.out]; omega)⟩
  · have h64' : ¬ (64 : Int) < (D.length : Int) := by omega
    go_upto_region 4 with fail
    clear c12
    have E6 := Ext.drew' w6
    refine wp_region_z (fun w' => w'.heap[g5]? = some (.cells #[.slice da dn dc, .bool dP.rest, .slice ha D.length hc] 55)) (E6.heap' HF6.out) [] (.qs [0, 1, 2, 3, 4] (.l 5 (.qs [6] (.l 7 (.qs [8, 9] .nil))))) (by kernel_rfl) (by kernel_rfl) ?_
    refine wpZ_q rfl rfl (.agg #[.slice da dn dc, .bool dP.rest, .slice ha D.length hc]) (fun w' hx' => by obtain ⟨d0, d2, d3⟩ := box3 hx'; have d1 := d3 1 _ rfl; have d00 := d3 0 _ rfl; go_simp; try rfl) ?_
    go_simp
    ((refine wpZ_q rfl rfl _ (fun w' hx' => by go_simp; try rfl) ?_; go_simp))
    refine wpZ_q rfl rfl (.agg #[.slice da dn dc, .bool dP.rest]) (fun w' hx' => by obtain ⟨d0, d2, d3⟩ := box3 hx'; have d1 := d3 1 _ rfl; have d00 := d3 0 _ rfl; go_simp; try rfl) ?_
    go_simp
    ((refine wpZ_q rfl rfl _ (fun w' hx' => by go_simp; try rfl) ?_; go_simp))
    refine wpZ_q rfl rfl (.slice ha D.length hc) (fun w' hx' => by have d2 := (box3 hx').2.1; go_simp; try rfl) ?_
    go_simp
    refine wpZ_l rfl rfl ?_
    go_simp
    refine (HVO.out ⟨⟨da, dn, dc, dP⟩, ha, hc, D⟩ _ ((HR6.out.ext E6).i) HDP.out HRE.out).mono ?_
    rintro en w7 ⟨f, rfl, hf, hx7⟩
    have HF := Lib.hid (show f = true ↔ VoidT dP D from hf)
    have HX7 := Lib.hid (E6.trans' hx7)
    refine ⟨HX7.out.heap' HF6.out, ?_⟩
    have HB7 := Lib.hid (HX7.out.heap' HB6.out)
    clear hf hx7 E6
    go_simp
    ((refine wpZ_q rfl rfl _ (fun w' hx' => by go_simp; try rfl) ?_; go_simp))
    refine wpZ_l rfl rfl (wp_store_row _ _ _ rfl (b + 1) #[.slice da dn dc, .bool dP.rest, .slice ha D.length hc] rfl rfl _ _ HB7.out (by kernel_rfl) rfl (by simp [Value.oneCell']) ?_)
    have hg5 : g5 ≠ b + 1 := by have := HG5.out; omega
    refine ⟨fun _ => heap_keep (HX7.out.heap' HF6.out) (grown_setRow w7 (b + 1) _) hg5, ?_⟩
    go_simp
    iterate 2 ((refine wpZ_q rfl rfl _ (fun w' hx' => by go_simp; try rfl) ?_; go_simp))
    refine wpZ_nil ?_
    go_wp2
    refine bodyPost_ret (results_c2 (ty := 55) rfl _ (b + 1) [.slice da dn dc, .bool dP.rest, .slice ha D.length hc] _ rfl (box3 (setRow_heap _ _ _ _ _ _ HB7.out)).2.2 Tryz.underlying55 rfl (by kernel_rfl)) rfl ?_
    rw [HPO.out]
    refine ⟨⟨⟨da, dn, dc, dP⟩, ha, hc, D⟩, !f, 0, rfl, fun _ => ⟨HDP.out, HRE.out, ?_, by show D.length ≤ 64; omega⟩, fun h => absurd rfl h, (HR6.out.ext HX7.out).row HB7.out, (HX6.out.trans' HX7.out).setRow (by rw [HBB.out]; omega)⟩
    have h := HF.out
    rw [void_pats, HDP.out] at h
    show (!f) = true ↔ ¬ VoidP kP (D.map Pt.P)
    rw [← h]
    cases f <;> simp
end Go.Proofs.YtejljmikammcdaaGreatDoor
