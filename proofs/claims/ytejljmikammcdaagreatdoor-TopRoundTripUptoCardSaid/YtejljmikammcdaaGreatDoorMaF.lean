/-
  Layer mapping: check, Forward.
-/
import Derived.Test.YtejljmikammcdaaGreatDoorMaE
namespace Go.Proofs.YtejljmikammcdaaGreatDoor
open Go.RowKit

/-- A mapping in memory. -/
structure Ml where
  a : Option Addr
  c : Nat
  L : List En
abbrev Ml.v (x : Ml) : Value := .slice x.a x.L.length x.c
theorem Tryz.elMl : Elem Tryz.prog 114 24 1 24 (.slice none 0 0) := ⟨Tryz.underlying114, by kernel_rfl, rfl, by decide⟩
def MkcO (Ms : List Ml) (w : World) (en : Ending) (w' : World) : Prop := ∃ e : Nat, en = .returned (.int .i64 (e : Nat)) ∧ (e = 0 ↔ ∀ x ∈ Ms, OkMm x.L) ∧ Ext w w'
def McRel (w : World) (Ms : List Ml) (v9 : Value) (wr : World) : Prop := ∃ j : Nat, v9 = .int .i64 j ∧ j ≤ Ms.length ∧ (∀ i x, i < j → Ms[i]? = some x → OkMm x.L) ∧ Ext w wr
set_option maxRecDepth 100000 in
set_option maxHeartbeats 4000000 in
theorem mcheck_any (Ms : List Ml) (p : Option Addr) (cp S : Nat) (w : World) (hr : Row w p Ms.length cp 1 (Ms.map Ml.v)) (hx : ∀ x ∈ Ms, EnsI w S x.a x.c x.L) (hl : Ms.length ≤ 1048576) (hS : S ≤ 536870912) :
    Calls Tryz.prog 21 #[.slice p Ms.length cp] w (MkcO Ms w) := by
  have HROW := Lib.hid fun w' (h : Ext w w') => hr.ext h
  have HCK := Lib.hid fun x (hm : x ∈ Ms) w' (h : Ext w w') => MCheck_any x.L x.a x.c S w' ((hx x hm).ext h) hS
  obtain ⟨post, hpo⟩ : ∃ q : Ending → World → Prop, q = MkcO Ms w := ⟨_, rfl⟩
  rw [← hpo]
  have HPO := Lib.hid hpo
  clear hpo hr hx
  go_enter Tryz.func21, Tryz.ntmps21
  go_upto_region 2 with fail
  go_loopw [9] (McRel w Ms) (fun i _ => Ms.length - (intOf i).toNat)
  case atStart => exact ⟨0, rfl, Nat.zero_le _, (fun i x h => by omega), Below.refl _ _⟩
  case round =>
    obtain ⟨j, rfl, hj, hall, hx⟩ := hrel
    rename World => wd
    have HXD := Lib.hid (show Ext w wd from hx)
    have HALL := Lib.hid hall
    clear hx hall
    by_cases hjl : j < Ms.length
    · obtain ⟨x, hx⟩ : ∃ x, Ms[j]? = some x := ⟨_, List.getElem?_eq_getElem hjl⟩
      have HX := Lib.hid hx
      have HC := Lib.hid (HCK.out x (List.mem_of_getElem? hx))
      have hrow := HROW.out wd HXD.out
      clear hx
      go_upto_region 5 with (first
        | ((with_reducible refine atSlot 11 ?_); refine wpList_of_wp rfl (owp_ix (o := ⟨some 11, _, _, _, _, _⟩) _ _ rfl Tryz.elMl rfl hrow j rfl rfl hjl ?_); intro b1 o1 hc2; have hd := (show wd.cell? ⟨b1, o1, none⟩ = some x.v from by have h := hc2 0 (by decide); rw [Nat.add_zero] at h; rw [h, Nat.mul_one, Nat.add_zero, List.getElem?_map, HX.out]; rfl); clear hc2 hrow)
        | (go_at_call 29; (with_reducible refine (HC.out _ HXD.out).mono ?_); rintro en w2 ⟨i, e, rfl, h2, hx2⟩; have H2 := Lib.hid h2; have HX2 := Lib.hid (HXD.out.trans' hx2); clear h2 hx2)
        | fail)
      by_cases he0 : e = 0
      · subst he0
        have HO := Lib.hid (H2.out.1 rfl)
        go_wp2
        refine ⟨⟨j + 1, by go_num, hjl, fun i q hi hq => ?_, HX2.out⟩, by simp [intOf]; omega⟩
        by_cases h : i < j
        · exact HALL.out i q h hq
        · obtain rfl : i = j := by omega
          rw [HX.out] at hq; cases hq; exact HO.out
      · obtain ⟨q1, q2⟩ := neI (x := (e : Int)) (y := 0) (by omega)
        go_wp2
        rw [HPO.out]
        exact ⟨e, rfl, ⟨fun h => absurd h he0, fun h => H2.out.2 (h x (List.mem_of_getElem? HX.out))⟩, HX2.out⟩
    · go_wp2
      rw [HPO.out]
      refine ⟨0, rfl, ⟨fun _ x hx => ?_, fun _ => rfl⟩, HXD.out⟩
      obtain ⟨i, hi⟩ := List.getElem?_of_mem hx
      exact HALL.out i x (by have := (List.getElem?_eq_some_iff.1 hi).1; omega) hi

/-- A path that a pattern matches. -/
theorem mat_iff {P : Pat} {s : Str} (h : OkP P) : MatT P s ↔ ∃ xs, PathOk xs ∧ s = pathS xs ∧ P.has xs = true := by
  unfold MatT matchS
  rw [if_pos (okP_of.2 h)]
  constructor
  · intro h2
    cases hs : splitP s with
    | none => rw [hs] at h2; cases h2
    | some xs =>
      obtain ⟨h3, h4⟩ := splitP_some hs
      refine ⟨xs, h3, h4, ?_⟩
      rw [hs, Option.bind_some, Option.isSome_map, capt_isSome] at h2
      exact h2
  · rintro ⟨xs, h2, rfl, h3⟩
    rw [splitP_path h2, Option.bind_some, Option.isSome_map, capt_isSome]
    exact h3
theorem has_iffT {B : Pat} {L : List Pt} {s : Str} (hb : OkP B) (hl : ∀ q ∈ L, OkP q.P) : HasT B L s ↔ ∃ xs, PathOk xs ∧ s = pathS xs ∧ B.has xs = true ∧ anyHas (L.map Pt.P) xs = false := by
  unfold HasT
  rw [mat_iff hb]
  constructor
  · rintro ⟨⟨xs, h1, rfl, h2⟩, h3⟩
    refine ⟨xs, h1, rfl, h2, ?_⟩
    unfold anyHas
    rw [List.any_eq_false]
    intro p hp hh
    obtain ⟨q, hq, rfl⟩ := List.mem_map.1 hp
    exact h3 ⟨q, hq, (mat_iff (hl q hq)).2 ⟨xs, h1, rfl, hh⟩⟩
  · rintro ⟨xs, h1, rfl, h2, h3⟩
    refine ⟨⟨xs, h1, rfl, h2⟩, ?_⟩
    rintro ⟨q, hq, hm⟩
    obtain ⟨ys, h4, h5, h6⟩ := (mat_iff (hl q hq)).1 hm
    obtain rfl := pathS_inj h1 h4 h5
    unfold anyHas at h3
    rw [List.any_eq_false] at h3
    exact h3 q.P (List.mem_map_of_mem hq) h6

/-- mapping.Forward: what it answers, of a mapping that passes its check. -/
def FwRel (w : World) (m : List En) (s : Str) (v14 : Value) (wr : World) : Prop := ∃ j : Nat, v14 = .int .i64 j ∧ j ≤ m.length ∧ (∀ i k, i < j → m[i]? = some k → ¬ HasT k.l.P k.hs s) ∧ Ext w wr
theorem OkMm.okE {m : List En} (h : OkMm m) {k : En} (hk : k ∈ m) : OkE k.E := (okM_of.1 h).each _ (List.mem_map_of_mem hk)
set_option maxRecDepth 100000 in
set_option maxHeartbeats 4000000 in
theorem MForward_any (m : List En) (a : Option Addr) (c S T : Nat) (s : Str) (w : World) (h : EnsI w S a c m) (hS : S ≤ 536870912) (hs : s.length ≤ T) (hT : T ≤ 1073741824) (hok : OkMm m) :
    Calls Tryz.prog 11 #[.slice a m.length c, .string (bs s)] w (TrO (relM (m.map En.E)) s S T w) := by
  have HROW := Lib.hid fun w' (hx : Ext w w') => h.row.ext hx
  have HCK := Lib.hid fun (p : Option Addr) w' (hx : Ext w w') (hr : Row w' p 1 1 1 [.slice a m.length c]) => (show Calls Tryz.prog 21 #[.slice p 1 1] w' (NewNone (.int .i64 0) w') from
    (mcheck_any [⟨a, c, m⟩] p 1 S w' hr (fun x hx' => by
      obtain rfl : x = ⟨a, c, m⟩ := by simpa using hx'
      exact h.ext hx) (by simp) hS).mono fun en w'' hh => by
      obtain ⟨e, h1, h2, h3⟩ := hh
      obtain rfl : e = 0 := h2.2 (fun x hx' => by
        obtain rfl : x = ⟨a, c, m⟩ := by simpa using hx'
        exact hok)
      exact ⟨h1, h3⟩)
  have HLI := Lib.hid fun (k : En) w' => line_any k w'
  have HLE := Lib.hid fun (k : En) w' => left_any k w'
  have HHA := Lib.hid fun (k : En) (hk : k ∈ m) w' (hx : Ext w w') => Has_any k.left s S w' (((h.each k hk).ext hx).left) (by omega) (by omega) (hok.each k hk).2
  have HFO := Lib.hid fun (k : En) (hk : k ∈ m) w' (hx : Ext w w') => RForward_any k.line S T s w' (((h.each k hk).ext hx).line) (by omega) hs hT (hok.each k hk).1
  have HHI := Lib.hid fun (k : En) (hk : k ∈ m) (ht : HasT k.l.P k.hs s) (u : Str) (b : Bool) (hf : FwdOk (rel k.l.P k.r.P) s u b) => (show FwdOk (relM (m.map En.E)) s u b from
    fwd_hit (List.mem_map_of_mem hk) (hok.okE hk) ((has_iffT (hok.each k hk).2.1 (hok.each k hk).2.2.1).1 ht) hf)
  have HNO := Lib.hid fun (hn : ∀ k ∈ m, ¬ HasT k.l.P k.hs s) => (show FwdOk (relM (m.map En.E)) s [] false from fwd_none fun e he xs hx hsx hh => by
    obtain ⟨k, hk, rfl⟩ := List.mem_map.1 he
    exact hn k hk ((has_iffT (hok.each k hk).2.1 (hok.each k hk).2.2.1).2 ⟨xs, hx, hsx, hh⟩))
  have hmx : m.length ≤ 32 := hok.len
  obtain ⟨R, hR⟩ : ∃ R, R = relM (m.map En.E) := ⟨_, rfl⟩
  rw [← hR] at HHI HNO ⊢
  obtain ⟨post, hpo⟩ : ∃ q : Ending → World → Prop, q = TrO R s S T w := ⟨_, rfl⟩
  rw [← hpo]
  have HPO := Lib.hid hpo
  have HAL := Lib.hid (Ext.alloc' w (.cells #[.slice a m.length c] 24))
  have HRW := Lib.hid (Row.new w #[.slice a m.length c] 24 1 1 rfl (by decide))
  clear hpo hR h hok hs
  go_enter Tryz.func11, Tryz.ntmps11
  go_upto_region 4 with (first
    | (go_at_call 21; (with_reducible refine (HCK.out _ _ HAL.out HRW.out).mono ?_); rintro en w2 ⟨rfl, hx2⟩; have HX2 := Lib.hid (HAL.out.trans' hx2); clear hx2)
    | fail)
  go_loopw [14] (FwRel w m s) (fun i _ => m.length - (intOf i).toNat)
  case atStart => exact ⟨0, rfl, Nat.zero_le _, (fun i k h => by omega), HX2.out⟩
  case round =>
    obtain ⟨j, rfl, hj, hall, hx⟩ := hrel
    rename World => wd
    have HXD := Lib.hid (show Ext w wd from hx)
    have HALL := Lib.hid hall
    clear hx hall
    by_cases hjl : j < m.length
    · obtain ⟨k, hk⟩ : ∃ k, m[j]? = some k := ⟨_, List.getElem?_eq_getElem hjl⟩
      have HK := Lib.hid hk
      have HKM := Lib.hid (List.mem_of_getElem? hk)
      have HH := Lib.hid (HHA.out k HKM.out)
      have HF := Lib.hid (HFO.out k HKM.out)
      have HL1 := Lib.hid (HLI.out k)
      have HL2 := Lib.hid (HLE.out k)
      have hrow := HROW.out wd HXD.out
      have HPN := Lib.hid (put_new wd #[.slice none 0 0, .bool false, .slice none 0 0, .bool false, .slice none 0 0] #[.slice k.l.a k.l.n k.l.c, .bool k.l.P.rest, .slice k.r.a k.r.n k.r.c, .bool k.r.P.rest, .slice k.a k.hs.length k.c] 60)
      have HNN := heap_alloc_new wd (.cells #[.slice none 0 0, .bool false, .slice none 0 0, .bool false, .slice none 0 0] 60)
      have hr18 := (box5e HPN.out.2).2.2.2
      clear hk
      go_upto_if 21 with (first
        | ((with_reducible refine atSlot 16 ?_); refine wpList_of_wp rfl (owp_ix (o := ⟨some 16, _, _, _, _, _⟩) _ _ rfl Tryz.elEn rfl hrow j rfl rfl hjl ?_); intro b1 o1 hc2; have hd := flat_range en_five HK.out hc2; clear hc2 hrow)
        | ((with_reducible refine atSlot 17 ?_); refine wpList_of_wp rfl (wp_load_mid (op := ⟨some 17, _, _, _, _, _⟩) 60 _ rfl b1 o1 rfl [.slice k.l.a k.l.n k.l.c, .bool k.l.P.rest, .slice k.r.a k.r.n k.r.c, .bool k.r.P.rest, .slice k.a k.hs.length k.c] _ hd Tryz.underlying60 rfl (by kernel_rfl) ?_); clear hd)
        | ((with_reducible refine atStore 7 ?_); refine wpList_of_wp rfl (wp_store_row (o := ⟨none, _, _, _, _, _⟩) _ _ _ rfl wd.heap.size #[.slice k.l.a k.l.n k.l.c, .bool k.l.P.rest, .slice k.r.a k.r.n k.r.c, .bool k.r.P.rest, .slice k.a k.hs.length k.c] rfl rfl _ _ HNN (by kernel_rfl) rfl (by simp [Value.oneCell']) ?_); clear HNN)
        | ((with_reducible refine atSlot 18 ?_); refine wpList_of_wp rfl (wp_load_mid (op := ⟨some 18, _, _, _, _, _⟩) 60 _ rfl wd.heap.size 0 rfl [.slice k.l.a k.l.n k.l.c, .bool k.l.P.rest, .slice k.r.a k.r.n k.r.c, .bool k.r.P.rest, .slice k.a k.hs.length k.c] _ hr18 Tryz.underlying60 rfl (by kernel_rfl) ?_); clear hr18)
        | (go_at_call 31; (with_reducible refine (HL2.out _).mono ?_); rintro en w4 ⟨rfl, hx4⟩; have HX4 := Lib.hid (HPN.out.1.trans' hx4); have HB4 := Lib.hid (hx4.heap' HPN.out.2); clear hx4)
        | (go_at_call 30; (with_reducible refine (HH.out _ (HXD.out.trans' HX4.out)).mono ?_); rintro en w5 ⟨f, rfl, hf, hx5⟩; have HF1 := Lib.hid (show f = true ↔ HasT k.l.P k.hs s from hf); have HX5 := Lib.hid (HXD.out.trans' (HX4.out.trans' hx5)); have hr22 := (box5e (hx5.heap' HB4.out)).2.2.2; clear hf hx5)
        | fail)
      cases f with
      | true =>
        have HT := Lib.hid (HF1.out.1 (by first | rfl | trivial))
        go_wp2_with (first
          | ((with_reducible refine atSlot 22 ?_); refine wpList_of_wp rfl (wp_load_mid (op := ⟨some 22, _, _, _, _, _⟩) 60 _ rfl wd.heap.size 0 rfl [.slice k.l.a k.l.n k.l.c, .bool k.l.P.rest, .slice k.r.a k.r.n k.r.c, .bool k.r.P.rest, .slice k.a k.hs.length k.c] _ hr22 Tryz.underlying60 rfl (by kernel_rfl) ?_); clear hr22)
          | (go_at_call 27; (with_reducible refine (HL1.out _).mono ?_); rintro en w6 ⟨rfl, hx6⟩; have HX6 := Lib.hid (HX5.out.trans' hx6); clear hx6)
          | (go_at_call 32; (with_reducible refine (HF.out _ HX6.out).mono ?_); rintro en w7 ⟨u, b, rfl, h1, h2, hx7⟩; have H1 := Lib.hid h1; have H2 := Lib.hid h2; have HX7 := Lib.hid (HX6.out.trans' hx7); clear h1 h2 hx7)
          | fail)
        rw [HPO.out]
        exact ⟨u, b, rfl, HHI.out k HKM.out HT.out u b H1.out, H2.out, HX7.out⟩
      | false =>
        have HT := Lib.hid (show ¬ HasT k.l.P k.hs s from fun h => by have := HF1.out.2 h; cases this)
        clear hr22
        go_wp2
        refine ⟨⟨j + 1, by go_num, hjl, fun i q hi hq => ?_, HX5.out⟩, by simp [intOf]; omega⟩
        by_cases h : i < j
        · exact HALL.out i q h hq
        · obtain rfl : i = j := by omega
          rw [HK.out] at hq; cases hq; exact HT.out
    · go_wp2
      rw [HPO.out]
      refine ⟨[], false, rfl, HNO.out fun k hk => ?_, Nat.zero_le _, HXD.out⟩
      obtain ⟨i, hi⟩ := List.getElem?_of_mem hk
      exact HALL.out i k (by have := (List.getElem?_eq_some_iff.1 hi).1; omega) hi
end Go.Proofs.YtejljmikammcdaaGreatDoor
