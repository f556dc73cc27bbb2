/-
  Layer mapping: Check.
-/
import Derived.Test.YtejljmikammcdaaGreatDoorMaD
namespace Go.Proofs.YtejljmikammcdaaGreatDoor
open Go.RowKit

theorem owp_mk {P : Program} {w : World} {o : Oper} {f : Act} {K : Act → World → Prop} {Q : Exit → Act → World → Prop} (hgd : o.guard = none) (lO cO : Operand) {t : TypeId}
    (ho : o.op = .makeSlice t lO cO) {e s b : Nat} {z : Value} (E : Elem P t e s b z) (m k : Nat) {kl kc : IntKind} {L C : Int} (hl : f.eval lO = .int kl L) (hc : f.eval cO = .int kc C)
    (hL : L = (m : Int)) (hC : C = (k : Int)) (hmk : m ≤ k) (hb : b * k ≤ 281474976710656) (hm : k ≤ maxLen)
    (h : ∀ g w', w'.ownsRow w.heap.size e s (.slice (some ⟨g, 0, none⟩) m k) m (zeros z m s) → Ext w w' → K (f.put o.dst (.slice (some ⟨g, 0, none⟩) m k)) w') : o.wp P f w K Q :=
  owp_of_list (ops := #[]) hgd (wpList_mk hgd lO cO ho E m k hl hc hL hC hmk hb hm fun g w' h2 h3 => ⟨rfl, h g w' h2 h3⟩)
def Rg.cells (k : Rg) : List Value := [.slice k.b.a k.b.n k.b.c, .bool k.b.P.rest, .slice k.a k.hs.length k.c]
theorem rg_three (k : Rg) : k.cells.length = 3 := rfl
theorem rg_one (k : Rg) : ∀ v ∈ k.cells, v.oneCell' = true := fun v hv => by
  simp [Rg.cells] at hv
  rcases hv with rfl | rfl | rfl <;> rfl
abbrev Rg.zero : Rg := ⟨⟨none, 0, 0, ⟨[], false⟩⟩, none, 0, []⟩
theorem zeros_rg : ∀ n, zeros (.agg #[.slice none 0 0, .bool false, .slice none 0 0]) n 3 = (List.replicate n Rg.zero).flatMap Rg.cells
  | 0 => zeros_zero _ _
  | n + 1 => by
    have h1 := zeros_take (.agg #[.slice none 0 0, .bool false, .slice none 0 0]) n (n + 1) 3 (Nat.le_succ n)
    rw [← List.take_append_drop (n * 3) (zeros _ (n + 1) 3), h1, zeros_rg n, List.replicate_succ', List.flatMap_append]
    congr 1
    apply List.ext_getElem?
    intro i
    rw [List.getElem?_drop]
    by_cases hi : i < 3
    · have hm : (n * 3 + i) % 3 = i := by omega
      have hlt : n * 3 + i < (n + 1) * 3 := by omega
      simp [zeros, madeCells, hlt, Value.cells, hm]
      match i, hi with
      | 0, _ => rfl
      | 1, _ => rfl
      | 2, _ => rfl
    · rw [List.getElem?_eq_none (by rw [zeros_length]; omega), List.getElem?_eq_none (by simp [Rg.cells]; omega)]
theorem Tryz.elRg : Elem Tryz.prog 123 55 3 56 (.agg #[.slice none 0 0, .bool false, .slice none 0 0]) := ⟨Tryz.underlying123, by kernel_rfl, rfl, by decide⟩

def IsE (k : En) : Prop := OkR k.l.P k.r.P ∧ OkG k.l.P k.hs
def FitE (k : En) : Prop := FitsH k.l.P k.r.P (k.hs.map Pt.P)
def NoC (x y : En) : Prop := ¬ ComT x.l.P (x.hs.map Pt.P) y.l.P (y.hs.map Pt.P) ∧ ¬ ComT x.r.P (rightH x.l.P x.r.P (x.hs.map Pt.P)) y.r.P (rightH y.l.P y.r.P (y.hs.map Pt.P))
/-- mapping.Check, in memory's words. -/
structure OkMm (m : List En) : Prop where
  each : ∀ k ∈ m, IsE k
  len : m.length ≤ 32
  fits : ∀ k ∈ m, FitE k
  apart : ∀ (i j : Nat) x y, j < i → m[i]? = some x → m[j]? = some y → NoC x y
theorem okM_of {m : List En} : OkMm m ↔ OkM (m.map En.E) := by
  constructor
  · intro h
    refine ⟨fun e he => ?_, fun e he => ?_, by rw [List.length_map]; exact h.len, fun e he => ?_, fun i j x y hij hx hy => ?_⟩
    · obtain ⟨k, hk, rfl⟩ := List.mem_map.1 he
      obtain ⟨h1, h2, h3, h4⟩ := h.each k hk
      refine ⟨h1, fun p hp => ?_⟩
      obtain ⟨q, hq, rfl⟩ := List.mem_map.1 hp
      exact h3 q hq
    · obtain ⟨k, hk, rfl⟩ := List.mem_map.1 he
      obtain ⟨h1, h2, h3, h4⟩ := h.each k hk
      show (k.hs.map Pt.P).length ≤ 64
      rw [List.length_map]; exact h4
    · obtain ⟨k, hk, rfl⟩ := List.mem_map.1 he
      exact h.fits k hk
    · rw [List.getElem?_map, Option.map_eq_some_iff] at hx hy
      obtain ⟨x, hx, rfl⟩ := hx
      obtain ⟨y, hy, rfl⟩ := hy
      exact h.apart i j x y hij hx hy
  · intro h
    refine ⟨fun k hk => ?_, by have := h.len; rwa [List.length_map] at this, fun k hk => h.fits _ (List.mem_map_of_mem hk), fun i j x y hij hx hy => h.apart i j x.E y.E hij (by rw [List.getElem?_map, hx]; rfl) (by rw [List.getElem?_map, hy]; rfl)⟩
    have h1 := h.each _ (List.mem_map_of_mem hk)
    have h2 := h.small _ (List.mem_map_of_mem hk)
    refine ⟨h1.line, h1.line.left, fun q hq => h1.holes q.P (List.mem_map_of_mem hq), ?_⟩
    have h3 : (k.hs.map Pt.P).length ≤ 64 := h2
    rwa [List.length_map] at h3

/-- mapping.Check: what it answers. -/
def MckO (m : List En) (w : World) (en : Ending) (w' : World) : Prop := ∃ i e : Nat, en = .returned (.tuple #[.int .i64 (i : Nat), .int .i64 (e : Nat)]) ∧ (e = 0 ↔ OkMm m) ∧ Ext w w'
def M1Rel (w : World) (m : List En) (v17 : Value) (wr : World) : Prop := ∃ j : Nat, v17 = .int .i64 j ∧ j ≤ m.length ∧ (∀ i k, i < j → m[i]? = some k → IsE k) ∧ Ext w wr
/-- The rights of the entries ahead are there. -/
structure RtsI (w : World) (B S g : Nat) (m : List En) (j : Nat) (Rs : List Rg) : Prop where
  len : Rs.length = m.length
  own : w.ownsRow B 55 3 (.slice (some ⟨g, 0, none⟩) m.length m.length) m.length (Rs.flatMap Rg.cells)
  each : ∀ i x k, i < j → m[i]? = some x → Rs[i]? = some k → k.b = x.r ∧ k.hs.map Pt.P = rightH x.l.P x.r.P (x.hs.map Pt.P) ∧ PtsO w B (S + S) k.a k.c k.hs
theorem RtsI.ext {w w' : World} {B S g j : Nat} {m : List En} {Rs : List Rg} (h : RtsI w B S g m j Rs) (hx : Ext w w') : RtsI w' B S g m j Rs := ⟨h.len, own_ext h.own hx, fun i x k hi h1 h2 => by
  obtain ⟨a, b, c⟩ := h.each i x k hi h1 h2
  exact ⟨a, b, c.ext hx⟩⟩
def M2Rel (w : World) (S g : Nat) (m : List En) (v35 : Value) (wr : World) : Prop := ∃ (j : Nat) (Rs : List Rg), v35 = .int .i64 j ∧ j ≤ m.length ∧ RtsI wr w.heap.size S g m j Rs ∧ (∀ i k, i < j → m[i]? = some k → FitE k) ∧ Ext w wr
def M3Rel (w : World) (m : List En) (v55 : Value) (wr : World) : Prop := ∃ j : Nat, v55 = .int .i64 j ∧ j ≤ m.length ∧ (∀ i t x y, i < j → t < i → m[i]? = some x → m[t]? = some y → NoC x y) ∧ Ext w wr
def M4Rel (w : World) (m : List En) (x : En) (i : Nat) (v64 : Value) (wr : World) : Prop := ∃ t : Nat, v64 = .int .i64 t ∧ t ≤ i ∧ (∀ s y, s < t → m[s]? = some y → NoC x y) ∧ Ext w wr
theorem PtsO.grown {w w' : World} {B S c g : Nat} {a : Option Addr} {L : List Pt} {cs : Array Value} {t : TypeId} {fr : Nat × Nat} (h : PtsO w B S a c L) (hg : w.grownBy w' (some g)) (hc : w.heap[g]? = some (.cells cs t fr)) (h1 : t ≠ 9) (h2 : t ≠ 39) : PtsO w' B S a c L :=
  ⟨own_other h.own hg (fun e => own_apart h.own hc h2 e.symm), fun q hq => ⟨own_other (h.each q hq).own hg (fun e => own_apart (h.each q hq).own hc h1 e.symm), (h.each q hq).small⟩⟩
theorem rg_at {w : World} {b o i : Nat} {L : List Rg} {x : Rg} (hk : L[i]? = some x) (hc : ∀ j, j < 3 → w.cell? ⟨b, o + j, none⟩ = (L.flatMap Rg.cells)[i * 3 + j]?) :
    w.cell? ⟨b, o, none⟩ = some (.slice x.b.a x.b.n x.b.c) ∧ w.cell? ⟨b, o + 1, none⟩ = some (.bool x.b.P.rest) ∧ w.cell? ⟨b, o + 2, none⟩ = some (.slice x.a x.hs.length x.c) := by
  have h := flat_range rg_three hk hc
  have h0 := h 0 _ rfl
  rw [Nat.add_zero] at h0
  exact ⟨h0, h 1 _ rfl, h 2 _ rfl⟩
/-- The right region that is kept. -/
theorem RtsI.at_ {w w0 : World} {B S g : Nat} {m : List En} {Rs : List Rg} (h : RtsI w B S g m m.length Rs) (he : ∀ k ∈ m, IsE k) (hf : ∀ k ∈ m, FitE k) (hi : ∀ k ∈ m, EnI w0 S k) (hx : Ext w0 w) {i : Nat} {x : En} (hm : m[i]? = some x) :
    ∃ k, Rs[i]? = some k ∧ k.b.P = x.r.P ∧ k.hs.map Pt.P = rightH x.l.P x.r.P (x.hs.map Pt.P) ∧ (∀ q ∈ k.hs, OkP q.P) ∧ k.hs.length ≤ 64 ∧ RgI w (S + S) k := by
  have hil := (List.getElem?_eq_some_iff.1 hm).1
  obtain ⟨k, hk⟩ : ∃ k, Rs[i]? = some k := ⟨_, List.getElem?_eq_getElem (by rw [h.len]; exact hil)⟩
  obtain ⟨h1, h2, h3⟩ := h.each i x k hil hm hk
  have hmem := List.mem_of_getElem? hm
  refine ⟨k, hk, by rw [h1], h2, fun q hq => ?_, ?_, ⟨by rw [h1]; exact ((hi x hmem).r.ext hx).mono (Nat.le_add_right ..), h3.i⟩⟩
  · exact right_mem (he x hmem).1 (hf x hmem) q.P (by rw [← h2]; exact List.mem_map_of_mem hq)
  · have h4 : (k.hs.map Pt.P).length ≤ (x.hs.map Pt.P).length := by rw [h2]; exact right_len _ _ _
    rw [List.length_map, List.length_map] at h4
    have := (he x hmem).2.2.2
    omega
set_option maxRecDepth 100000 in
set_option maxHeartbeats 8000000 in
theorem MCheck_any (m : List En) (a : Option Addr) (c S : Nat) (w : World) (h : EnsI w S a c m) (hS : S ≤ 536870912) : Calls Tryz.prog 29 #[.slice a m.length c] w (MckO m w) := by
  have hmx : m.length ≤ 9223372036854775807 := by have h1 := h.row.max; have h2 := h.row.le; simp only [maxLen] at h1; omega
  have HROW := Lib.hid fun w' (hx : Ext w w') => h.row.ext hx
  have HEI := Lib.hid fun (k : En) (hk : k ∈ m) w' (hx : Ext w w') => isEntry_any k S w' ((h.each k hk).ext hx) (by omega)
  have HRG := Lib.hid fun (k : En) (hk : k ∈ m) (he : IsE k) w' (hx : Ext w w') => right_any k S w' ((h.each k hk).ext hx) (by omega) he.1 he.2.2.1 (by have := he.2.2.2; omega)
  have HEA := Lib.hid h.each
  obtain ⟨post, hpo⟩ : ∃ q : Ending → World → Prop, q = MckO m w := ⟨_, rfl⟩
  rw [← hpo]
  have HPO := Lib.hid hpo
  clear hpo h
  go_enter Tryz.func29, Tryz.ntmps29
  go_upto_region 2 with fail
  go_loopw [17] (M1Rel w m) (fun i _ => m.length - (intOf i).toNat)
  case atStart => exact ⟨0, rfl, Nat.zero_le _, (fun i k h => by omega), Below.refl _ _⟩
  case round =>
    obtain ⟨j, rfl, hj, hall, hx⟩ := hrel
    rename World => wd
    have HXD := Lib.hid (show Ext w wd from hx)
    have HALL := Lib.hid hall
    clear hx hall
    by_cases hjl : j < m.length
    · obtain ⟨k, hk⟩ : ∃ k, m[j]? = some k := ⟨_, List.getElem?_eq_getElem hjl⟩
      have HK := Lib.hid hk
      have HI := Lib.hid (HEI.out k (List.mem_of_getElem? hk))
      have hrow := HROW.out wd HXD.out
      have HPN := Lib.hid (put_new wd #[.slice none 0 0, .bool false, .slice none 0 0, .bool false, .slice none 0 0] #[.slice k.l.a k.l.n k.l.c, .bool k.l.P.rest, .slice k.r.a k.r.n k.r.c, .bool k.r.P.rest, .slice k.a k.hs.length k.c] 60)
      have HNN := heap_alloc_new wd (.cells #[.slice none 0 0, .bool false, .slice none 0 0, .bool false, .slice none 0 0] 60)
      have hr22 := (box5e HPN.out.2).2.2.2
      clear hk
      go_upto_if 24 with (first
        | ((with_reducible refine atSlot 20 ?_); refine wpList_of_wp rfl (owp_ix (o := ⟨some 20, _, _, _, _, _⟩) _ _ rfl Tryz.elEn rfl hrow j rfl rfl hjl ?_); intro b1 o1 hc2; have hd := flat_range en_five HK.out hc2; clear hc2 hrow)
        | ((with_reducible refine atSlot 21 ?_); refine wpList_of_wp rfl (wp_load_mid (op := ⟨some 21, _, _, _, _, _⟩) 60 _ rfl b1 o1 rfl [.slice k.l.a k.l.n k.l.c, .bool k.l.P.rest, .slice k.r.a k.r.n k.r.c, .bool k.r.P.rest, .slice k.a k.hs.length k.c] _ hd Tryz.underlying60 rfl (by kernel_rfl) ?_); clear hd)
        | ((with_reducible refine atStore 5 ?_); refine wpList_of_wp rfl (wp_store_row (o := ⟨none, _, _, _, _, _⟩) _ _ _ rfl wd.heap.size #[.slice k.l.a k.l.n k.l.c, .bool k.l.P.rest, .slice k.r.a k.r.n k.r.c, .bool k.r.P.rest, .slice k.a k.hs.length k.c] rfl rfl _ _ HNN (by kernel_rfl) rfl (by simp [Value.oneCell']) ?_); clear HNN)
        | ((with_reducible refine atSlot 22 ?_); refine wpList_of_wp rfl (wp_load_mid (op := ⟨some 22, _, _, _, _, _⟩) 60 _ rfl wd.heap.size 0 rfl [.slice k.l.a k.l.n k.l.c, .bool k.l.P.rest, .slice k.r.a k.r.n k.r.c, .bool k.r.P.rest, .slice k.a k.hs.length k.c] _ hr22 Tryz.underlying60 rfl (by kernel_rfl) ?_); clear hr22)
        | (go_at_call 60; (with_reducible refine (HI.out _ (HXD.out.trans' HPN.out.1)).mono ?_); rintro en we ⟨f, rfl, hf, hxe⟩; have HF := Lib.hid hf; have HXE := Lib.hid (HXD.out.trans' (HPN.out.1.trans' hxe)); clear hf hxe)
        | fail)
      cases f with
      | true =>
        have HE := Lib.hid (HF.out.1 (by first | rfl | trivial))
        go_wp2
        refine ⟨⟨j + 1, by go_num, hjl, fun i q hi hq => ?_, HXE.out⟩, by simp [intOf]; omega⟩
        by_cases h : i < j
        · exact HALL.out i q h hq
        · obtain rfl : i = j := by omega
          rw [HK.out] at hq; cases hq; exact HE.out
      | false =>
        have HE := Lib.hid (show ¬ IsE k from fun h => by have := HF.out.2 h; cases this)
        go_wp2
        rw [HPO.out]
        exact ⟨j, 70, rfl, ⟨(fun h => by cases h), fun h => absurd (h.each k (List.mem_of_getElem? HK.out)) HE.out⟩, HXE.out⟩
    · have HEV := Lib.hid (show ∀ k ∈ m, IsE k from fun k hk => by
        obtain ⟨i, hi⟩ := List.getElem?_of_mem hk
        exact HALL.out i k (by have := (List.getElem?_eq_some_iff.1 hi).1; omega) hi)
      clear HALL HEI
      by_cases h32 : 32 < m.length
      · have h32' : (32 : Int) < (m.length : Int) := by omega
        go_wp2
        rw [HPO.out]
        exact ⟨0, 72, rfl, ⟨(fun h => by cases h), fun h => absurd h.len (by omega)⟩, HXD.out⟩
      have h32' : ¬ (32 : Int) < (m.length : Int) := by omega
      have hml : m.length ≤ 32 := by omega
      go_upto_region 10 with (first
        | ((with_reducible refine atSlot 32 ?_); refine wpList_of_wp rfl (owp_mk (o := ⟨some 32, _, _, _, _, _⟩) rfl _ _ rfl Tryz.elRg m.length m.length rfl rfl rfl rfl (Nat.le_refl _) (by omega) (by unfold maxLen; omega) ?_); intro g w2 ho2 hx2; rw [zeros_rg] at ho2)
        | fail)
      have HX2 := Lib.hid (HXD.out.trans' hx2)
      have HO2 := Lib.hid (own_base ho2 HXD.out.size)
      clear ho2 hx2 h32 h32'
      go_upto_region 11 with fail
      go_loopw [35] (M2Rel w S g m) (fun i _ => m.length - (intOf i).toNat)
      case atStart => exact ⟨0, List.replicate m.length Rg.zero, rfl, Nat.zero_le _, ⟨List.length_replicate, HO2.out, fun i x k h => by omega⟩, (fun i k h => by omega), HX2.out⟩
      case round =>
        obtain ⟨i, Rs, rfl, hi, hR, hfit, hx⟩ := hrel
        rename World => we
        have HXE := Lib.hid (show Ext w we from hx)
        have HR := Lib.hid hR
        have HFI := Lib.hid hfit
        clear hx hR hfit
        by_cases hil : i < m.length
        · obtain ⟨k, hk⟩ : ∃ k, m[i]? = some k := ⟨_, List.getElem?_eq_getElem hil⟩
          have HK := Lib.hid hk
          have HKM := Lib.hid (List.mem_of_getElem? hk)
          have HI := Lib.hid (HRG.out k HKM.out (HEV.out k HKM.out))
          have hrow := HROW.out we HXE.out
          have HPN := Lib.hid (put_new we #[.slice none 0 0, .bool false, .slice none 0 0, .bool false, .slice none 0 0] #[.slice k.l.a k.l.n k.l.c, .bool k.l.P.rest, .slice k.r.a k.r.n k.r.c, .bool k.r.P.rest, .slice k.a k.hs.length k.c] 60)
          have HNN := heap_alloc_new we (.cells #[.slice none 0 0, .bool false, .slice none 0 0, .bool false, .slice none 0 0] 60)
          have hr41 := (box5e HPN.out.2).2.2.2
          clear hk
          go_upto_region 14 with (first
            | ((with_reducible refine atSlot 38 ?_); refine wpList_of_wp rfl (owp_ix (o := ⟨some 38, _, _, _, _, _⟩) _ _ rfl Tryz.elEn rfl hrow i rfl rfl hil ?_); intro b1 o1 hc2; have hd := flat_range en_five HK.out hc2; clear hc2 hrow)
            | ((with_reducible refine atSlot 39 ?_); refine wpList_of_wp rfl (wp_load_mid (op := ⟨some 39, _, _, _, _, _⟩) 60 _ rfl b1 o1 rfl [.slice k.l.a k.l.n k.l.c, .bool k.l.P.rest, .slice k.r.a k.r.n k.r.c, .bool k.r.P.rest, .slice k.a k.hs.length k.c] _ hd Tryz.underlying60 rfl (by kernel_rfl) ?_); clear hd)
            | ((with_reducible refine atStore 8 ?_); refine wpList_of_wp rfl (wp_store_row (o := ⟨none, _, _, _, _, _⟩) _ _ _ rfl we.heap.size #[.slice k.l.a k.l.n k.l.c, .bool k.l.P.rest, .slice k.r.a k.r.n k.r.c, .bool k.r.P.rest, .slice k.a k.hs.length k.c] rfl rfl _ _ HNN (by kernel_rfl) rfl (by simp [Value.oneCell']) ?_); clear HNN)
            | ((with_reducible refine atSlot 41 ?_); refine wpList_of_wp rfl (wp_load_mid (op := ⟨some 41, _, _, _, _, _⟩) 60 _ rfl we.heap.size 0 rfl [.slice k.l.a k.l.n k.l.c, .bool k.l.P.rest, .slice k.r.a k.r.n k.r.c, .bool k.r.P.rest, .slice k.a k.hs.length k.c] _ hr41 Tryz.underlying60 rfl (by kernel_rfl) ?_); clear hr41)
            | (go_at_call 22; (with_reducible refine (HI.out _ (HXE.out.trans' HPN.out.1)).mono ?_); rintro en w5 ⟨⟨⟨ba, bn, bc, bP⟩, da, dc, D⟩, e, rfl, h2, h3, h4, hx5⟩; have H2 := Lib.hid h2; have H3 := Lib.hid h3; have H4 := Lib.hid h4; have HX5 := Lib.hid (HPN.out.1.trans' hx5); have HP5 := Lib.hid (put_new w5 #[.slice none 0 0, .bool false, .slice none 0 0] #[.slice ba bn bc, .bool bP.rest, .slice da D.length dc] 55); have hn5 := heap_alloc_new w5 (.cells #[.slice none 0 0, .bool false, .slice none 0 0] 55); clear h2 h3 h4 hx5)
            | ((with_reducible refine atStore 9 ?_); refine wpList_of_wp rfl (wp_store_row (o := ⟨none, _, _, _, _, _⟩) _ _ _ rfl w5.heap.size #[.slice ba bn bc, .bool bP.rest, .slice da D.length dc] rfl rfl _ _ hn5 (by kernel_rfl) rfl (by simp [Value.oneCell']) ?_); clear hn5)
            | fail)
          have HSZ := Lib.hid (show w.heap.size ≤ ((we.alloc (.cells #[.slice none 0 0, .bool false, .slice none 0 0, .bool false, .slice none 0 0] 60)).setRow we.heap.size #[.slice k.l.a k.l.n k.l.c, .bool k.l.P.rest, .slice k.r.a k.r.n k.r.c, .bool k.r.P.rest, .slice k.a k.hs.length k.c]).heap.size from (HXE.out.trans' HPN.out.1).size)
          generalize (w5.alloc (.cells #[.slice none 0 0, .bool false, .slice none 0 0] 55)).setRow w5.heap.size #[.slice ba bn bc, .bool bP.rest, .slice da D.length dc] = w6 at HP5 ⊢
          obtain ⟨hx6, hb6⟩ := HP5.out
          have HX6 := Lib.hid (HX5.out.trans' hx6)
          have HX06 := Lib.hid (HXE.out.trans' HX6.out)
          have HD := Lib.hid (show PtsO w6 w.heap.size (S + S) da dc D from (PtsO.base H4.out HSZ.out).ext hx6)
          have hr50 := (box3 hb6).2.2
          generalize w5.heap.size = g5 at hr50 ⊢
          clear hx6 hb6 HP5 HX5 H4
          by_cases he0 : e = 0
          · subst he0
            obtain ⟨hb, hma⟩ := H3.out rfl
            have HFK := Lib.hid (show FitE k from H2.out.1 rfl)
            have hR6 := HR.out.ext HX6.out
            have HB := Lib.hid hb
            have HMA := Lib.hid hma
            have HR6 := Lib.hid hR6
            clear hb hma hR6 H2 H3
            go_wp2_with (first
              | ((with_reducible refine atSlot 50 ?_); refine wpList_of_wp rfl (wp_load_mid (op := ⟨some 50, _, _, _, _, _⟩) 55 _ rfl g5 0 rfl [.slice ba bn bc, .bool bP.rest, .slice da D.length dc] _ hr50 Tryz.underlying55 rfl (by kernel_rfl) ?_); clear hr50)
              | ((with_reducible refine atSlot 51 ?_); refine wpList_of_wp rfl (owp_ixp1 (o := ⟨some 51, _, _, _, _, _⟩) _ _ rfl Tryz.elRg rfl i rfl rfl hil ?_))
              | ((with_reducible refine atStore 51 ?_); refine wpList_of_wp rfl (wp_store_mid (op := ⟨none, _, _, _, _, _⟩) 55 _ _ rfl g (i * 3) (Rg.cells ⟨⟨ba, bn, bc, bP⟩, da, dc, D⟩).toArray rfl rfl (own_there HR6.out.own (by show i * 3 + 3 ≤ m.length * 3; omega)) (by kernel_rfl) (all_oneCell_toArray (rg_one ⟨⟨ba, bn, bc, bP⟩, da, dc, D⟩)) ?_))
              | fail)
            have hgr := grown_setCells g (Rg.cells ⟨⟨ba, bn, bc, bP⟩, da, dc, D⟩) (i * 3) w6
            obtain ⟨cur, hcur⟩ := own_heap HR6.out.own (b := g) rfl
            have ho7 := own_setCells (Rg.cells ⟨⟨ba, bn, bc, bP⟩, da, dc, D⟩) (i * 3) _ _ HR6.out.own (by rw [rg_three]; omega)
            rw [flat_set rg_three Rs i ⟨⟨ba, bn, bc, bP⟩, da, dc, D⟩ (by rw [HR6.out.len]; exact hil)] at ho7
            refine ⟨⟨i + 1, Rs.set i ⟨⟨ba, bn, bc, bP⟩, da, dc, D⟩, by go_num, hil, ⟨by rw [List.length_set]; exact HR6.out.len, ho7, fun t x q ht hx hq => ?_⟩, fun t q ht hq => ?_, Ext.rd HX06.out hgr (own_block HR6.out.own g rfl).1⟩, by simp [intOf]; omega⟩
            · by_cases h : t < i
              · rw [List.getElem?_set_ne (by omega)] at hq
                obtain ⟨h1, h2, h3⟩ := HR6.out.each t x q h hx hq
                exact ⟨h1, h2, h3.grown hgr hcur (by decide) (by decide)⟩
              · obtain rfl : t = i := by omega
                rw [HK.out] at hx; cases hx
                rw [List.getElem?_set_self (by rw [HR6.out.len]; exact hil)] at hq; cases hq
                exact ⟨HB.out, HMA.out, HD.out.grown hgr hcur (by decide) (by decide)⟩
            · by_cases h : t < i
              · exact HFI.out t q h hq
              · obtain rfl : t = i := by omega
                rw [HK.out] at hq; cases hq; exact HFK.out
          · obtain ⟨q1, q2⟩ := neI (x := (e : Int)) (y := 0) (by omega)
            go_wp2
            rw [HPO.out]
            exact ⟨0, e, rfl, ⟨fun h => absurd h he0, fun h => H2.out.2 (h.fits k HKM.out)⟩, HX06.out⟩
        · have HFT := Lib.hid (show ∀ k ∈ m, FitE k from fun k hk => by
            obtain ⟨t, ht⟩ := List.getElem?_of_mem hk
            exact HFI.out t k (by have := (List.getElem?_eq_some_iff.1 ht).1; omega) ht)
          have hiL : i = m.length := by omega
          rw [hiL] at HR
          clear HFI hiL
          go_upto_region 19 with fail
          go_loopw [55] (M3Rel we m) (fun i _ => m.length - (intOf i).toNat)
          case atStart => exact ⟨0, rfl, Nat.zero_le _, (fun i t x y h => by omega), Below.refl _ _⟩
          case round =>
            obtain ⟨l, rfl, hl, hap, hx⟩ := hrel
            rename World => wf
            have HXF := Lib.hid (show Ext we wf from hx)
            have HXF0 := Lib.hid (HXE.out.trans' HXF.out)
            have HAP := Lib.hid hap
            clear hx hap
            by_cases hlm : l < m.length
            · obtain ⟨x, hx⟩ : ∃ x, m[l]? = some x := ⟨_, List.getElem?_eq_getElem hlm⟩
              have HX := Lib.hid hx
              have HXM := Lib.hid (List.mem_of_getElem? hx)
              have hrow := HROW.out wf HXF0.out
              have HPN := Lib.hid (put_new wf #[.slice none 0 0, .bool false, .slice none 0 0, .bool false, .slice none 0 0] #[.slice x.l.a x.l.n x.l.c, .bool x.l.P.rest, .slice x.r.a x.r.n x.r.c, .bool x.r.P.rest, .slice x.a x.hs.length x.c] 60)
              have HNN := heap_alloc_new wf (.cells #[.slice none 0 0, .bool false, .slice none 0 0, .bool false, .slice none 0 0] 60)
              have hrow2 := HROW.out _ (HXF0.out.trans' HPN.out.1)
              clear hx
              go_upto_region 22 with (first
                | ((with_reducible refine atSlot 58 ?_); refine wpList_of_wp rfl (owp_ix (o := ⟨some 58, _, _, _, _, _⟩) _ _ rfl Tryz.elEn rfl hrow l rfl rfl hlm ?_); intro b1 o1 hc2; have hd := flat_range en_five HX.out hc2; clear hc2 hrow)
                | ((with_reducible refine atSlot 59 ?_); refine wpList_of_wp rfl (wp_load_mid (op := ⟨some 59, _, _, _, _, _⟩) 60 _ rfl b1 o1 rfl [.slice x.l.a x.l.n x.l.c, .bool x.l.P.rest, .slice x.r.a x.r.n x.r.c, .bool x.r.P.rest, .slice x.a x.hs.length x.c] _ hd Tryz.underlying60 rfl (by kernel_rfl) ?_); clear hd)
                | ((with_reducible refine atStore 12 ?_); refine wpList_of_wp rfl (wp_store_row (o := ⟨none, _, _, _, _, _⟩) _ _ _ rfl wf.heap.size #[.slice x.l.a x.l.n x.l.c, .bool x.l.P.rest, .slice x.r.a x.r.n x.r.c, .bool x.r.P.rest, .slice x.a x.hs.length x.c] rfl rfl _ _ HNN (by kernel_rfl) rfl (by simp [Value.oneCell']) ?_); clear HNN)
                | ((with_reducible refine atSlot 62 ?_); refine wpList_of_wp rfl (owp_sl_hi (o := ⟨some 62, _, _, _, _, _⟩) _ _ rfl Tryz.elEn rfl hrow2 l rfl rfl hl ?_); intro a2 hr2; rw [flat_take en_five] at hr2; have HR2 := Lib.hid hr2; clear hr2 hrow2)
                | fail)
              generalize (wf.alloc (.cells #[.slice none 0 0, .bool false, .slice none 0 0, .bool false, .slice none 0 0] 60)).setRow wf.heap.size #[.slice x.l.a x.l.n x.l.c, .bool x.l.P.rest, .slice x.r.a x.r.n x.r.c, .bool x.r.P.rest, .slice x.a x.hs.length x.c] = wg at HPN HR2 ⊢
              obtain ⟨hxg, hbg⟩ := HPN.out
              have HXG := Lib.hid (HXF.out.trans' hxg)
              have HBG := Lib.hid hbg
              generalize wf.heap.size = gx at HBG ⊢
              clear hxg hbg HPN
              go_loopw [64] (M4Rel wg m x l) (fun t _ => l - (intOf t).toNat)
              case atStart => exact ⟨0, rfl, Nat.zero_le _, (fun s y h => by omega), Below.refl _ _⟩
              case round =>
                obtain ⟨t, rfl, ht, hno, hx⟩ := hrel
                rename World => wh
                have HXH := Lib.hid (show Ext wg wh from hx)
                have HNO := Lib.hid hno
                clear hx hno
                by_cases htl : t < l
                · obtain ⟨y, hy⟩ : ∃ y, m[t]? = some y := ⟨_, List.getElem?_eq_getElem (by omega)⟩
                  have HY := Lib.hid hy
                  have HYM := Lib.hid (List.mem_of_getElem? hy)
                  have hyt : (m.take l)[t]? = some y := by rw [List.getElem?_take_of_lt htl]; exact hy
                  have hrow := HR2.out.ext HXH.out
                  have HPN := Lib.hid (put_new wh #[.slice none 0 0, .bool false, .slice none 0 0, .bool false, .slice none 0 0] #[.slice y.l.a y.l.n y.l.c, .bool y.l.P.rest, .slice y.r.a y.r.n y.r.c, .bool y.r.P.rest, .slice y.a y.hs.length y.c] 60)
                  have HNN := heap_alloc_new wh (.cells #[.slice none 0 0, .bool false, .slice none 0 0, .bool false, .slice none 0 0] 60)
                  clear hy
                  go_upto_region 24 with (first
                    | ((with_reducible refine atSlot 67 ?_); refine wpList_of_wp rfl (owp_ix (o := ⟨some 67, _, _, _, _, _⟩) _ _ rfl Tryz.elEn rfl hrow t rfl rfl htl ?_); intro b1 o1 hc2; have hd := flat_range en_five hyt hc2; clear hc2 hrow)
                    | ((with_reducible refine atSlot 68 ?_); refine wpList_of_wp rfl (wp_load_mid (op := ⟨some 68, _, _, _, _, _⟩) 60 _ rfl b1 o1 rfl [.slice y.l.a y.l.n y.l.c, .bool y.l.P.rest, .slice y.r.a y.r.n y.r.c, .bool y.r.P.rest, .slice y.a y.hs.length y.c] _ hd Tryz.underlying60 rfl (by kernel_rfl) ?_); clear hd)
                    | ((with_reducible refine atStore 14 ?_); refine wpList_of_wp rfl (wp_store_row (o := ⟨none, _, _, _, _, _⟩) _ _ _ rfl wh.heap.size #[.slice y.l.a y.l.n y.l.c, .bool y.l.P.rest, .slice y.r.a y.r.n y.r.c, .bool y.r.P.rest, .slice y.a y.hs.length y.c] rfl rfl _ _ HNN (by kernel_rfl) rfl (by simp [Value.oneCell']) ?_); clear HNN)
                    | fail)
                  generalize (wh.alloc (.cells #[.slice none 0 0, .bool false, .slice none 0 0, .bool false, .slice none 0 0] 60)).setRow wh.heap.size #[.slice y.l.a y.l.n y.l.c, .bool y.l.P.rest, .slice y.r.a y.r.n y.r.c, .bool y.r.P.rest, .slice y.a y.hs.length y.c] = wi at HPN ⊢
                  obtain ⟨hxi, hbi⟩ := HPN.out
                  have HXI := Lib.hid (HXH.out.trans' hxi)
                  have HXI0 := Lib.hid (HXE.out.trans' (HXG.out.trans' HXI.out))
                  have HBI := Lib.hid hbi
                  generalize wh.heap.size = gy at HBI ⊢
                  clear hxi hbi HPN
                  have E8 := Ext.drew' wi
                  have HR8 := Lib.hid (show Ext wi wi.drew from E8)
                  have HQX := Lib.hid fun w' (h : Ext wi w') => (HXI.out.trans' h).heap' HBG.out
                  have HQY := Lib.hid fun w' (h : Ext wi w') => h.heap' HBI.out
                  have HRT := Lib.hid fun w' (h : Ext wi w') => HR.out.ext (HXG.out.trans' (HXI.out.trans' h))
                  have HW8 := Lib.hid fun w' (h : Ext wi w') => (HXI0.out.trans' h : Ext w w')
                  obtain ⟨kx, hkx, hx1, hx2, hx3, hx4, hx5⟩ := (HRT.out wi (Below.refl _ _)).at_ HEV.out HFT.out HEA.out (HW8.out wi (Below.refl _ _)) HX.out
                  obtain ⟨ky, hky, hy1, hy2, hy3, hy4, hy5⟩ := (HRT.out wi (Below.refl _ _)).at_ HEV.out HFT.out HEA.out (HW8.out wi (Below.refl _ _)) HY.out
                  have HKX := Lib.hid hkx
                  have HKY := Lib.hid hky
                  have HC1 := Lib.hid fun w' (h : Ext wi w') => common_any x.left y.left S w' ((HEA.out x HXM.out).ext (HW8.out w' h)).left ((HEA.out y HYM.out).ext (HW8.out w' h)).left (by omega) (HEV.out x HXM.out).2.2.1 (HEV.out y HYM.out).2.2.1
                    (by have := (HEV.out x HXM.out).2.2.2; show x.hs.length ≤ _; omega) (by have := (HEV.out y HYM.out).2.2.2; show y.hs.length ≤ _; omega)
                  have HC2 := Lib.hid fun w' (h : Ext wi w') => common_any kx ky (S + S) w' (hx5.ext h) (hy5.ext h) (by omega) hx3 hy3 (by omega) (by omega)
                  have HLX := Lib.hid fun w' => left_any x w'
                  have HLY := Lib.hid fun w' => left_any y w'
                  have HNC := Lib.hid (show (ComT kx.b.P (kx.hs.map Pt.P) ky.b.P (ky.hs.map Pt.P)) = ComT x.r.P (rightH x.l.P x.r.P (x.hs.map Pt.P)) y.r.P (rightH y.l.P y.r.P (y.hs.map Pt.P)) by rw [hx1, hx2, hy1, hy2])
                  have HNF := Lib.hid (show ∀ h : OkMm m, NoC x y from fun h => h.apart l t x y htl HX.out HY.out)
                  clear E8 hkx hky hx1 hx2 hx3 hx4 hx5 hy1 hy2 hy3 hy4 hy5 hyt
                  refine wp_region_z (fun w' => Ext wi w') HR8.out [] (.qs [0, 2] (.l 1 (.l 3 (.l 4 (.qs [5, 6, 7, 8, 9, 10, 11, 12, 13] (.l 14 (.qs [15] .nil))))))) (by kernel_rfl) (by kernel_rfl) ?_
                  refine wpZ_q rfl rfl (.agg #[.slice x.l.a x.l.n x.l.c, .bool x.l.P.rest, .slice x.r.a x.r.n x.r.c, .bool x.r.P.rest, .slice x.a x.hs.length x.c]) (fun w' hx' => by obtain ⟨d0, d1, d2, d3, d4⟩ := box5c (HQX.out w' hx'); go_simp; try rfl) ?_
                  go_simp
                  refine wpZ_q rfl rfl (.agg #[.slice y.l.a y.l.n y.l.c, .bool y.l.P.rest, .slice y.r.a y.r.n y.r.c, .bool y.r.P.rest, .slice y.a y.hs.length y.c]) (fun w' hx' => by obtain ⟨d0, d1, d2, d3, d4⟩ := box5c (HQY.out w' hx'); go_simp; try rfl) ?_
                  go_simp
                  refine wpZ_l rfl rfl ?_
                  go_simp
                  refine (HLX.out _).mono ?_
                  rintro en wa1 ⟨rfl, hxa1⟩
                  have HY1 := Lib.hid (HR8.out.trans' hxa1)
                  refine ⟨HY1.out, ?_⟩
                  clear hxa1
                  go_simp
                  refine wpZ_l rfl rfl ?_
                  go_simp
                  refine (HLY.out _).mono ?_
                  rintro en wa2 ⟨rfl, hxa2⟩
                  have HY2 := Lib.hid (HY1.out.trans' hxa2)
                  refine ⟨HY2.out, ?_⟩
                  clear hxa2
                  go_simp
                  refine wpZ_l rfl rfl ?_
                  go_simp
                  refine (HC1.out _ HY2.out).mono ?_
                  rintro en wa3 ⟨f, rfl, hf, hxa3⟩
                  have HF := Lib.hid (show f = true ↔ ComT x.l.P (x.hs.map Pt.P) y.l.P (y.hs.map Pt.P) from hf)
                  have HY3 := Lib.hid (HY2.out.trans' hxa3)
                  refine ⟨HY3.out, ?_⟩
                  clear hxa3 hf
                  go_simp
                  cases f with
                  | true =>
                    have HBD := Lib.hid (show ¬ OkMm m from fun h => (HNF.out h).1 (HF.out.1 (by first | rfl | trivial)))
                    iterate 9 (first | ((refine wpZ_q rfl rfl _ (fun w' hx' => by go_simp; try rfl) ?_; go_simp)) | ((refine wpZ_skip rfl rfl ?_; go_simp)))
                    refine wpZ_lskip rfl rfl ?_
                    go_simp
                    iterate 1 (first | ((refine wpZ_q rfl rfl _ (fun w' hx' => by go_simp; try rfl) ?_; go_simp)) | ((refine wpZ_skip rfl rfl ?_; go_simp)))
                    refine wpZ_nil ?_
                    go_wp2
                    rw [HPO.out]
                    exact ⟨l, 71, rfl, ⟨(fun h => by cases h), fun h => absurd h HBD.out⟩, HW8.out _ HY3.out⟩
                  | false =>
                    have HG1 := Lib.hid (show ¬ ComT x.l.P (x.hs.map Pt.P) y.l.P (y.hs.map Pt.P) from fun h => by have := HF.out.2 h; cases this)
                    ((refine wpZ_q rfl rfl _ (fun w' hx' => by go_simp; try rfl) ?_; go_simp))
                    ((refine wpZ_q rfl rfl _ (fun w' hx' => by go_simp; try rfl) ?_; go_simp))
                    ((refine wpZ_q rfl rfl _ (fun w' hx' => by go_simp; try rfl) ?_; go_simp))
                    refine wpZ_ix rfl rfl (.tmp 75) (.tmp 76) rfl Tryz.elRg rfl (fun w' h => Row.of_own (HRT.out w' h).own) HY3.out l rfl rfl hlm ?_
                    intro b4 o4 hc4
                    have HC4 := Lib.hid hc4
                    clear hc4
                    go_simp
                    refine wpZ_q rfl rfl kx.v (fun w' hx' => by obtain ⟨d0, d1, d2⟩ := rg_at HKX.out (fun i hi => HC4.out i hi w' hx'); go_simp; try rfl) ?_
                    go_simp
                    ((refine wpZ_q rfl rfl _ (fun w' hx' => by go_simp; try rfl) ?_; go_simp))
                    ((refine wpZ_q rfl rfl _ (fun w' hx' => by go_simp; try rfl) ?_; go_simp))
                    refine wpZ_ix rfl rfl (.tmp 79) (.tmp 80) rfl Tryz.elRg rfl (fun w' h => Row.of_own (HRT.out w' h).own) HY3.out t rfl rfl (Nat.lt_trans htl hlm) ?_
                    intro b5 o5 hc5
                    have HC5 := Lib.hid hc5
                    clear hc5
                    go_simp
                    refine wpZ_q rfl rfl ky.v (fun w' hx' => by obtain ⟨d0, d1, d2⟩ := rg_at HKY.out (fun i hi => HC5.out i hi w' hx'); go_simp; try rfl) ?_
                    go_simp
                    refine wpZ_l rfl rfl ?_
                    go_simp
                    refine (HC2.out _ HY3.out).mono ?_
                    rintro en wa4 ⟨f2, rfl, hf2, hxa4⟩
                    rw [HNC.out] at hf2
                    have HF2 := Lib.hid hf2
                    have HY4 := Lib.hid (HY3.out.trans' hxa4)
                    refine ⟨HY4.out, ?_⟩
                    clear hxa4 hf2
                    go_simp
                    iterate 1 (first | ((refine wpZ_q rfl rfl _ (fun w' hx' => by go_simp; try rfl) ?_; go_simp)) | ((refine wpZ_skip rfl rfl ?_; go_simp)))
                    refine wpZ_nil ?_
                    cases f2 with
                    | true =>
                      have HBD := Lib.hid (show ¬ OkMm m from fun h => (HNF.out h).2 (HF2.out.1 (by first | rfl | trivial)))
                      go_wp2
                      rw [HPO.out]
                      exact ⟨l, 71, rfl, ⟨(fun h => by cases h), fun h => absurd h HBD.out⟩, HW8.out _ HY4.out⟩
                    | false =>
                      have HG2 := Lib.hid (show NoC x y from ⟨HG1.out, fun h => by have := HF2.out.2 h; cases this⟩)
                      go_wp2
                      refine ⟨⟨t + 1, by go_num, htl, fun s z hs hz => ?_, HXI.out.trans' HY4.out⟩, by simp [intOf]; omega⟩
                      by_cases h : s < t
                      · exact HNO.out s z h hz
                      · obtain rfl : s = t := by omega
                        rw [HY.out] at hz; cases hz; exact HG2.out
                · go_wp2
                  refine ⟨⟨l + 1, by go_num, hlm, fun i' t' x' y' h1 h2 h3 h4 => ?_, HXG.out.trans' HXH.out⟩, by simp [intOf]; omega⟩
                  by_cases h : i' < l
                  · exact HAP.out i' t' x' y' h h2 h3 h4
                  · obtain rfl : i' = l := by omega
                    rw [HX.out] at h3; cases h3
                    exact HNO.out t' y' (by omega) h4
            · go_wp2
              rw [HPO.out]
              exact ⟨0, 0, rfl, ⟨fun _ => ⟨HEV.out, hml, HFT.out, fun i' t' x' y' h1 h2 h3 => HAP.out i' t' x' y' (by have := (List.getElem?_eq_some_iff.1 h2).1; omega) h1 h2 h3⟩, fun _ => rfl⟩, HXF0.out⟩
end Go.Proofs.YtejljmikammcdaaGreatDoor
