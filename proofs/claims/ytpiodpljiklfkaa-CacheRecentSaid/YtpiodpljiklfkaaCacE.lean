/-
  Caches: IDs.
-/
import Derived.Test.YtpiodpljiklfkaaCacC
import Derived.Deep.CutRange
import Derived.LaidEql
namespace Go.Proofs.Ytpiodpljiklfkaa
open Go.RowKit Go.WideMaps

theorem Try.elId : Elem Try.prog 33 45 2 16 (.agg #[.int .u64 0, .int .i64 0]) := ⟨Try.underlying33, by kernel_rfl, rfl, by decide⟩
def idCells (k : Nat × Int) : List Value := [.int .u64 k.1, .int .i64 k.2]
theorem id_one (l : List (Nat × Int)) : ∀ u ∈ l.flatMap idCells, u.oneCell' = true := by
  intro u hu
  obtain ⟨k, -, hk⟩ := List.mem_flatMap.1 hu
  simp only [idCells, List.mem_cons, List.not_mem_nil, or_false] at hk
  rcases hk with rfl | rfl <;> rfl
/-- A list of IDs in new memory. -/
def IdsO (w : World) (l : List (Nat × Int)) (en : Ending) (w' : World) : Prop :=
  ∃ (a : Option Addr) (n cp : Nat), en = .returned (.slice a n cp) ∧ n = l.length ∧ w'.ownsRow w.heap.size 45 2 (.slice a n cp) n (l.flatMap idCells) ∧ Ext w w'
theorem size_count {E : List En} (h : ∀ x ∈ E, 0 < x.l.length) : E.length ≤ sizeF E := by
  induction E with
  | nil => exact Nat.le_refl _
  | cons x E ih =>
    have h1 := h x (List.mem_cons_self ..)
    have h2 := ih fun y hy => h y (List.mem_cons_of_mem _ hy)
    simp only [List.length_cons, sizeF]
    omega
theorem OkE.count {room : Nat} {E : List En} (h : OkE room E) : E.length ≤ room := Nat.le_trans (size_count fun x hx => (h.right x hx).2.1) h.fits
theorem Ca.count {w : World} {B c m e room : Nat} {N : Nat → Nd} {L : List Nat} (h : Ca w B c m e room N L) : L.length ≤ 1048576 := by
  have h1 := h.ok.count
  have h2 := h.max
  simp only [ents, List.length_map] at h1
  omega
theorem run_neq_ptr {P : Program} {w : World} {t te : TypeId} {j : TypeInfo} {x y : Nat} {cx cy : Array Value} {tx ty : TypeId} (hp : P.underlying t = some (.pointer te)) (hte : P.info? te = some j) (hsz : j.size ≠ 0)
    (hx : w.heap[x]? = some (.cells cx tx (0, 0))) (hy : w.heap[y]? = some (.cells cy ty (0, 0))) :
    (binOp .neq t (.pointer (some ⟨x, 0, none⟩)) (.pointer (some ⟨y, 0, none⟩))).run P w = .ok (.bool (decide (x ≠ y))) w := by
  have h1 : ∀ d : Nat, (Op.equalIn (d + 1) t (.pointer (some ⟨x, 0, none⟩)) (.pointer (some ⟨y, 0, none⟩))).run P w = .ok (decide (x = y)) w := fun d => by
    by_cases h : x = y
    · subst h
      simp [Op.equalIn, run_underlying hp, sizeOf, typeInfo, hte, run_sameAddr_same]
    · have hs := run_sameAddr_other (P := P) w (a := ⟨x, 0, none⟩) (b := ⟨y, 0, none⟩) (fun e => h (congrArg Addr.block e)) hx hy
      simp [Op.equalIn, run_underlying hp, sizeOf, typeInfo, hte, hsz, hs, h]
  have h2 : (Op.equal t (.pointer (some ⟨x, 0, none⟩)) (.pointer (some ⟨y, 0, none⟩))).run P w = .ok (decide (x = y)) w := h1 9999
  simp only [binOp]
  simp [h2]
theorem Try.neq_node {w : World} {x y : Nat} {nx ny : Nd} (hx : NodeAt w x nx) (hy : NodeAt w y ny) : (binOp .neq 77 (.pointer (some ⟨x, 0, none⟩)) (.pointer (some ⟨y, 0, none⟩))).run Try.prog w = .ok (.bool (decide (x ≠ y))) w := by
  obtain ⟨i, hi, hs⟩ : ∃ i, (Try.prog).info? 81 = some i ∧ i.size ≠ 0 := by
    have h : ((Try.prog).info? 81).map (·.size) = some 6 := by kernel_rfl
    cases h1 : (Try.prog).info? 81 with
    | none => rw [h1] at h; cases h
    | some i => rw [h1] at h; exact ⟨i, rfl, by simp at h; omega⟩
  exact run_neq_ptr Try.underlying77 hi hs hx hy
def IdRel (w : World) (N : Nat → Nd) (e : Nat) (L : List Nat) (q : Nat) (out p : Value) (wr : World) : Prop :=
  ∃ (A D : List Nat) (a : Option Addr) (cp x : Nat), L = A ++ D ∧ q = D.length ∧ x = (D ++ [e]).headD 0 ∧ p = .pointer (some ⟨x, 0, none⟩) ∧ out = .slice a A.length cp ∧ wr.ownsRow w.heap.size 45 2 (.slice a A.length cp) A.length (((ents N A).map En.id).flatMap idCells) ∧ Ext w wr

set_option maxRecDepth 100000 in
set_option maxHeartbeats 4000000 in
theorem IDs_any (B c room : Nat) (E : List En) (F : List Nat) (w : World) (h : Cac w B c room E F) :
    Calls Try.prog 16 #[.pointer (some ⟨c, 0, none⟩)] w (IdsO w (E.map En.id)) := by
  obtain ⟨m, e, N, L, hC, rfl, rfl⟩ := h
  have hb := hC.box.ends
  have he := (hC.nodes e (by simp)).next
  rw [hC.ring.head] at he
  have HC := Lib.hid hC
  obtain ⟨x0, hx0⟩ : ∃ x0, x0 = (L ++ [e]).headD 0 := ⟨_, rfl⟩
  rw [← hx0] at he
  have HX0 := Lib.hid hx0
  clear hC hx0
  go_enter Try.func16, Try.ntmps16
  go_wp2
  go_loopg [3, 4] L.length (IdRel w N e L)
  case atStart => exact ⟨[], L, none, 0, x0, rfl, rfl, HX0.out, rfl, rfl, own_nil _ _ _ _, Below.refl _ _⟩
  case round =>
    obtain ⟨A, D, a, cp, x, hAD, hq, hxe, rfl, rfl, ho, hx⟩ := hrel
    rename World => w1
    have hb1 := (HC.out.ext hx).box.ends
    have HQ := Lib.hid hq
    have HAD := Lib.hid hAD
    have HO := Lib.hid ho
    clear hq hAD ho hb he
    cases D with
    | nil =>
      obtain rfl : x = e := by simpa using hxe
      clear hxe
      have hfin : A = L := by have := HAD.out; simpa using this.symm
      have HF := Lib.hid hfin
      have hnn := ((HC.out.ext hx).nodes x (by simp))
      have hne := Try.neq_node hnn hnn
      rw [decide_eq_false (by simp)] at hne
      clear hfin hnn
      go_wp2
      go_ret
      exact ⟨a, A.length, cp, rfl, by rw [HF.out]; simp [ents], by rw [← HF.out]; exact HO.out, hx⟩
    | cons y D =>
      obtain rfl : x = y := by simpa using hxe
      clear hxe
      have hxe : x ≠ e := by
        rintro rfl
        have := HC.out.nodup
        rw [HAD.out] at this
        simp at this
      have hnx := (HC.out.ext hx).nodes x (by rw [HAD.out]; simp)
      have hne := Try.neq_node hnx ((HC.out.ext hx).nodes e (by simp))
      rw [decide_eq_true hxe] at hne
      have hn1 : (N x).next = (D ++ [e]).headD 0 := by
        have h := HC.out.ring
        rw [HAD.out] at h
        exact h.at_
      have hcn := hnx.next
      rw [hn1] at hcn
      obtain ⟨y, hy⟩ : ∃ y, y = (D ++ [e]).headD 0 := ⟨_, rfl⟩
      rw [← hy] at hcn
      have hid := hnx.id
      have hal := Ext.alloc' w1 (.cells #[.int .u64 (N x).s, .int .i64 (N x).z] 45)
      have hAl : A.length ≤ 1048576 := by
        have h := HC.out.count
        rw [HAD.out, List.length_append] at h
        omega
      have HY := Lib.hid hy
      have HN1 := Lib.hid (show (N x).next = y by rw [hn1, hy])
      have HS := hx.size
      have HNX := Lib.hid hnx
      clear hn1 hxe hy hnx
      go_wp2_with (first
        | ((with_reducible refine atSlot 26 ?_); refine wpList_of_wp rfl (wp_load_mid (op := ⟨some 26, _, _, _, _, _⟩) 45 _ rfl x 2 rfl [.int .u64 (N x).s, .int .i64 (N x).z] _ hid Try.underlying45 rfl (by kernel_rfl) ?_); clear hid)
        | ((with_reducible refine atSlot 28 ?_); refine wpList_of_wp rfl (owp_app (o := ⟨some 28, _, _, _, _, _⟩) _ _ rfl Try.elId rfl (own_ext HO.out hal) rfl (Row.new w1 #[.int .u64 (N x).s, .int .i64 (N x).z] 45 1 2 rfl (by decide)) (id_one [((N x).s, (N x).z)]) (by omega) (by unfold maxLen; omega) (Nat.le_trans HS hal.size) ?_); intro a2 c2 w2 ho2 hg2; have hx2 := below_app (hx.trans' hal) (own_ext HO.out hal) hg2 (Nat.le_trans HS hal.size); have hcn2 := ((HC.out.ext hx2).nodes x (by rw [HAD.out]; simp)).next; rw [HN1.out] at hcn2; have HO2 := Lib.hid ho2; clear ho2 hg2)
        | fail)
      go_roundg D.length
      case measure => have := HQ.out; simp at this; omega
      case rel =>
        refine ⟨A ++ [x], D, a2, c2, y, by rw [HAD.out]; simp, rfl, HY.out, rfl, by simp, ?_, hx2⟩
        rw [List.length_append]
        have h := HO2.out
        simp only [ents, List.map_append, List.flatMap_append, List.map_cons, List.map_nil, List.flatMap_cons, List.flatMap_nil, List.append_nil] at h ⊢
        exact h
end Go.Proofs.Ytpiodpljiklfkaa
