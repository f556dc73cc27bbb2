/-
  The reference's caches: Pins, IDs.
-/
import Derived.Test.YtpiodpljiklfkaaRefC
namespace Go.Proofs.Ytpiodpljiklfkaa
open Go.RowKit

theorem re_pins {w : World} {b o i : Nat} {L : List Re} {k : Re} (hk : L[i]? = some k) (hc : ∀ j, j < 4 → w.cell? ⟨b, o + j, none⟩ = (L.flatMap Re.cells)[i * 4 + j]?) : w.cell? ⟨b, o + 3, none⟩ = some (.int .i64 k.p) :=
  re_range hk hc 3 _ rfl
theorem atI_none {k : Nat × Int} {E : List En} (h : atF k E = none) : atI k E = -1 := by unfold atI; rw [h]
theorem atI_some {k : Nat × Int} {E : List En} {i : Nat} (h : atF k E = some i) : atI k E = (i : Int) := by unfold atI; rw [h]
theorem re_at {L : List Re} {k : Nat × Int} {i : Nat} (h : atF k (L.map Re.en) = some i) : ∃ y, L[i]? = some y ∧ (y.s, y.z) = k := by
  obtain ⟨x, hx, he, -⟩ := atF_some h
  rw [List.getElem?_map] at hx
  obtain ⟨y, hy, rfl⟩ := Option.map_eq_some_iff.1 hx
  exact ⟨y, hy, he⟩

set_option maxRecDepth 100000 in
set_option maxHeartbeats 4000000 in
theorem Pins38_any (B room : Nat) (a : Option Addr) (n c : Nat) (L : List Re) (s : Nat) (z : Int) (w : World) (h : Rc w B room a n c L) :
    Calls Try.prog 35 #[.agg #[.int .i64 room, .slice a n c], .agg #[.int .u64 s, .int .i64 z]] w (NewNone (.int .i64 (pinsC (L.map Re.en) (s, z) : Nat)) w) := by
  have hln := h.len
  have hfew := h.few
  have HL := Lib.hid hln
  have hx1 := boxed_ext w room a n c s z
  have HX := Lib.hid hx1
  have hh1 := boxed_one w room a n c s z
  have hh2 := boxed_two w room a n c s z
  have HR := Lib.hid (h.ext hx1)
  clear hln h
  go_enter Try.func35, Try.ntmps35
  go_upto_region 1 with fail
  change Code.wp _ _ _ _ (boxed w room a n c s z)
  generalize boxed w room a n c s z = w2 at hx1 hh1 hh2 HX HR ⊢
  have r1 := range_of_heap2 hh1
  have r2 := range_of_heap2 hh2
  have HB := Lib.hid fun w' (h : Ext w2 w') => cell_of_row w' w.heap.size 1 _ _ _ (h.heap' hh1)
  clear hx1 hh1 hh2
  go_upto_region 2 with (first
    | ((with_reducible refine atSlot 6 ?_); refine wpList_of_wp rfl (wp_load_mid (op := ⟨some 6, _, _, _, _, _⟩) 28 _ rfl w.heap.size 0 rfl [.int .i64 room, .slice a n c] _ r1 Try.underlying28 rfl (by kernel_rfl) ?_); clear r1)
    | ((with_reducible refine atSlot 7 ?_); refine wpList_of_wp rfl (wp_load_mid (op := ⟨some 7, _, _, _, _, _⟩) 45 _ rfl (w.heap.size + 1) 0 rfl [.int .u64 s, .int .i64 z] _ r2 Try.underlying45 rfl (by kernel_rfl) ?_); clear r2)
    | (go_at_call 50; (with_reducible refine (At38_any B room a n c L s z _ HR.out).mono ?_); rintro en w3 ⟨rfl, hx3⟩)
    | fail)
  have hcb := HB.out w3 hx3
  cases hat : atF (s, z) (L.map Re.en) with
  | none =>
    have hv : pinsC (L.map Re.en) (s, z) = 0 := by unfold pinsC; rw [hat]
    rw [atI_none hat]
    have HV := Lib.hid hv
    clear hat hv
    go_wp2
    go_ret
    exact ⟨by rw [HV.out]; rfl, HX.out.trans' hx3⟩
  | some i =>
    obtain ⟨y, hy, -⟩ := re_at hat
    have hv : pinsC (L.map Re.en) (s, z) = y.p := by unfold pinsC; rw [hat]; simp only; rw [List.getElem?_map, hy]; rfl
    have hin : i < n := by have := (List.getElem?_eq_some_iff.1 hy).1; have := HL.out; omega
    rw [atI_some hat]
    have HV := Lib.hid hv
    have HY := Lib.hid hy
    have HR3 := Lib.hid (HR.out.row.ext hx3)
    clear hat hv hy
    go_wp2_with (first
      | ((with_reducible refine atSlot 14 ?_); refine wpList_of_wp rfl (owp_ix (o := ⟨some 14, _, _, _, _, _⟩) _ _ rfl Try.elRe rfl HR3.out i rfl rfl hin ?_); intro b3 o3 hc3; have hp3 := re_pins HY.out hc3; clear hc3)
      | fail)
    go_ret
    exact ⟨by rw [HV.out]; rfl, HX.out.trans' hx3⟩

def Re.id (k : Re) : Nat × Int := (k.s, k.z)
theorem re_ids (L : List Re) : (L.map Re.en).map En.id = L.map Re.id := by rw [List.map_map]; rfl
def RIdRel (w2 : World) (n : Nat) (L : List Re) (out i : Value) (wr : World) : Prop :=
  ∃ (j cp : Nat) (a : Option Addr), i = .int .i64 j ∧ j ≤ n ∧ out = .slice a j cp ∧ wr.ownsRow w2.heap.size 45 2 (.slice a j cp) j (((L.take j).map Re.id).flatMap idCells) ∧ Ext w2 wr

set_option maxRecDepth 100000 in
set_option maxHeartbeats 4000000 in
theorem refIDs38_any (B room : Nat) (a : Option Addr) (n c : Nat) (L : List Re) (w : World) (h : Rc w B room a n c L) :
    Calls Try.prog 52 #[.agg #[.int .i64 room, .slice a n c]] w (IdsO w ((L.map Re.en).map En.id)) := by
  have hln := h.len
  have hfew := h.few
  have HL := Lib.hid hln
  have hx1 := Ext.alloc' w (.cells #[.int .i64 room, .slice a n c] 28)
  have HX := Lib.hid hx1
  have hh1 := heap_alloc_new w (.cells #[.int .i64 room, .slice a n c] 28)
  have HR := Lib.hid (h.row.ext hx1)
  clear hln h
  go_enter Try.func52, Try.ntmps52
  go_upto_region 1 with fail
  generalize w.alloc (.cells #[.int .i64 room, .slice a n c] 28) = w2 at hx1 hh1 HX HR ⊢
  have HB := Lib.hid fun w' (h : Ext w2 w') => cell_of_row w' w.heap.size 1 _ _ _ (h.heap' hh1)
  have hsz := hx1.size
  clear hx1 hh1
  go_wp2
  go_loopw [3, 4] (RIdRel w2 n L) (fun _ i _ => n - (intOf i).toNat)
  case atStart => exact ⟨0, 0, none, rfl, Nat.zero_le _, rfl, own_nil _ _ _ _, Below.refl _ _⟩
  case round =>
    obtain ⟨j, cp, a1, rfl, hj, rfl, ho, hx⟩ := hrel
    rename World => w3
    have hcb := HB.out w3 hx
    have HO := Lib.hid ho
    clear ho
    by_cases hjn : j < n
    · obtain ⟨y, hy⟩ : ∃ y, L[j]? = some y := ⟨_, List.getElem?_eq_getElem (by have := HL.out; omega)⟩
      have htk : (L.take (j + 1)).map Re.id = (L.take j).map Re.id ++ [(y.s, y.z)] := by
        rw [List.take_add_one, hy, List.map_append]
        rfl
      have HTK := Lib.hid htk
      have HY := Lib.hid hy
      have HR3 := Lib.hid (HR.out.ext hx)
      have hal := Ext.alloc' w3 (.cells #[.int .u64 y.s, .int .i64 y.z] 45)
      have hsx := hx.size
      clear hy htk
      go_wp2_with (first
        | ((with_reducible refine atSlot 16 ?_); refine wpList_of_wp rfl (owp_ix (o := ⟨some 16, _, _, _, _, _⟩) _ _ rfl Try.elRe rfl HR3.out j rfl rfl hjn ?_); intro b3 o3 hc3; have hid := re_id HY.out hc3; clear hc3)
        | ((with_reducible refine atSlot 19 ?_); refine wpList_of_wp rfl (wp_load_mid (op := ⟨some 19, _, _, _, _, _⟩) 45 _ rfl b3 o3 rfl [.int .u64 y.s, .int .i64 y.z] _ hid Try.underlying45 rfl (by kernel_rfl) ?_); clear hid)
        | ((with_reducible refine atSlot 21 ?_); refine wpList_of_wp rfl (owp_app (o := ⟨some 21, _, _, _, _, _⟩) _ _ rfl Try.elId rfl (own_ext HO.out hal) rfl (Row.new w3 #[.int .u64 y.s, .int .i64 y.z] 45 1 2 rfl (by decide)) (id_one [(y.s, y.z)]) (by omega) (by unfold maxLen; omega) (Nat.le_trans hsx hal.size) ?_); intro a2 c2 w4 ho2 hg2; have hx4 := below_app (hx.trans' hal) (own_ext HO.out hal) hg2 (Nat.le_trans hsx hal.size); have HO2 := Lib.hid ho2; clear ho2 hg2)
        | fail)
      go_roundw
      case rel =>
        refine ⟨j + 1, c2, a2, by go_num, hjn, rfl, ?_, ?_⟩
        · rw [HTK.out, List.flatMap_append]
          exact HO2.out
        · exact hx4
      case measure => simp [intOf]; omega
    · obtain rfl : j = n := by omega
      have HLE := Lib.hid (show L.take j = L from List.take_of_length_le (by have := HL.out; omega))
      clear hj hjn
      go_wp2
      go_ret
      exact ⟨a1, j, cp, rfl, by rw [re_ids, List.length_map]; exact HL.out.symm, by rw [re_ids, ← HLE.out]; exact own_base HO.out hsz, HX.out.trans' hx⟩
end Go.Proofs.Ytpiodpljiklfkaa
