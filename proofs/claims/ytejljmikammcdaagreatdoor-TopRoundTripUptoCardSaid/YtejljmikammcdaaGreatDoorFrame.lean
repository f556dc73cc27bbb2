/-
  What the frames of this seat's proofs share: how an argument that came in is opened.
-/
import Derived.Test.YtejljmikammcdaaGreatDoorRows
import Derived.Test.YtejljmikammcdaaGreatDoorBase
import Derived.ProofKit
import Derived.OpenShut
import Derived.ShutString
import Derived.ChangeOld
import Derived.Below
import Derived.SizedLaws
namespace Go.Proofs.YtejljmikammcdaaGreatDoor
open Go.ChangeShapes Go.WideShapes Go.ChangeAt Go.RowKit

theorem own : ownKnob Tryz.prog.godebug = none := by kernel_rfl
theorem laidOut : laidOutB Tryz.prog = true := by kernel_rfl

/-- What a law leaves: true, and nothing that was there has changed. -/
def LawPost (w : World) (e : Ending) (w' : World) : Prop := e = .returned (.bool true) ∧ Below w.heap.size w w'

theorem bounds_i64' {x : Int} (h : (Lit.int .i64 x).wf = true) : -9223372036854775808 ≤ x ∧ x ≤ 9223372036854775807 := bounds_i64 h
theorem bounds_u64' {x : Int} (h : (Lit.int .u64 x).wf = true) : 0 ≤ x ∧ x ≤ 18446744073709551615 := bounds_u64 h
theorem bounds_u8' {x : Int} (h : (Lit.int .u8 x).wf = true) : 0 ≤ x ∧ x ≤ 255 := bounds_u8 h
theorem sized_str {s : ByteArray} (h : s.data.toList.length ≤ reachBytes) : s.size ≤ 140737488351232 := by
  simpa [reachBytes] using h

theorem u8_of_int {x : Int} (h : (Lit.int .u8 x).wf = true) : Value.int .u8 x = u8 (UInt8.ofNat x.toNat) := by
  have := bounds_u8 h
  rw [u8_ofNat _ (by omega)]
  congr 1
  omega

theorem open_bytes {P : Program} {W : World} {t e : TypeId} {a : Option Addr} {n c : Nat} {H : Type} {enc : TypeId × Value → H} {d : DataW H} {p : List MemPlace}
    (hu : P.underlying t = some (.slice e)) (he : P.underlying e = some (.int .u8)) (hc : P.cellsOf e = 1) (hby : P.bytesOf e = 1) (h : DataW.Trod enc P W 0 (fun _ => true) true t (.slice a n c) d p)
    (hs : ∀ e1 e2, d = .slice e1 e2 → (e1.length + e2.length) * P.bytesOf e ≤ reachBytes) : ∃ l, Bytes W a n c l ∧ n ≤ 140737488351232 := by
  obtain ⟨fuel, hf⟩ := h
  rcases open_ints hu he hc hf with ⟨hcs, _⟩ | ⟨x, len, cap, zs, hcs, _, hl, hm, hz, hx, hcell, hwz⟩
  · simp [Value.cells] at hcs
    obtain ⟨rfl, rfl, rfl⟩ := hcs
    exact ⟨[], Bytes.nil W, Nat.zero_le _⟩
  · simp [Value.cells] at hcs
    obtain ⟨rfl, rfl, rfl⟩ := hcs
    simp only [Prod.mk.injEq] at hx
    have hsz := hs _ _ hx.1
    simp only [if_true] at hz
    simp only [lits, List.length_map, List.length_take, List.length_drop, hby, reachBytes] at hsz
    have hmap : (zs.take n).map (Value.int .u8) = ((zs.take n).map fun z => UInt8.ofNat z.toNat).map u8 := by
      rw [List.map_map]
      apply List.map_congr_left
      intro z hz'
      exact u8_of_int (hwz z (List.mem_of_mem_take hz'))
    refine ⟨(zs.take n).map fun z => UInt8.ofNat z.toNat, Bytes.mk' ?_, by omega⟩
    rw [← hmap]
    refine ⟨by simp; omega, hl, hm, (fun h => nomatch h), (fun q hq => ?_), fun q hq j u hj => ?_⟩
    · cases hq
      by_cases hn : 0 < zs.length
      · obtain ⟨b, o, rfl, _⟩ := ints_at hcell hn
        exact .inr ⟨b, o, rfl⟩
      · left; omega
    · cases hq
      rw [List.getElem?_map] at hj
      obtain ⟨z, hz1, rfl⟩ := Option.map_eq_some_iff.1 hj
      have hz2 : zs[j]? = some z := by rw [List.getElem?_take] at hz1; split at hz1 <;> simp_all
      obtain ⟨hjl, hjz⟩ := List.getElem?_eq_some_iff.1 hz2
      rw [hcell j hjl, List.getD_eq_getElem?_getD, hz2]; rfl
end Go.Proofs.YtejljmikammcdaaGreatDoor
