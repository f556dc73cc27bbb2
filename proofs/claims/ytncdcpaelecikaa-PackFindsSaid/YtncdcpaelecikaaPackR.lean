/-
  The reference's Same, where the lists are equal.
-/
import Derived.Test.YtncdcpaelecikaaPackE
import Derived.Test.YtncdcpaelecikaaPackF
import Derived.Test.YtncdcpaelecikaaMathP
import Derived.Test.YtncdcpaelecikaaOrdY
namespace Go.Proofs.Ytncdcpaelecikaa
open Go.RowKit

/-- string(b) in a region. -/
theorem wpY_conv {P : Program} {ops : Array Oper} {B : Nat} {w0 : World} {fr : List Nat} {Q : Act → World → Prop} {k : Nat} {L : XP} {a : Act} {w : World} {o : Oper} (ho : ops[k]? = some o) (hw : Region.wanted o (yielded ops a.tmps) = true) (xO : Operand) {src dst : TypeId}
    (hop : o.op = .convert src dst xO) {p : Option Addr} {n c : Nat} {l : List UInt8} (hx : a.eval xO = .slice p n c) (hb : ∀ w', Below B w0 w' → Bytes w' p n c l) {e : TypeId} (hs : P.underlying src = some (.slice e)) (he : P.underlying e = some (.int .u8)) (hd : P.underlying dst = some .string)
    (h : wpY P ops B w0 fr Q L (a.put o.dst (.string ⟨l.toArray⟩)) w) : wpY P ops B w0 fr Q (.q k L) a w :=
  wpY_q ho hw (.string ⟨l.toArray⟩) (fun w' hx' => by
    unfold execOp
    simp only [hop, hx, (hb w' hx').conv src e dst hs he hd, Sem.run_bind, Sem.run_pure, Result.andThen_ok]) h
def SameRel (w : World) (n : Nat) (i : Value) (wr : World) : Prop := ∃ j : Nat, i = .int .i64 j ∧ j ≤ n ∧ Ext w wr

set_option maxRecDepth 100000 in
set_option maxHeartbeats 2000000 in
theorem Same_any (a1 : Option Addr) (n1 c1 : Nat) (a2 : Option Addr) (n2 c2 : Nat) (L1 L2 : List Ck) (w : World) (h1 : Chunks w a1 n1 c1 L1) (h2 : Chunks w a2 n2 c2 L2) (heq : L1.map Ck.d = L2.map Ck.d) (hn : n1 ≤ 1000000000000) :
    Calls Try.prog 18 #[.slice a1 n1 c1, .slice a2 n2 c2] w (NewNone (.bool true) w) := by
  obtain rfl : n1 = n2 := by
    have := congrArg List.length heq
    simp at this
    rw [← h1.1, ← h2.1, this]
  have HL := Lib.hid h1.1
  have HEQ := Lib.hid heq
  clear heq
  go_enter Try.func18, Try.ntmps18
  go_wp2
  go_loopw [5] (SameRel w n1) (fun i _ => n1 - (intOf i).toNat)
  case atStart => exact ⟨0, rfl, by omega, Below.refl _ _⟩
  case round =>
    obtain ⟨j, rfl, hj, hx⟩ := hrel
    rename World => w1
    by_cases hjn : j < n1
    · obtain ⟨k, hk⟩ : ∃ k, L1[j]? = some k := ⟨_, List.getElem?_eq_getElem (by have := HL.out; omega)⟩
      have hk2 : ∃ k2, L2[j]? = some k2 ∧ k2.d = k.d := by
        have h := congrArg (fun L : List Ck => L[j]?) HEQ.out
        simp only [List.getElem?_map, hk, Option.map_some] at h
        cases h2 : L2[j]? with
        | none => rw [h2] at h; cases h
        | some k2 => rw [h2] at h; exact ⟨k2, rfl, (Option.some.inj h).symm⟩
      obtain ⟨k2, hk2, hd⟩ := hk2
      obtain ⟨s2, z2, q2, m2, d2, l2⟩ := k2
      obtain ⟨rfl, rfl, rfl⟩ : s2 = k.s ∧ z2 = k.z ∧ l2 = k.l := by simpa [Ck.d, dk] using hd
      have hb1 := (h1.2.2 k (List.mem_of_getElem? hk)).1.ext hx
      have hb2 : Bytes w1 q2 m2 d2 k.l := (h2.2.2 _ (List.mem_of_getElem? hk2)).1.ext hx
      have hr1 := h1.2.1.ext hx
      have hr2 := h2.2.1.ext hx
      have HK := Lib.hid hk
      have HK2 := Lib.hid hk2
      clear hk hk2 hd
      go_wp2
      refine wp_region_e [] (.qs [0, 1, 2, 3, 4, 5, 6, 7, 8, 9, 10, 11, 12, 13, 14, 15, 16, 17, 18, 19, 20, 21, 22, 23, 24, 25] .nil) (by kernel_rfl) (by kernel_rfl) ?_
      iterate 2 ((refine wpY_q rfl rfl _ (fun w' hx' => by go_simp; try rfl) ?_; go_simp))
      refine wpY_ix rfl rfl (.tmp 17) (.tmp 18) rfl Try.elC rfl (fun w' h => hr1.ext h) j rfl rfl hjn ?_
      intro b3 o3 hc3
      have hi3 := range_id HK.out hc3
      clear hc3
      ((refine wpY_q rfl rfl _ (fun w' hx' => by go_simp; try rfl) ?_; go_simp))
      refine wpY_ld rfl rfl (.tmp 20) rfl b3 o3 rfl [.int .u64 k.s, .int .i64 k.z] _ hi3 Try.underlying44 rfl (by kernel_rfl) ?_
      iterate 2 ((refine wpY_q rfl rfl _ (fun w' hx' => by go_simp; try rfl) ?_; go_simp))
      refine wpY_ix rfl rfl (.tmp 22) (.tmp 23) rfl Try.elC rfl (fun w' h => hr2.ext h) j rfl rfl hjn ?_
      intro b4 o4 hc4
      have hi4 := range_id HK2.out hc4
      clear hc4
      ((refine wpY_q rfl rfl _ (fun w' hx' => by go_simp; try rfl) ?_; go_simp))
      refine wpY_ld rfl rfl (.tmp 25) rfl b4 o4 rfl [.int .u64 k.s, .int .i64 k.z] _ hi4 Try.underlying44 rfl (by kernel_rfl) ?_
      iterate 4 ((refine wpY_q rfl rfl _ (fun w' hx' => by go_simp; try rfl) ?_; go_simp))
      refine wpY_ix rfl rfl (.tmp 29) (.tmp 30) rfl Try.elC rfl (fun w' h => hr1.ext h) j rfl rfl hjn ?_
      intro b5 o5 hc5
      have hd5 : ∀ w', Below w1.heap.size w1 w' → w'.cell? ⟨b5, o5 + 2, none⟩ = some (.slice k.a k.n k.c) := fun w' h => (hc5 2 (by omega) w' h).trans (cells_get HK.out 2 (by omega))
      clear hc5
      iterate 2 ((refine wpY_q rfl rfl _ (fun w' hx' => by go_simp; try rfl) ?_; go_simp))
      refine wpY_conv rfl rfl (.tmp 33) rfl rfl (fun w' h => hb1.ext h) Try.underlying28 Try.underlying5 Try.underlying9 ?_
      iterate 2 ((refine wpY_q rfl rfl _ (fun w' hx' => by go_simp; try rfl) ?_; go_simp))
      refine wpY_ix rfl rfl (.tmp 35) (.tmp 36) rfl Try.elC rfl (fun w' h => hr2.ext h) j rfl rfl hjn ?_
      intro b6 o6 hc6
      have hd6 : ∀ w', Below w1.heap.size w1 w' → w'.cell? ⟨b6, o6 + 2, none⟩ = some (.slice q2 m2 d2) := fun w' h => (hc6 2 (by omega) w' h).trans (cells_get HK2.out 2 (by omega))
      clear hc6
      iterate 2 ((refine wpY_q rfl rfl _ (fun w' hx' => by go_simp; try rfl) ?_; go_simp))
      refine wpY_conv rfl rfl (.tmp 39) rfl rfl (fun w' h => hb2.ext h) Try.underlying28 Try.underlying5 Try.underlying9 ?_
      iterate 2 ((refine wpY_q rfl rfl _ (fun w' hx' => by go_simp; try rfl) ?_; go_simp))
      refine wpY_nil ?_
      go_wp2
      go_roundw
      case rel => exact ⟨j + 1, by go_num, by omega, hx.trans' (Ext.drew' _)⟩
      case measure => simp [intOf]; omega
    · obtain rfl : j = n1 := by omega
      go_wp2
      go_ret
      exact ⟨rfl, hx⟩
end Go.Proofs.Ytncdcpaelecikaa
