/-
  The law DeltaCosts: true for every input whose bulk is at most 1048576, and no argument is changed. Condition: the bulk of what it reads.
-/
import Derived.Test.YtcljlglmnagodaaOpenP
import Derived.Test.YtcljlglmnagodaaCosts
import Derived.Test.YtcljlglmnagodaaInit
import Derived.JoinedCond
namespace Go.Proofs.Ytcljlglmnagodaa.deltaCosts
open Go.ChangeShapes Go.WideShapes Go.ChangeAt Go.RowKit Go.Deep
open Go.ChangeMaps (open_string shut_string)

set_option maxRecDepth 100000 in
theorem open_bytesU {W : World} {H : Type} {enc : TypeId × Value → H} {a : Option Addr} {n c : Nat} {d : DataW H} {p : List MemPlace} (h : DataW.Trod enc Try.prog W 0 (fun _ => true) true 26 (.slice a n c) d p) (hd : Rows.uptoBulk d ≤ 1048576) :
    ∃ l, Bytes W a n c l ∧ n ≤ 1048576 := by
  obtain ⟨l, hb, -⟩ := open_bytes Try.underlying26 Try.underlying5 (by kernel_rfl) (by kernel_rfl) h (fun e1 e2 he => by
    rw [he] at hd
    have := bulk_slice e1 e2
    have e : (Try.prog).bytesOf 5 = 1 := by kernel_rfl
    rw [e]
    simp [reachBytes]; omega)
  obtain ⟨fuel, hf⟩ := h
  refine ⟨l, hb, ?_⟩
  rcases open_slice Try.underlying26 (by simpa [Value.cells] using hf) with ⟨h, -⟩ | ⟨a', n', c', m', _, D, Pl, h, -, -, -, -, hy, -⟩
  · have h' : a = none ∧ n = 0 ∧ c = 0 := by simpa using h
    omega
  · obtain ⟨-, rfl, -⟩ : a = some a' ∧ n = n' ∧ c = c' := by simpa using h
    have hd' : d = .slice ((List.range n).map D) ((List.range (m' - n)).map fun j => D (n + j)) := by simpa using congrArg Prod.fst hy
    rw [hd'] at hd
    have := bulk_slice ((List.range n).map D) ((List.range (m' - n)).map fun j => D (n + j))
    simp only [List.length_map, List.length_range] at this
    omega

set_option maxRecDepth 100000 in
theorem contract (H : Type) (enc : TypeId × Value → H) (W : World) (lo : Nat) (args : Array Value) (ds gs : List (DataW H)) (before : List MemPlace)
    (hval0 : ∀ (j : Nat) t v, Try.f9.params[j]? = some t → args[j]? = some v → Value.okWide Try.prog W .any lo t v)
    (hW : DataW.Whole enc Try.prog Try.f9.params.toList Rows.deltaCostsSpec.vars false W args.toList ds gs before) (hk : Rows.uptoSmall H (ds ++ gs) = true) :
    Calls Try.prog 9 args W fun e W' => ∃ v, e = .returned v ∧ Rows.deltaCostsSpec.post enc Try.prog Try.f9 false true false false W args v W' := by
  have hval : ∀ (j : Nat) t v, Try.f9.params[j]? = some t → args[j]? = some v → Value.okWide Try.prog W .any lo t v := hval0
  have hW' := hW
  obtain ⟨p, q, hA0, hV, rfl, hfz, hnd⟩ := hW
  have hA : DataW.TrodAll enc Try.prog W 0 (fun _ => true) true Try.f9.params.toList args.toList ds p := hA0
  rw [Try.params9] at hA hval
  obtain ⟨v0, vs0, d0, ds0, p0, q0, hargs, rfl, rfl, h0, r0⟩ := trodAll_cons hA
  obtain ⟨v1, vs1, d1, ds1, p1, q1, rfl, rfl, rfl, h1, r1⟩ := trodAll_cons r0
  obtain ⟨v2, vs2, d2, ds2, p2, q2, rfl, rfl, rfl, h2, r2⟩ := trodAll_cons r1
  obtain ⟨rfl, rfl, rfl⟩ := trodAll_nil r2
  obtain rfl : args = #[v0, v1, v2] := by cases args; simp_all
  obtain ⟨rfl, rfl⟩ := trodVars_none hV
  obtain ⟨a0, n0, c0, rfl⟩ := okWide_slice Try.underlying29 (hval 0 29 v0 rfl rfl)
  obtain ⟨a1, n1, c1, rfl⟩ := okWide_slice Try.underlying26 (hval 1 26 v1 rfl rfl)
  obtain ⟨a2, n2, c2, rfl⟩ := okWide_slice Try.underlying26 (hval 2 26 v2 rfl rfl)
  have hb := bulk_bound hk
  have hbu : ∀ d ∈ ([d0, d1, d2] : List (DataW H)), Rows.uptoBulk d ≤ 1048576 := fun d hd => by
    have : Rows.uptoBulk d ≤ Rows.uptoBulkAll (([d0, d1, d2] : List (DataW H)) ++ []) := bulk_le (by simpa using hd)
    simp only [List.append_nil] at this hb ⊢
    omega
  have k0 := h0
  have lt0 : ∀ x ∈ p0, x.block < W.heap.size := by obtain ⟨m, hm⟩ := k0; exact DataW.trod_lt m _ _ _ hm
  have k1 := h1
  have lt1 : ∀ x ∈ p1, x.block < W.heap.size := by obtain ⟨m, hm⟩ := k1; exact DataW.trod_lt m _ _ _ hm
  have k2 := h2
  have lt2 : ∀ x ∈ p2, x.block < W.heap.size := by obtain ⟨m, hm⟩ := k2; exact DataW.trod_lt m _ _ _ hm
  obtain ⟨L, w0, s0, f0⟩ := open_opsB h0 (hbu d0 (by simp))
  obtain ⟨l1, w1, s1⟩ := open_bytesU h1 (hbu d1 (by simp))
  obtain ⟨l2, w2, s2⟩ := open_bytesU h2 (hbu d2 (by simp))
  have hT : (encD (L.map Od.d)).length ≤ 140737488355300 := by
    have g1 := enc_bound L (fun k hk => ⟨f0 k hk, (w0.2.2 k hk).2.2.1, (w0.2.2 k hk).2.2.2⟩)
    have g2 : L.length * 1048600 ≤ 1048576 * 1048600 := Nat.mul_le_mul_right _ (by rw [w0.1]; exact s0)
    have g3 := enc_le10 (v := (L.map Od.d).length) (by rw [List.length_map, w0.1]; omega)
    unfold encD
    rw [List.length_append]
    omega
  clear hA0 hval0
  refine (DeltaCosts_walk a0 n0 c0 L a1 n1 c1 l1 a2 n2 c2 l2 W w0 (by omega) hT w1 (by omega) w2 (by omega)).mono fun e W' ⟨he, bel⟩ => ?_
  subst he
  exact ⟨_, rfl, _, _, _, [], _, [], hW', trodAll_mk1 (shut_bool Try.underlying4 _), (trodAll_cons_mk (Below.trod laidOut (by kernel_rfl) (of_decide_eq_true (by kernel_rfl)) k0 bel lt0) (trodAll_cons_mk (Below.trod laidOut (by kernel_rfl) (of_decide_eq_true (by kernel_rfl)) k1 bel lt1) (trodAll_cons_mk (Below.trod laidOut (by kernel_rfl) (of_decide_eq_true (by kernel_rfl)) k2 bel lt2) trodAll_mk0))), rfl, bel.frame _, fun h => by cases h⟩

set_option maxRecDepth 100000 in
theorem lifted (os : Os) (started : os.Started) (H : Type) (enc : TypeId × Value → H) (F : Go.Stop.Interp) :
    ReturnsInHanded {} Try.checked os 9 .any ((Rows.OpenSpec.upto Rows.deltaCostsSpec).pre6 enc Try.prog Try.f9 Rows.deltaCostsUptoRow.domain false) (((Rows.OpenSpec.upto Rows.deltaCostsSpec).at F).post enc Try.prog Try.f9 false true false false) := by
  refine returnsInHanded_of_cond (C := Try.checked) (s := Rows.OpenSpec.upto Rows.deltaCostsSpec) (k := Rows.uptoSmall) rfl own started (by kernel_rfl) Try.func9
    (OpenSpec.witness (enc := enc) (C := Try.checked) (s := Rows.OpenSpec.upto Rows.deltaCostsSpec) (k := Rows.uptoSmall) rfl false ⟨#[], #[.slice none 0 0, .slice none 0 0, .slice none 0 0], []⟩ 8 (by kernel_rfl) (by kernel_rfl) (by kernel_rfl)
      (x := ([.nil, .nil, .nil], [], [])) (by kernel_rfl) rfl (by kernel_rfl)) ?_
  intro W lo args ds gs before hval hW _ hk _
  exact contract H enc W lo args ds gs before hval hW hk


set_option maxRecDepth 100000 in
set_option maxHeartbeats 4000000 in
theorem closed : joinedFacts Try.prog 9 Try.f9 (Rows.OpenSpec.upto Rows.deltaCostsSpec).bare Rows.deltaCostsUptoRow = true := by
  unfold joinedFacts
  simp only [Bool.and_eq_true]
  refine ⟨⟨⟨⟨⟨⟨⟨⟨⟨⟨⟨⟨⟨⟨⟨⟨⟨⟨⟨⟨⟨⟨⟨⟨⟨⟨⟨⟨⟨⟨⟨?_, ?_⟩, ?_⟩, ?_⟩, ?_⟩, ?_⟩, ?_⟩, ?_⟩, ?_⟩, ?_⟩, ?_⟩, ?_⟩, ?_⟩, ?_⟩, ?_⟩, ?_⟩, ?_⟩, ?_⟩, ?_⟩, ?_⟩, ?_⟩, ?_⟩, ?_⟩, ?_⟩, ?_⟩, Try.mayEnterIs⟩, beq_of (Eq.symm Try.liftsFinalIs)⟩, beq_of Try.makeIs⟩, ?_⟩, ?_⟩, ?_⟩, ?_⟩
  all_goals (as_aux_lemma => kernel_rfl)

set_option maxRecDepth 100000 in
theorem proved : Rows.DeltaCostsUptoSaid :=
  OpenClaim.holds_of_cond 9 Try.f9 rfl rfl rfl rfl rfl rfl rfl ⟨rfl, rfl, rfl, rfl, rfl⟩ rfl rfl rfl rfl rfl (by kernel_rfl) Try.func9 closed
    (of_decide_eq_true (by kernel_rfl)) (by unfold Func.isWrapper; first | (rw [if_pos (by decide +kernel)]; kernel_rfl) | (rw [if_neg (by decide +kernel)]; exact ⟨rfl, rfl⟩))
    (fun os started H enc _ F => lifted os started H enc F)
#print axioms proved
end Go.Proofs.Ytcljlglmnagodaa.deltaCosts
