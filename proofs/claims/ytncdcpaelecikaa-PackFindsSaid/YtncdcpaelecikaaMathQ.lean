/-
  Plain laws of packs: the frames that Encode wrote are those that are read.
-/
import Derived.Test.YtncdcpaelecikaaMathP
import Derived.Test.YtncdcpaelecikaaPackS
import Derived.Test.YtncdcpaelecikaaPackO
namespace Go.Proofs.Ytncdcpaelecikaa

theorem uintOk_enc {v : Nat} (hv : v ≤ 18446744073709551615) (p r : List UInt8) : uintOk (p ++ (enc v ++ r)) p.length = some (v, p.length + (enc v).length) := by
  unfold uintOk
  rw [uintRes_enc hv, if_pos rfl]
  simp
  omega
theorem uintOk_is {l : List UInt8} {at_ v nx : Nat} (h : uintOk l at_ = some (v, nx)) : v ≤ 18446744073709551615 ∧ nx = at_ + (enc v).length ∧ at_ ≤ l.length ∧ ∃ r, l = l.take at_ ++ (enc v ++ r) := by
  rcases uint_cases l at_ with ⟨v', nx', h1, h2, h3, h4, h5, h6⟩ | ⟨h1, -⟩
  · rw [h1] at h
    simp only [Option.some.injEq, Prod.mk.injEq] at h
    obtain ⟨rfl, rfl⟩ := h
    have hat : at_ ≤ l.length := by omega
    rcases uintRes_cases_in l at_ hat with ⟨v2, j, e1, e2, e3, e4, e5⟩ | e1 | e1
    · rw [h2] at e1
      simp only [Prod.mk.injEq] at e1
      obtain ⟨rfl, e6, -⟩ := e1
      obtain ⟨e7, r, e8⟩ := decU_is e5
      exact ⟨h6, by omega, hat, r, by rw [← e8, List.take_append_drop]⟩
    · rw [h2] at e1; simp at e1
    · rw [h2] at e1; simp at e1
  · rw [h1] at h; cases h
/-- What is read in a beginning is read in the whole. -/
theorem uintOk_take {l : List UInt8} {n at_ v nx : Nat} (h : uintOk (l.take n) at_ = some (v, nx)) : uintOk l at_ = some (v, nx) := by
  obtain ⟨hv, rfl, hat, r, hr⟩ := uintOk_is h
  have e : l = (l.take n).take at_ ++ (enc v ++ (r ++ l.drop n)) := by
    conv => lhs; rw [← List.take_append_drop n l, hr]
    simp
  have hl : ((l.take n).take at_).length = at_ := by rw [List.length_take]; omega
  have h1 := uintOk_enc hv ((l.take n).take at_) (r ++ l.drop n)
  rw [← e, hl] at h1
  exact h1
theorem frameAt_take {l : List UInt8} {n at_ nx : Nat} {p : Option Ck} {k : Ck} (h : frameAt (l.take n) at_ p = .ok (k, nx)) : frameAt l at_ p = .ok (k, nx) := by
  unfold frameAt at h ⊢
  cases h1 : uintOk (l.take n) at_ with
  | none => simp only [h1] at h; cases h
  | some r1 =>
    obtain ⟨z, a1⟩ := r1
    simp only [h1] at h
    rw [uintOk_take h1]
    simp only
    cases h2 : uintOk (l.take n) a1 with
    | none => simp only [h2] at h; cases h
    | some r2 =>
      obtain ⟨s, a2⟩ := r2
      simp only [h2] at h
      rw [uintOk_take h2]
      simp only
      by_cases hz : z < 1 ∨ 8192 < z ∨ (l.take n).length < a2 + z
      · rw [if_pos hz] at h; cases h
      · rw [if_neg hz] at h
        have hle : (l.take n).length ≤ l.length := by rw [List.length_take]; omega
        rw [if_neg (by omega)]
        have e : ((l.take n).drop a2).take z = (l.drop a2).take z := by
          rw [List.drop_take, List.take_take]
          congr 1
          rw [List.length_take] at hz
          omega
        rw [e] at h
        exact h
/-- A frame that was written is read. -/
theorem frameAt_enc (q r : List UInt8) (k : Ck) (hr : rightB k.s k.z k.l = true) (hs : k.s ≤ 18446744073709551615) (p : Option Ck) (hb : behindB p k.d = true) :
    frameAt (q ++ (enc k.z.toNat ++ (enc k.s ++ (k.l ++ r)))) q.length p = .ok (k.d, q.length + (enc k.z.toNat).length + (enc k.s).length + k.l.length) := by
  have h := hr
  simp only [rightB, Bool.and_eq_true, decide_eq_true_eq] at h
  have hz : k.z.toNat = k.l.length := by omega
  have e2 : q ++ (enc k.z.toNat ++ (enc k.s ++ (k.l ++ r))) = (q ++ enc k.z.toNat) ++ (enc k.s ++ (k.l ++ r)) := by simp
  have e3 : q ++ (enc k.z.toNat ++ (enc k.s ++ (k.l ++ r))) = (q ++ enc k.z.toNat ++ enc k.s) ++ (k.l ++ r) := by simp
  unfold frameAt
  rw [uintOk_enc (by omega)]
  simp only
  have h2 := uintOk_enc hs (q ++ enc k.z.toNat) (k.l ++ r)
  rw [← e2, List.length_append] at h2
  rw [h2]
  simp only
  have hd : ((q ++ (enc k.z.toNat ++ (enc k.s ++ (k.l ++ r)))).drop (q.length + (enc k.z.toNat).length + (enc k.s).length)).take k.z.toNat = k.l := by
    rw [e3, List.drop_left' (by simp; omega), hz, List.take_left]
  have hd2 : dk k.s (k.z.toNat : Int) k.l = k.d := by unfold Ck.d; congr 1; omega
  rw [hd, if_neg (by simp; omega), if_neg (by rw [show ((k.z.toNat : Nat) : Int) = k.z by omega, hr]; decide), hd2, if_neg (by rw [hb]; decide), hz]

/-- Where the i-th frame begins. -/
def offs (L : List Ck) (i : Nat) : Nat := 4 + (frames (L.take i)).length
theorem offs_succ {L : List Ck} {i : Nat} {k : Ck} (h : L[i]? = some k) : offs L (i + 1) = offs L i + (frameB k.s k.z.toNat k.l).length := by
  unfold offs; rw [frames_take h, List.length_append]; omega
theorem frames_split {L : List Ck} {i : Nat} {k : Ck} (h : L[i]? = some k) : frames L = frames (L.take i) ++ (frameB k.s k.z.toNat k.l ++ frames (L.drop (i + 1))) := by
  have e : L = L.take i ++ (k :: L.drop (i + 1)) := by
    obtain ⟨hl, rfl⟩ := List.getElem?_eq_some_iff.1 h
    rw [← List.drop_eq_getElem_cons hl, List.take_append_drop]
  conv => lhs; rw [e]
  unfold frames
  rw [List.flatMap_append, List.flatMap_cons]
theorem behind_at {L : List Ck} (hA : Asc L) {i : Nat} {k : Ck} (h : L[i]? = some k) : behindB ((L.take i).map Ck.d).getLast? k.d = true := by
  obtain ⟨hl, rfl⟩ := List.getElem?_eq_some_iff.1 h
  rcases Nat.eq_zero_or_pos i with h0 | h0
  · subst h0; rfl
  · have hlast : ((L.take i).map Ck.d).getLast? = some (L[i - 1]'(by omega)).d := by
      rw [List.getLast?_eq_getElem?, List.length_map, List.length_take, Nat.min_eq_left (by omega), List.getElem?_map, List.getElem?_take, if_pos (by omega), List.getElem?_eq_getElem (by omega)]
      rfl
    rw [hlast]
    exact List.pairwise_iff_getElem.1 hA.2 (i - 1) i (by omega) hl (by omega)
theorem frame_here {L : List Ck} (hA : Asc L) (hs : ∀ k ∈ L, k.s ≤ 18446744073709551615) (rest : List UInt8) {i : Nat} {k : Ck} (h : L[i]? = some k) :
    (magicB ++ frames L ++ rest)[offs L i]? = some 1 ∧ frameAt (magicB ++ frames L ++ rest) (offs L i + 1) ((L.take i).map Ck.d).getLast? = .ok (k.d, offs L (i + 1)) := by
  have hk := List.mem_of_getElem? h
  have hml : magicB.length = 4 := rfl
  have e : magicB ++ frames L ++ rest = (magicB ++ frames (L.take i)) ++ (1 :: (enc k.z.toNat ++ (enc k.s ++ (k.l ++ (frames (L.drop (i + 1)) ++ rest))))) := by
    rw [frames_split h]; simp [frameB]
  have hq : (magicB ++ frames (L.take i)).length = offs L i := by rw [List.length_append, hml]; rfl
  constructor
  · rw [e, List.getElem?_append_right (by omega), hq, Nat.sub_self]; rfl
  · have e2 : magicB ++ frames L ++ rest = (magicB ++ frames (L.take i) ++ [1]) ++ (enc k.z.toNat ++ (enc k.s ++ (k.l ++ (frames (L.drop (i + 1)) ++ rest)))) := by rw [e]; simp
    have h1 := frameAt_enc (magicB ++ frames (L.take i) ++ [1]) (frames (L.drop (i + 1)) ++ rest) k (hA.1 k hk) (hs k hk) _ (behind_at hA h)
    rw [← e2, List.length_append, hq, List.length_singleton] at h1
    rw [h1, offs_succ h]
    congr 2
    simp [frameB]
    omega
theorem salv_pack {L : List Ck} (hA : Asc L) (hs : ∀ k ∈ L, k.s ≤ 18446744073709551615) (rest : List UInt8) : ∀ i, i ≤ L.length →
    salv (magicB ++ frames L ++ rest) = salvF (magicB ++ frames L ++ rest) ((magicB ++ frames L ++ rest).length - offs L i) (offs L i) ((L.take i).map Ck.d)
  | 0, _ => by
    have : offs L 0 = 4 := by simp [offs, frames]
    rw [this]
    exact salv_start _
  | i + 1, h => by
    obtain ⟨k, hk⟩ : ∃ k, L[i]? = some k := ⟨_, List.getElem?_eq_getElem (by omega)⟩
    obtain ⟨h1, h2⟩ := frame_here hA hs rest hk
    rw [salv_pack hA hs rest i (by omega), salv_on h1 h2, List.take_add_one, hk]
    simp
theorem Asc.take {L : List Ck} (h : Asc L) (i : Nat) : Asc (L.take i) := ⟨fun k hk => h.1 k (List.mem_of_mem_take hk), h.2.take⟩
/-- Salvage of a beginning of a pack. -/
theorem salv_cut {L : List Ck} (hA : Asc L) (hs : ∀ k ∈ L, k.s ≤ 18446744073709551615) {n i : Nat} (hn : offs L i ≤ n) (hi : i ≤ L.length) (hc : i = L.length ∨ n < offs L (i + 1)) :
    salv ((packB L).take n) = ((L.take i).map Ck.d, offs L i) := by
  have hml : magicB.length = 4 := rfl
  obtain ⟨T, hT⟩ : ∃ T, T = [0] ++ enc L.length ++ enc (fp (bodyB L)) := ⟨_, rfl⟩
  have hp : packB L = magicB ++ frames L ++ T := by rw [hT]; simp [packB, bodyB]
  have hfs : frames L = frames (L.take i) ++ frames (L.drop i) := by unfold frames; rw [← List.flatMap_append, List.take_append_drop]
  have hq : (magicB ++ frames (L.take i)).length = offs L i := by rw [List.length_append, hml]; rfl
  have e : (packB L).take n = magicB ++ frames (L.take i) ++ (frames (L.drop i) ++ T).take (n - offs L i) := by
    rw [hp, hfs, show magicB ++ (frames (L.take i) ++ frames (L.drop i)) ++ T = (magicB ++ frames (L.take i)) ++ (frames (L.drop i) ++ T) by simp, List.take_append, hq, List.take_of_length_le (by omega)]
  have ht : (L.take i).take (L.take i).length = L.take i := List.take_length
  have hli : (L.take i).length = i := by rw [List.length_take]; omega
  have ho : offs (L.take i) (L.take i).length = offs L i := by unfold offs; rw [ht]
  have h1 := salv_pack (hA.take i) (fun k hk => hs k (List.mem_of_mem_take hk)) ((frames (L.drop i) ++ T).take (n - offs L i)) (L.take i).length (Nat.le_refl _)
  rw [← e, ho, ht] at h1
  refine stop_of h1 ?_
  rcases hc with rfl | hc
  · left
    rw [e, List.getElem?_append_right (by omega), hq, Nat.sub_self, List.drop_length]
    rw [hT]
    cases hnn : n - offs L L.length with
    | zero => simp
    | succ m => simp [frames]
  · by_cases hil : i < L.length
    · obtain ⟨k, hk⟩ : ∃ k, L[i]? = some k := ⟨_, List.getElem?_eq_getElem hil⟩
      obtain ⟨h2, h3⟩ := frame_here hA hs T hk
      rw [← hp] at h3
      right
      cases hf : frameAt ((packB L).take n) (offs L i + 1) ((L.take i).map Ck.d).getLast? with
      | error er => exact ⟨er, rfl⟩
      | ok r =>
        obtain ⟨k', nx⟩ := r
        have h4 := frame_next hf
        have h5 := frameAt_take hf
        rw [h3] at h5
        simp only [Except.ok.injEq, Prod.mk.injEq] at h5
        rw [List.length_take] at h4
        omega
    · obtain rfl : i = L.length := by omega
      exfalso
      have : offs L (L.length + 1) = offs L L.length := by unfold offs; rw [List.take_of_length_le (by omega), List.take_length]
      omega
end Go.Proofs.Ytncdcpaelecikaa
