/-
  Plain laws of packs: the whole pack is decoded; a changed byte is found; what is decoded is right.
-/
import Derived.Test.YtncdcpaelecikaaMathQ
import Derived.Test.YtncdcpaelecikaaPackW
namespace Go.Proofs.Ytncdcpaelecikaa

/-! ### The fingerprint tells bytes apart -/
theorem mul_inj_mod {p b c : Nat} (h : b * c % p = 1) {s t : Nat} (hs : s < p) (ht : t < p) (e : s * b % p = t * b % p) : s = t := by
  have key : ∀ x, x < p → (x * b % p) * c % p = x := fun x hx => by
    rw [Nat.mul_mod, Nat.mod_mod, ← Nat.mul_mod, Nat.mul_assoc, Nat.mul_mod, h, Nat.mul_one, Nat.mod_mod, Nat.mod_eq_of_lt hx]
  rw [← key s hs, ← key t ht, e]
theorem add_inj_mod {p x y a : Nat} (hx : x < p) (hy : y < p) (e : (x + a) % p = (y + a) % p) : x = y := by
  rcases Nat.le_total y x with h | h
  · have h1 := Nat.sub_mod_eq_zero_of_mod_eq e
    rw [Nat.add_sub_add_right, Nat.mod_eq_of_lt (by omega)] at h1
    omega
  · have h1 := Nat.sub_mod_eq_zero_of_mod_eq e.symm
    rw [Nat.add_sub_add_right, Nat.mod_eq_of_lt (by omega)] at h1
    omega
/-- A hash by steps s * b + f x modulo p: unlike states stay unlike. -/
theorem foldl_inj {p b c : Nat} (f : UInt8 → Nat) (g : Nat → UInt8 → Nat) (hg : ∀ s x, g s x = (s * b % p + f x) % p) (h : b * c % p = 1) (hp : 0 < p) : ∀ (l : List UInt8) (s t : Nat), s < p → t < p → l.foldl g s = l.foldl g t → s = t
  | [], _, _, _, _, e => e
  | x :: l, s, t, hs, ht, e => by
    have e1 := foldl_inj f g hg h hp l (g s x) (g t x) (by rw [hg]; exact Nat.mod_lt _ hp) (by rw [hg]; exact Nat.mod_lt _ hp) e
    rw [hg, hg] at e1
    exact mul_inj_mod h hs ht (add_inj_mod (Nat.mod_lt _ hp) (Nat.mod_lt _ hp) e1)
theorem foldl_lt {p : Nat} (g : Nat → UInt8 → Nat) (hg : ∀ s x, g s x < p) : ∀ (l : List UInt8) (s : Nat), s < p → l.foldl g s < p
  | [], _, h => h
  | x :: l, s, _ => foldl_lt g hg l (g s x) (hg s x)
theorem foldl_apart {p b c : Nat} (f : UInt8 → Nat) (g : Nat → UInt8 → Nat) (hg : ∀ s x, g s x = (s * b % p + f x) % p) (h : b * c % p = 1) (hp : 0 < p) (hf : ∀ x, f x < p) (hfi : ∀ x y, f x = f y → x = y)
    (u v : List UInt8) (x y : UInt8) (hxy : x ≠ y) (s : Nat) (e : (u ++ x :: v).foldl g s = (u ++ y :: v).foldl g s) : False := by
  rw [List.foldl_append, List.foldl_append, List.foldl_cons, List.foldl_cons] at e
  have e1 := foldl_inj f g hg h hp v _ _ (by rw [hg]; exact Nat.mod_lt _ hp) (by rw [hg]; exact Nat.mod_lt _ hp) e
  rw [hg, hg, Nat.add_comm _ (f x), Nat.add_comm _ (f y)] at e1
  exact hxy (hfi x y (add_inj_mod (hf x) (hf y) e1))
theorem fp_apart (u v : List UInt8) (x y : UInt8) (hxy : x ≠ y) : fp (u ++ x :: v) ≠ fp (u ++ y :: v) := fun e =>
  foldl_apart (p := 2305843009213693951) (b := 747382712868975713) (c := 331121832077419417) (fun x => x.toNat + 1) fpStep (fun _ _ => rfl) (by decide) (by decide)
    (fun x => by have := x.toNat_lt; show x.toNat + 1 < _; omega) (fun x y h => UInt8.toNat_inj.1 (by have h : x.toNat + 1 = y.toNat + 1 := h; omega)) u v x y hxy 0 e
theorem set_split (l : List UInt8) (i : Nat) (y : UInt8) (h : i < l.length) : l = l.take i ++ l[i] :: l.drop (i + 1) ∧ l.set i y = l.take i ++ y :: l.drop (i + 1) := by
  refine ⟨?_, List.set_eq_take_append_cons_drop.trans (if_pos h)⟩
  rw [← List.drop_eq_getElem_cons h, List.take_append_drop]
theorem fp_set {l : List UInt8} {i : Nat} {x y : UInt8} (h : l[i]? = some x) (hxy : y ≠ x) : fp (l.set i y) ≠ fp l := by
  obtain ⟨hl, rfl⟩ := List.getElem?_eq_some_iff.1 h
  obtain ⟨e1, e2⟩ := set_split l i y hl
  have := fp_apart (l.take i) (l.drop (i + 1)) y l[i] hxy
  rw [← e1, ← e2] at this
  exact this

/-! ### A frame with a wrong byte -/
theorem frameAt_bad (q r : List UInt8) (k : Ck) (l' : List UInt8) (hr : rightB k.s k.z k.l = true) (hs : k.s ≤ 18446744073709551615) (hl : l'.length = k.l.length) (hf : fp l' ≠ fp k.l) (p : Option Ck) :
    frameAt (q ++ (enc k.z.toNat ++ (enc k.s ++ (l' ++ r)))) q.length p = .error 290 := by
  have h := hr
  simp only [rightB, Bool.and_eq_true, decide_eq_true_eq] at h
  have hz : k.z.toNat = k.l.length := by omega
  have e2 : q ++ (enc k.z.toNat ++ (enc k.s ++ (l' ++ r))) = (q ++ enc k.z.toNat) ++ (enc k.s ++ (l' ++ r)) := by simp
  have e3 : q ++ (enc k.z.toNat ++ (enc k.s ++ (l' ++ r))) = (q ++ enc k.z.toNat ++ enc k.s) ++ (l' ++ r) := by simp
  unfold frameAt
  rw [uintOk_enc (by omega)]
  simp only
  have h2 := uintOk_enc hs (q ++ enc k.z.toNat) (l' ++ r)
  rw [← e2, List.length_append] at h2
  rw [h2]
  simp only
  have hd : ((q ++ (enc k.z.toNat ++ (enc k.s ++ (l' ++ r)))).drop (q.length + (enc k.z.toNat).length + (enc k.s).length)).take k.z.toNat = l' := by
    rw [e3, List.drop_left' (by simp; omega), hz, ← hl, List.take_left]
  have hbad : rightB k.s (k.z.toNat : Int) l' = false := by
    unfold rightB
    have : ¬ fp l' = k.s := by omega
    simp [this]
  rw [hd, if_neg (by simp; omega), if_pos hbad]
theorem offs_le {L : List Ck} (i : Nat) : offs L i ≤ 4 + (frames L).length := by
  unfold offs
  have := frames_len_take L i
  omega
theorem offs_full (L : List Ck) : offs L L.length = 4 + (frames L).length := by unfold offs; rw [List.take_length]
theorem offs_mono {L : List Ck} {i j : Nat} (h : i ≤ j) : offs L i ≤ offs L j := by
  unfold offs
  have h1 := frames_len_take (L.take j) i
  rw [List.take_take, Nat.min_eq_left h] at h1
  omega
theorem pack_split (L : List Ck) : packB L = magicB ++ frames L ++ ([0] ++ enc L.length ++ enc (fp (bodyB L))) := by simp [packB, bodyB]
/-- The pack in which the j-th byte from the end of chunk i's bytes is another one. -/
theorem pack_damage {L : List Ck} (hA : Asc L) (hs : ∀ k ∈ L, k.s ≤ 18446744073709551615) (hL : (packB L).length ≤ 1048576) {i u : Nat} {k : Ck} {x y : UInt8} (hk : L[i]? = some k) (hu : u < k.l.length) (hx : k.l[u]? = some x) (hxy : y ≠ x) :
    (packB L)[offs L (i + 1) - k.l.length + u]? = some x ∧
    salv ((packB L).set (offs L (i + 1) - k.l.length + u) y) = ((L.take i).map Ck.d, offs L i) ∧ isPack ((packB L).set (offs L (i + 1) - k.l.length + u) y) = true ∧
    decRes ((packB L).set (offs L (i + 1) - k.l.length + u) y) = ([], 290) := by
  have hml : magicB.length = 4 := rfl
  have hkm := List.mem_of_getElem? hk
  have hil : i < L.length := (List.getElem?_eq_some_iff.1 hk).1
  obtain ⟨T, hT⟩ : ∃ T, T = frames (L.drop (i + 1)) ++ ([0] ++ enc L.length ++ enc (fp (bodyB L))) := ⟨_, rfl⟩
  obtain ⟨Q, hQ⟩ : ∃ Q, Q = magicB ++ frames (L.take i) := ⟨_, rfl⟩
  obtain ⟨H, hH⟩ : ∃ H, H = Q ++ ([1] ++ enc k.z.toNat ++ enc k.s) := ⟨_, rfl⟩
  have hq : Q.length = offs L i := by rw [hQ, List.length_append, hml]; rfl
  have hP : packB L = H ++ (k.l ++ T) := by
    rw [pack_split, frames_split hk, hH, hQ, hT]; simp [frameB]
  have hHl : H.length = offs L (i + 1) - k.l.length := by
    rw [offs_succ hk, hH, List.length_append, hq]
    simp [frameB]
    omega
  rw [← hHl]
  have hget : (packB L)[H.length + u]? = some x := by
    rw [hP, List.getElem?_append_right (by omega), Nat.add_sub_cancel_left, List.getElem?_append_left hu, hx]
  have hset : (packB L).set (H.length + u) y = H ++ (k.l.set u y ++ T) := by
    rw [hP, List.set_append_right _ _ (by omega), Nat.add_sub_cancel_left, List.set_append_left _ _ hu]
  refine ⟨hget, ?_⟩
  obtain ⟨P', hP'⟩ : ∃ P', P' = (packB L).set (H.length + u) y := ⟨_, rfl⟩
  rw [← hP']
  rw [← hP'] at hset
  have hform : P' = magicB ++ frames (L.take i) ++ ([1] ++ enc k.z.toNat ++ enc k.s ++ (k.l.set u y ++ T)) := by rw [hset, hH, hQ]; simp
  have hlen : P'.length = (packB L).length := by rw [hP', List.length_set]
  have hip : isPack P' = true := by rw [hform]; simp [isPack, magicB]
  have ht : (L.take i).take (L.take i).length = L.take i := List.take_length
  have ho : offs (L.take i) (L.take i).length = offs L i := by unfold offs; rw [ht]
  have h1 := salv_pack (hA.take i) (fun k hk => hs k (List.mem_of_mem_take hk)) ([1] ++ enc k.z.toNat ++ enc k.s ++ (k.l.set u y ++ T)) (L.take i).length (Nat.le_refl _)
  rw [← hform, ho, ht] at h1
  have hone : P'[offs L i]? = some 1 := by
    rw [hform, ← hQ, List.getElem?_append_right (by omega), hq, Nat.sub_self]; simp
  have hbad : frameAt P' (offs L i + 1) ((L.take i).map Ck.d).getLast? = .error 290 := by
    have h2 := frameAt_bad (Q ++ [1]) T k (k.l.set u y) (hA.1 k hkm) (hs k hkm) (List.length_set ..) (fp_set hx hxy) ((L.take i).map Ck.d).getLast?
    rw [show Q ++ [1] ++ (enc k.z.toNat ++ (enc k.s ++ (k.l.set u y ++ T))) = P' by rw [hset, hH]; simp, List.length_append, hq] at h2
    exact h2
  have hsv : salv P' = ((L.take i).map Ck.d, offs L i) := stop_of h1 (.inr ⟨_, hbad⟩)
  have hst : stopE P' (offs L i) ((L.take i).map Ck.d) = 290 := stop_err hone hbad
  refine ⟨hsv, hip, ?_⟩
  rw [dec_stop (by omega) hip hsv (by rw [hst]; decide), hst]

/-! ### The whole pack -/
theorem dec_pack {L : List Ck} (hA : Asc L) (hs : ∀ k ∈ L, k.s ≤ 18446744073709551615) (hL : (packB L).length ≤ 1048576) (hn : L.length ≤ 18446744073709551615) :
    salv (packB L) = (L.map Ck.d, offs L L.length) ∧ isPack (packB L) = true ∧ decRes (packB L) = (L.map Ck.d, 0) := by
  have hml : magicB.length = 4 := rfl
  have hip : isPack (packB L) = true := by simp [isPack, packB, bodyB, magicB]
  have hof := offs_full L
  have hpl : (packB L).length = 4 + (frames L).length + (1 + (enc L.length).length + (enc (fp (bodyB L))).length) := by rw [pack_split]; simp [hml]; omega
  have hsv : salv (packB L) = (L.map Ck.d, offs L L.length) := by
    have h := salv_cut hA hs (n := (packB L).length) (i := L.length) (by omega) (Nat.le_refl _) (.inl rfl)
    rwa [List.take_length, List.take_length] at h
  obtain ⟨Q, hQ⟩ : ∃ Q, Q = magicB ++ frames L := ⟨_, rfl⟩
  have hq : Q.length = offs L L.length := by rw [hQ, List.length_append, hml, hof]
  have hz : (packB L)[offs L L.length]? = some 0 := by
    rw [pack_split, ← hQ, List.getElem?_append_right (by omega), hq, Nat.sub_self]; simp
  have hbody : bodyB L = (Q ++ [0]) ++ enc L.length := by rw [hQ]; simp [bodyB]
  have e1 : packB L = (Q ++ [0]) ++ (enc L.length ++ enc (fp (bodyB L))) := by
    rw [packB]
    conv => lhs; lhs; rw [hbody]
    simp
  have e2 : packB L = bodyB L ++ (enc (fp (bodyB L)) ++ []) := by rw [packB, List.append_nil]
  have u1 : uintOk (packB L) (offs L L.length + 1) = some (L.length, (bodyB L).length) := by
    have h := uintOk_enc hn (Q ++ [0]) (enc (fp (bodyB L)))
    rw [← e1, List.length_append, hq, List.length_singleton] at h
    rw [h, hbody]
    simp [hq]
    omega
  have hfl := fp_lt (bodyB L)
  have u2 : uintOk (packB L) (bodyB L).length = some (fp (bodyB L), (packB L).length) := by
    have h := uintOk_enc (v := fp (bodyB L)) (by omega) (bodyB L) []
    rw [← e2] at h
    rw [h]
    congr 2
    rw [packB, List.length_append]
  have hbt : (packB L).take (bodyB L).length = bodyB L := by rw [packB, List.take_left]
  have hE : endE (packB L) (offs L L.length + 1) (L.map Ck.d).length = 0 := by
    unfold endE
    rw [u1]
    simp only [u2]
    rw [if_neg (by simp), if_neg (by simp), hbt, if_neg (by simp)]
  exact ⟨hsv, hip, dec_ok (by omega) hip hsv (stop_zero hz) hE⟩

/-! ### What was read is right -/
theorem frames_app (A B : List Ck) : frames (A ++ B) = frames A ++ frames B := by unfold frames; rw [List.flatMap_append]
/-- A frame that was read is a right chunk's, behind the last one. -/
theorem frameAt_is {l : List UInt8} {at_ nx : Nat} {p : Option Ck} {k : Ck} (h : frameAt l at_ p = .ok (k, nx)) :
    rightB k.s k.z k.l = true ∧ behindB p k = true ∧ k.s ≤ 18446744073709551615 ∧ k.d = k ∧ l.take nx = l.take at_ ++ (enc k.z.toNat ++ enc k.s ++ k.l) := by
  unfold frameAt at h
  cases h1 : uintOk l at_ with
  | none => simp only [h1] at h; cases h
  | some r1 =>
    obtain ⟨z, a1⟩ := r1
    simp only [h1] at h
    cases h2 : uintOk l a1 with
    | none => simp only [h2] at h; cases h
    | some r2 =>
      obtain ⟨s, a2⟩ := r2
      simp only [h2] at h
      obtain ⟨hz, e1, hat, r1, hr1⟩ := uintOk_is h1
      obtain ⟨hs, e2, hat2, r2, hr2⟩ := uintOk_is h2
      split at h
      · cases h
      · rename_i hc
        split at h
        · cases h
        · rename_i hR
          split at h
          · cases h
          · rename_i hB
            simp only [Except.ok.injEq, Prod.mk.injEq] at h
            obtain ⟨rfl, rfl⟩ := h
            refine ⟨Bool.not_eq_false _ ▸ hR, Bool.not_eq_false _ ▸ hB, hs, rfl, ?_⟩
            have t1 : l.take a1 = l.take at_ ++ enc z := by
              conv => lhs; rw [hr1]
              rw [e1, List.take_append, List.length_take, Nat.min_eq_left hat, List.take_take, Nat.min_eq_right (by omega), Nat.add_sub_cancel_left, List.take_left]
            have t2 : l.take a2 = l.take a1 ++ enc s := by
              conv => lhs; rw [hr2]
              rw [e2, List.take_append, List.length_take, Nat.min_eq_left hat2, List.take_take, Nat.min_eq_right (by omega), Nat.add_sub_cancel_left, List.take_left]
            show l.take (a2 + z) = l.take at_ ++ (enc (z : Int).toNat ++ enc s ++ (l.drop a2).take z)
            rw [List.take_add, t2, t1]
            simp
/-- The frames that were read stand there as Encode writes them, ascending. -/
def Got (l : List UInt8) (at_ : Nat) (acc : List Ck) : Prop :=
  l.take at_ = magicB ++ frames acc ∧ at_ ≤ l.length ∧ (∀ k ∈ acc, rightB k.s k.z k.l = true ∧ k.s ≤ 18446744073709551615) ∧ acc.Pairwise fun x y => lessB x y = true
theorem pair_last {L : List Ck} {k : Ck} (hp : L.Pairwise fun x y => lessB x y = true) (hl : behindB L.getLast? k = true) : (L ++ [k]).Pairwise fun x y => lessB x y = true := by
  rw [List.pairwise_append]
  refine ⟨hp, List.pairwise_singleton _ _, fun a ha b hb => ?_⟩
  obtain rfl : b = k := by simpa using hb
  rcases List.eq_nil_or_concat L with rfl | ⟨M, x, rfl⟩
  · cases ha
  · rw [List.concat_eq_append] at hp ha hl
    rw [List.getLast?_append] at hl
    have hlx : lessB x b = true := hl
    rcases List.mem_append.1 ha with h | h
    · exact lessB_trans ((List.pairwise_append.1 hp).2.2 a h x (by simp)) hlx
    · obtain rfl : a = x := by simpa using h
      exact hlx
theorem Got.next {l : List UInt8} {at_ nx : Nat} {acc : List Ck} {k : Ck} (h : Got l at_ acc) (h1 : l[at_]? = some 1) (hf : frameAt l (at_ + 1) acc.getLast? = .ok (k, nx)) : Got l nx (acc ++ [k]) := by
  obtain ⟨hr, hb, hs, -, ht⟩ := frameAt_is hf
  obtain ⟨g1, g2, g3, g4⟩ := h
  refine ⟨?_, (frame_next hf).2, fun y hy => ?_, pair_last g4 hb⟩
  · rw [ht, List.take_add_one, h1, g1, frames_app]
    simp [frames, frameB]
  · rcases List.mem_append.1 hy with h | h
    · exact g3 y h
    · obtain rfl : y = k := by simpa using h
      exact ⟨hr, hs⟩
theorem salvF_got (l : List UInt8) : ∀ (n at_ : Nat) (acc S : List Ck) (G : Nat), Got l at_ acc → salvF l n at_ acc = (S, G) → Got l G S
  | 0, at_, acc, S, G, hg, h => by
    simp only [salvF, Prod.mk.injEq] at h
    obtain ⟨rfl, rfl⟩ := h
    exact hg
  | n + 1, at_, acc, S, G, hg, h => by
    by_cases h1 : l[at_]? = some 1
    · cases hf : frameAt l (at_ + 1) acc.getLast? with
      | error e =>
        rw [salv_stop (.inr ⟨e, hf⟩), Prod.mk.injEq] at h
        obtain ⟨rfl, rfl⟩ := h
        exact hg
      | ok r =>
        obtain ⟨k, nx⟩ := r
        rw [salv_step h1 hf] at h
        exact salvF_got l n nx _ S G (hg.next h1 hf) h
    · rw [salv_stop (.inl h1), Prod.mk.injEq] at h
      obtain ⟨rfl, rfl⟩ := h
      exact hg
theorem salv_got {l : List UInt8} {S : List Ck} {G : Nat} (hp : isPack l = true) (h : salv l = (S, G)) : Got l G S :=
  salvF_got l _ 4 [] S G ⟨by unfold isPack at hp; rw [beq_iff_eq.1 hp]; simp [frames], isPack_len hp, (fun k hk => by cases hk), List.Pairwise.nil⟩ h
theorem pkSalv_right {l : List UInt8} {S : List Ck} {G : Nat} (h : pkSalv l = (S, G)) : (∀ k ∈ S, rightB k.s k.z k.l = true ∧ k.s ≤ 18446744073709551615) ∧ S.Pairwise fun x y => lessB x y = true := by
  unfold pkSalv at h
  split at h
  · rename_i hp
    have hg := salv_got hp h
    exact ⟨hg.2.2.1, hg.2.2.2⟩
  · simp only [Prod.mk.injEq] at h
    obtain ⟨rfl, rfl⟩ := h
    exact ⟨(fun k hk => by cases hk), List.Pairwise.nil⟩
/-- What Decode accepts is the pack of its chunks. -/
theorem dec_is {l : List UInt8} {S : List Ck} (h : decRes l = (S, 0)) : l = packB S ∧ l.length ≤ 1048576 ∧ (∀ k ∈ S, rightB k.s k.z k.l = true ∧ k.s ≤ 18446744073709551615) ∧ S.Pairwise fun x y => lessB x y = true := by
  unfold decRes at h
  split at h
  · cases h
  · rename_i hl
    split at h
    · cases h
    · rename_i hp
      have hp' : isPack l = true := by simpa using hp
      obtain ⟨S', G, hS⟩ : ∃ S G, salv l = (S, G) := ⟨_, _, rfl⟩
      rw [hS] at h
      split at h
      · rename_i h1
        simp only [Prod.mk.injEq] at h
        exact absurd h.2 h1
      · rename_i h1
        split at h
        · rename_i h2
          simp only [Prod.mk.injEq] at h
          exact absurd h.2 h2
        · rename_i h2
          simp only [Prod.mk.injEq, and_true] at h
          subst h
          have hg := salv_got hp' hS
          refine ⟨?_, by omega, hg.2.2.1, hg.2.2.2⟩
          have h1' : stopE l G S' = 0 := by simpa using h1
          have h2' : endE l (G + 1) S'.length = 0 := by simpa using h2
          have h0 : l[G]? = some 0 := by
            unfold stopE at h1'
            cases hx : l[G]? with
            | none => rw [hx] at h1'; cases h1'
            | some x =>
              rw [hx] at h1'
              by_cases hx0 : x = 0
              · rw [hx0]
              · by_cases hx1 : x = 1
                · subst hx1
                  obtain ⟨e, he⟩ := salv_end hS hx
                  simp only [he] at h1'
                  have := frame_errs he
                  simp at h1'
                  omega
                · simp [hx0, hx1] at h1'
          unfold endE at h2'
          cases u1 : uintOk l (G + 1) with
          | none => rw [u1] at h2'; cases h2'
          | some r1 =>
            obtain ⟨c, a1⟩ := r1
            rw [u1] at h2'
            cases u2 : uintOk l a1 with
            | none => simp only [u2] at h2'; cases h2'
            | some r2 =>
              obtain ⟨s, a2⟩ := r2
              simp only [u2] at h2'
              split at h2'
              · cases h2'
              · rename_i hc
                split at h2'
                · cases h2'
                · rename_i ha
                  split at h2'
                  · cases h2'
                  · rename_i hsu
                    have hc' : c = S'.length := by simpa using hc
                    have ha' : a2 = l.length := by simpa using ha
                    have hs' : s = fp (l.take a1) := by simpa using hsu
                    obtain ⟨hz, e1, hat, r1, hr1⟩ := uintOk_is u1
                    obtain ⟨hs, e2, hat2, r2, hr2⟩ := uintOk_is u2
                    have t1 : l.take a1 = l.take (G + 1) ++ enc c := by
                      conv => lhs; rw [hr1]
                      rw [e1, List.take_append, List.length_take, Nat.min_eq_left hat, List.take_take, Nat.min_eq_right (by omega), Nat.add_sub_cancel_left, List.take_left]
                    have t2 : l.take a2 = l.take a1 ++ enc s := by
                      conv => lhs; rw [hr2]
                      rw [e2, List.take_append, List.length_take, Nat.min_eq_left hat2, List.take_take, Nat.min_eq_right (by omega), Nat.add_sub_cancel_left, List.take_left]
                    have hbody : l.take a1 = bodyB S' := by rw [t1, List.take_add_one, h0, hg.1, hc']; simp [bodyB]
                    rw [ha', List.take_length, hs', hbody] at t2
                    rw [t2]; rfl
end Go.Proofs.Ytncdcpaelecikaa
