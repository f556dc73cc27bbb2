/-
  Decode, the program's and the reference's.
-/
import Derived.Test.YtncdcpaelecikaaPackV
import Derived.Test.YtncdcpaelecikaaPackT
namespace Go.Proofs.Ytncdcpaelecikaa
open Go.RowKit

/-- What Decode answers: chunks, error. -/
def decRes (l : List UInt8) : List Ck × Int :=
  if 1048576 < l.length then ([], 292) else if isPack l = false then ([], 293)
  else if stopE l (salv l).2 (salv l).1 ≠ 0 then ([], stopE l (salv l).2 (salv l).1)
  else if endE l ((salv l).2 + 1) (salv l).1.length ≠ 0 then ([], endE l ((salv l).2 + 1) (salv l).1.length) else ((salv l).1, 0)
def DecIs (w : World) (S : List Ck) (er : Int) (N : Nat) (e : Ending) (w' : World) : Prop :=
  ∃ (cn cc : Nat) (ca : Option Addr) (L : List Ck), e = .returned (.tuple #[.slice ca cn cc, .int .i64 er]) ∧ OwnCks w' w.heap.size ca cn cc L ∧ L.map Ck.d = S ∧ Ext w w' ∧ cn ≤ N
def DecPost (w : World) (l : List UInt8) (e : Ending) (w' : World) : Prop := DecIs w (decRes l).1 (decRes l).2 1048576 e w'
theorem DecPost.is {w w' : World} {l : List UInt8} {e : Ending} {S : List Ck} {er : Int} (h : DecPost w l e w') (hs : decRes l = (S, er)) : DecIs w S er 1048576 e w' := by
  unfold DecPost at h
  rw [hs] at h
  exact h
theorem DecPost.no {w w' : World} {l : List UInt8} {er : Int} (h : decRes l = ([], er)) (hx : Ext w w') : DecPost w l (.returned (.tuple #[.slice none 0 0, .int .i64 er])) w' := by
  unfold DecPost
  rw [h]
  exact ⟨0, 0, none, [], rfl, OwnCks.nil _ _, rfl, hx, Nat.zero_le _⟩
theorem FramesPost.is {w0 w' : World} {g : Nat} {V : Value} {l : List UInt8} {e : Ending} {S : List Ck} {G : Nat} (h : FramesPost w0 g V l e w') (hs : salv l = (S, G)) :
    ∃ (at_ : Int) (cn cc : Nat) (ca : Option Addr) (L : List Ck), e = .returned (.int .i64 (stopE l G S)) ∧ Rd w' g V at_ (.slice ca cn cc) G ∧ OwnCks w' w0.heap.size ca cn cc L ∧ Ext w0 w' ∧ L.map Ck.d = S ∧ cn ≤ G ∧ G ≤ l.length ∧ (stopE l G S = 0 → at_ = (G : Int) + 1) := by
  obtain ⟨at_, good, cn, cc, ca, L, rfl, h2, h3, h4, h5, h6, h7, h8⟩ := h
  rw [hs, Prod.mk.injEq] at h5
  obtain ⟨rfl, rfl⟩ := h5
  exact ⟨at_, cn, cc, ca, L, rfl, h2, h3, h4, rfl, h7, h6, h8⟩
theorem salvF_end (l : List UInt8) : ∀ (n at_ : Nat) (acc S : List Ck) (G : Nat), l.length - at_ ≤ n → salvF l n at_ acc = (S, G) → l[G]? = some 1 → ∃ e, frameAt l (G + 1) S.getLast? = .error e
  | 0, at_, acc, S, G, hn, h, hG => by
    simp only [salvF, Prod.mk.injEq] at h
    obtain ⟨rfl, rfl⟩ := h
    rw [List.getElem?_eq_none_iff.2 (by omega)] at hG
    cases hG
  | n + 1, at_, acc, S, G, hn, h, hG => by
    by_cases h1 : l[at_]? = some 1
    · cases hf : frameAt l (at_ + 1) acc.getLast? with
      | error e =>
        rw [salv_stop (.inr ⟨e, hf⟩), Prod.mk.injEq] at h
        obtain ⟨rfl, rfl⟩ := h
        exact ⟨e, hf⟩
      | ok r =>
        obtain ⟨k, nx⟩ := r
        rw [salv_step h1 hf] at h
        have := frame_next hf
        exact salvF_end l n nx _ S G (by omega) h hG
    · rw [salv_stop (.inl h1), Prod.mk.injEq] at h
      obtain ⟨rfl, rfl⟩ := h
      exact absurd hG h1
theorem salv_end {l : List UInt8} {S : List Ck} {G : Nat} (h : salv l = (S, G)) (hG : l[G]? = some 1) : ∃ e, frameAt l (G + 1) S.getLast? = .error e := salvF_end l _ _ _ S G (Nat.sub_le _ _) h hG
theorem salvF_le (l : List UInt8) : ∀ (n at_ : Nat) (acc : List Ck), at_ ≤ l.length → (salvF l n at_ acc).2 ≤ l.length
  | 0, at_, acc, h => h
  | n + 1, at_, acc, h => by
    by_cases h1 : l[at_]? = some 1
    · cases hf : frameAt l (at_ + 1) acc.getLast? with
      | error e => rw [salv_stop (.inr ⟨e, hf⟩)]; exact h
      | ok r =>
        obtain ⟨k, nx⟩ := r
        rw [salv_step h1 hf]
        exact salvF_le l n nx _ (frame_next hf).2
    · rw [salv_stop (.inl h1)]; exact h

theorem dec_big {l : List UInt8} (h : 1048576 < l.length) : decRes l = ([], 292) := by unfold decRes; rw [if_pos h]
theorem dec_odd {l : List UInt8} (h : ¬ 1048576 < l.length) (hp : isPack l = false) : decRes l = ([], 293) := by unfold decRes; rw [if_neg h, if_pos hp]
theorem dec_stop {l : List UInt8} {S : List Ck} {G : Nat} (h : ¬ 1048576 < l.length) (hp : isPack l = true) (hs : salv l = (S, G)) (he : stopE l G S ≠ 0) : decRes l = ([], stopE l G S) := by
  unfold decRes; rw [if_neg h, if_neg (by rw [hp]; decide), hs, if_pos he]
theorem dec_end {l : List UInt8} {S : List Ck} {G : Nat} (h : ¬ 1048576 < l.length) (hp : isPack l = true) (hs : salv l = (S, G)) (he : stopE l G S = 0) (h2 : endE l (G + 1) S.length ≠ 0) : decRes l = ([], endE l (G + 1) S.length) := by
  unfold decRes; rw [if_neg h, if_neg (by rw [hp]; decide), hs, if_neg (by simpa using he), if_pos h2]
theorem dec_ok {l : List UInt8} {S : List Ck} {G : Nat} (h : ¬ 1048576 < l.length) (hp : isPack l = true) (hs : salv l = (S, G)) (he : stopE l G S = 0) (h2 : endE l (G + 1) S.length = 0) : decRes l = (S, 0) := by
  unfold decRes; rw [if_neg h, if_neg (by rw [hp]; decide), hs, if_neg (by simpa using he), if_neg (by simpa using h2)]
theorem ne0 {x : Int} (h : x ≠ 0) : (x == 0) = false ∧ (x != 0) = true := ⟨by simpa using h, by simpa using h⟩

set_option maxRecDepth 100000 in
set_option maxHeartbeats 4000000 in
theorem Decode_any (a : Option Addr) (n c : Nat) (l : List UInt8) (w : World) (hb : Bytes w a n c l) (hn : n ≤ 140737488355328) :
    Calls Try.prog 22 #[.slice a n c] w (DecPost w l) := by
  have hbl := hb.len
  by_cases hbig : 1048576 < l.length
  · have HD := Lib.hid (dec_big hbig)
    go_enter Try.func22, Try.ntmps22
    go_wp2
    go_ret2
    exact DecPost.no HD.out (Below.refl _ _)
  by_cases hp : isPack l = true
  rotate_left
  · have hp' := Bool.eq_false_iff.2 hp
    have HD := Lib.hid (dec_odd hbig hp')
    clear hp
    go_enter Try.func22, Try.ntmps22
    go_wp2_with (go_at_call 39; (with_reducible refine (newReader_no a n c l _ hb (by omega) hp').mono ?_); rintro e w1 ⟨rfl, rfl⟩)
    go_ret2
    exact DecPost.no HD.out (Below.refl _ _)
  have h4 := isPack_len hp
  have h4n : 4 ≤ n := by omega
  obtain ⟨S, G, hS⟩ : ∃ S G, salv l = (S, G) := ⟨_, _, rfl⟩
  have HS := Lib.hid hS
  have HP := Lib.hid hp
  have HB := Lib.hid hbig
  have hsml : n ≤ 1048576 := by omega
  clear hS hp hbig h4
  obtain ⟨er, her⟩ : ∃ er, stopE l G S = er := ⟨_, rfl⟩
  by_cases h0 : er = 0
  rotate_left
  · have HD := Lib.hid (dec_stop HB.out HP.out HS.out (by rw [her]; exact h0))
    rw [her] at HD
    have HE := Lib.hid her
    obtain ⟨q0, q1⟩ := ne0 h0
    clear her h0
    go_enter Try.func22, Try.ntmps22
    go_wp2_with (first
      | (go_at_call 39; (with_reducible refine (newReader_yes a n c l _ hb (by omega) HP.out).mono ?_); rintro e w1 ⟨g, rfl, hR1, hg1, hx1⟩)
      | (go_at_call 40; (with_reducible refine (frames_any g a n c l w _ hx1 hg1 hb (by omega) h4n hR1).mono ?_); rintro e w2 hp2; obtain ⟨at2, cn, cc, ca, L, rfl, hR2, hO2, hx2, hLS, hcG, hGl, hat⟩ := hp2.is HS.out; rw [HE.out]))
    go_ret2
    exact DecPost.no HD.out hx2
  subst h0
  have HE := Lib.hid her
  obtain ⟨e2, he2⟩ : ∃ e2, endE l (G + 1) S.length = e2 := ⟨_, rfl⟩
  by_cases h0 : e2 = 0
  rotate_left
  · have HD := Lib.hid (dec_end HB.out HP.out HS.out her (by rw [he2]; exact h0))
    rw [he2] at HD
    have HE2 := Lib.hid he2
    obtain ⟨q0, q1⟩ := ne0 h0
    clear her h0 he2
    go_enter Try.func22, Try.ntmps22
    go_wp2_with (first
      | (go_at_call 39; (with_reducible refine (newReader_yes a n c l _ hb (by omega) HP.out).mono ?_); rintro e w1 ⟨g, rfl, hR1, hg1, hx1⟩)
      | (go_at_call 40; (with_reducible refine (frames_any g a n c l w _ hx1 hg1 hb (by omega) h4n hR1).mono ?_); rintro e w2 hp2; obtain ⟨at2, cn, cc, ca, L, rfl, hR2, hO2, hx2, hLS, hcG, hGl, hat⟩ := hp2.is HS.out; obtain rfl : at2 = ((G + 1 : Nat) : Int) := (by have := hat HE.out; omega); rw [HE.out]; clear hat; have hcnS : S.length = cn := (by rw [← hLS, List.length_map]; exact hO2.len); rw [hcnS] at HE2; have hne : ∀ p, a = some p → p.block ≠ g := (fun p hp => by have := hb.lt (by omega) p hp; omega))
      | (go_at_call 46; (with_reducible refine (end_any g a n c ca cn cc (G + 1) G l _ (hb.ext hx2) hne (by omega) hR2 (by omega)).mono ?_); rw [HE2.out]; rintro e w3 ⟨rfl, ⟨at3, gd3, hR3⟩, hg3⟩))
    go_ret2
    exact DecPost.no HD.out (hx2.rd hg3 hg1)
  subst h0
  have HD := Lib.hid (dec_ok HB.out HP.out HS.out her he2)
  have HE2 := Lib.hid he2
  clear her he2
  go_enter Try.func22, Try.ntmps22
  go_wp2_with (first
    | (go_at_call 39; (with_reducible refine (newReader_yes a n c l _ hb (by omega) HP.out).mono ?_); rintro e w1 ⟨g, rfl, hR1, hg1, hx1⟩)
    | (go_at_call 40; (with_reducible refine (frames_any g a n c l w _ hx1 hg1 hb (by omega) h4n hR1).mono ?_); rintro e w2 hp2; obtain ⟨at2, cn, cc, ca, L, rfl, hR2, hO2, hx2, hLS, hcG, hGl, hat⟩ := hp2.is HS.out; obtain rfl : at2 = ((G + 1 : Nat) : Int) := (by have := hat HE.out; omega); rw [HE.out]; clear hat; have hcnS : S.length = cn := (by rw [← hLS, List.length_map]; exact hO2.len); rw [hcnS] at HE2; have hne : ∀ p, a = some p → p.block ≠ g := (fun p hp => by have := hb.lt (by omega) p hp; omega))
    | (go_at_call 46; (with_reducible refine (end_any g a n c ca cn cc (G + 1) G l _ (hb.ext hx2) hne (by omega) hR2 (by omega)).mono ?_); rw [HE2.out]; rintro e w3 ⟨rfl, ⟨at3, gd3, hR3⟩, hg3⟩; have hc3 := (fun j => hR3.cells w3 j (Below.refl _ _))))
  go_ret2
  unfold DecPost
  rw [HD.out]
  exact ⟨cn, cc, ca, L, rfl, hO2.rd hR2 hg3, hLS, hx2.rd hg3 hg1, by omega⟩
end Go.Proofs.Ytncdcpaelecikaa
