/-
  Caches: put.
-/
import Derived.Test.YtpiodpljiklfkaaCacG
import Derived.Test.YtpiodpljiklfkaaCacD
import Derived.Deep.CutRange
namespace Go.Proofs.Ytpiodpljiklfkaa
open Go.RowKit Go.WideMaps

/-- What Put answers: the IDs of what went, and the error. -/
def PutO (w : World) (B c room : Nat) (F : List Nat) (r : List En × List (Nat × Int) × Int) (en : Ending) (w' : World) : Prop :=
  ∃ (a : Option Addr) (n cp : Nat), en = .returned (.tuple #[.slice a n cp, .int .i64 r.2.2]) ∧ n = r.2.1.length ∧ w'.ownsRow w.heap.size 45 2 (.slice a n cp) n (r.2.1.flatMap idCells) ∧ CacTo w B c room F r.1 w'
/-- Bytes that a cache leaves alone. -/
def StB (F : List Nat) (w : World) (a : Option Addr) (n cp : Nat) (l : List UInt8) : Prop := ∀ w', Chg F w w' → Bytes w' a n cp l
theorem StB.now {F : List Nat} {w : World} {a : Option Addr} {n cp : Nat} {l : List UInt8} (h : StB F w a n cp l) : Bytes w a n cp l := h w (Chg.refl F w)
theorem Try.elNp : Elem Try.prog 109 77 1 8 (.pointer none) := ⟨Try.underlying109, by kernel_rfl, rfl, by decide⟩
def ptrV (b : Nat) : Value := .pointer (some ⟨b, 0, none⟩)
theorem ptr_one (l : List Nat) : ∀ u ∈ l.map ptrV, u.oneCell' = true := by
  intro u hu
  obtain ⟨k, -, rfl⟩ := List.mem_map.1 hu
  rfl
theorem evF_go {room : Nat} {x : En} {E : List En} {left : Nat} (h : room < left) (hp : x.p = 0) : evF room (x :: E) left = ((evF room E (left - x.l.length)).1, x :: (evF room E (left - x.l.length)).2) := by
  rw [evF, if_neg (by omega), if_pos hp]
theorem evF_keep {room : Nat} {x : En} {E : List En} {left : Nat} (h : room < left) (hp : x.p ≠ 0) : evF room (x :: E) left = (x :: (evF room E left).1, (evF room E left).2) := by
  rw [evF, if_neg (by omega), if_neg hp]
theorem evF_end {room : Nat} {E : List En} {left : Nat} (h : left ≤ room ∨ E = []) : evF room E left = (E, []) := by
  rcases h with h | rfl
  · cases E with
    | nil => rfl
    | cons x E => rw [evF, if_pos h]
  · rfl
/-- Kept of the victims' loop: P has been passed, V of it goes. -/
structure Vic (room : Nat) (N : Nat → Nd) (L : List Nat) (left0 : Nat) (P D V : List Nat) (lf : Nat) : Prop where
  all : L = P ++ D
  goes : (evF room (ents N L) left0).2 = ents N V ++ (evF room (ents N D) lf).2
  stays : (evF room (ents N L) left0).1 = ents N (P.filter fun k => decide (k ∉ V)) ++ (evF room (ents N D) lf).1
  sub : V.Sublist P
  left : lf + sizeF (ents N V) = left0
theorem Vic.start (room : Nat) (N : Nat → Nd) (L : List Nat) (left0 : Nat) : Vic room N L left0 [] L [] left0 := ⟨rfl, rfl, rfl, List.Sublist.refl _, by simp [ents, sizeF]⟩
theorem filter_old {P V : List Nat} {x : Nat} (hx : x ∉ P) : (P.filter fun k => decide (k ∉ V ++ [x])) = P.filter fun k => decide (k ∉ V) :=
  List.filter_congr fun k hk => by
    have : k ≠ x := fun e => hx (e ▸ hk)
    simp [this]
theorem Vic.go {room : Nat} {N : Nat → Nd} {L P D V : List Nat} {left0 lf x : Nat} (h : Vic room N L left0 P (x :: D) V lf) (hn : L.Nodup) (hlt : room < lf) (hp : (N x).pins = 0) (hle : (N x).l.length ≤ lf) :
    Vic room N L left0 (P ++ [x]) D (V ++ [x]) (lf - (N x).l.length) := by
  have hxP : x ∉ P := by
    have h1 := h.all ▸ hn
    rw [List.nodup_append] at h1
    exact fun hm => h1.2.2 x hm x (by simp) rfl
  have he : ents N (x :: D) = enOf (N x) :: ents N D := rfl
  have hg := h.goes
  have hs := h.stays
  rw [he, evF_go hlt (show (enOf (N x)).p = 0 from hp)] at hg hs
  refine ⟨by rw [h.all]; simp, ?_, ?_, ?_, ?_⟩
  · rw [hg]; simp [ents]; rfl
  · rw [hs, List.filter_append, filter_old hxP]
    simp [ents]
    rfl
  · exact h.sub.append (List.Sublist.refl _)
  · have h1 := h.left
    have h2 : sizeF (ents N (V ++ [x])) = sizeF (ents N V) + (N x).l.length := by simp only [ents, List.map_append, sizeF_app, List.map_cons, List.map_nil, sizeF, enOf]; omega
    omega
theorem Vic.keep {room : Nat} {N : Nat → Nd} {L P D V : List Nat} {left0 lf x : Nat} (h : Vic room N L left0 P (x :: D) V lf) (hn : L.Nodup) (hlt : room < lf) (hp : (N x).pins ≠ 0) :
    Vic room N L left0 (P ++ [x]) D V lf := by
  have hxP : x ∉ P := by
    have h1 := h.all ▸ hn
    rw [List.nodup_append] at h1
    exact fun hm => h1.2.2 x hm x (by simp) rfl
  have hxV : x ∉ V := fun hm => hxP (h.sub.subset hm)
  have he : ents N (x :: D) = enOf (N x) :: ents N D := rfl
  have hg := h.goes
  have hs := h.stays
  rw [he, evF_keep hlt (show (enOf (N x)).p ≠ 0 from hp)] at hg hs
  refine ⟨by rw [h.all]; simp, hg, ?_, h.sub.trans (List.sublist_append_left _ _), h.left⟩
  rw [hs, List.filter_append]
  simp [ents, hxV]
/-- At the end of the loop. -/
theorem Vic.fin {room : Nat} {N : Nat → Nd} {L P D V : List Nat} {left0 lf : Nat} (h : Vic room N L left0 P D V lf) (hn : L.Nodup) (he : lf ≤ room ∨ D = []) :
    (evF room (ents N L) left0).2 = ents N V ∧ (evF room (ents N L) left0).1 = ents N (L.filter fun k => decide (k ∉ V)) ∧ V.Sublist L := by
  have h1 := evF_end (room := room) (E := ents N D) (left := lf) (he.imp id fun h => by rw [h]; rfl)
  have hg := h.goes
  have hs := h.stays
  rw [h1] at hg hs
  have hDV : (D.filter fun k => decide (k ∉ V)) = D := List.filter_eq_self.2 fun k hk => by
    have h2 := h.all ▸ hn
    rw [List.nodup_append] at h2
    simp only [decide_eq_true_eq]
    exact fun hm => h2.2.2 k (h.sub.subset hm) k hk rfl
  refine ⟨by simpa using hg, ?_, by rw [h.all]; exact h.sub.trans (List.sublist_append_left _ _)⟩
  rw [hs, h.all, List.filter_append, hDV]
  simp [ents]
/-- One more is taken out. -/
theorem filter_take {L V : List Nat} {j x : Nat} (hx : V[j]? = some x) (hV : V.Sublist L) (hn : L.Nodup) :
    ∃ A D, (L.filter fun k => decide (k ∉ V.take j)) = A ++ x :: D ∧ (L.filter fun k => decide (k ∉ V.take (j + 1))) = A ++ D := by
  have hVn := hV.nodup hn
  have hxL : x ∈ L := hV.subset (List.mem_of_getElem? hx)
  have htk : V.take (j + 1) = V.take j ++ [x] := by rw [List.take_add_one, hx]; rfl
  have hxt : x ∉ V.take j := by
    have h1 : (V.take (j + 1)).Nodup := hVn.sublist (List.take_sublist _ _)
    rw [htk, List.nodup_append] at h1
    exact fun hm => h1.2.2 x hm x (by simp) rfl
  have hxf : x ∈ L.filter fun k => decide (k ∉ V.take j) := List.mem_filter.2 ⟨hxL, by simpa using hxt⟩
  obtain ⟨A, D, hAD⟩ := List.append_of_mem hxf
  refine ⟨A, D, hAD, ?_⟩
  have h2 : (L.filter fun k => decide (k ∉ V.take (j + 1))) = (L.filter fun k => decide (k ∉ V.take j)).filter fun k => decide (k ≠ x) := by
    rw [List.filter_filter]
    refine List.filter_congr fun k _ => ?_
    rw [htk]
    by_cases h1 : k = x <;> simp [h1]
  have h3 : (A ++ x :: D).Nodup := hAD ▸ hn.sublist List.filter_sublist
  rw [List.nodup_append, List.nodup_cons] at h3
  have hA : (A.filter fun k => decide (k ≠ x)) = A := List.filter_eq_self.2 fun k hk => decide_eq_true fun e => h3.2.2 k hk x (by simp) e
  have hD : (D.filter fun k => decide (k ≠ x)) = D := List.filter_eq_self.2 fun k hk => decide_eq_true fun e => h3.2.1.1 (e ▸ hk)
  rw [h2, hAD, List.filter_append, List.filter_cons, if_neg (by simp), hA, hD]
end Go.Proofs.Ytpiodpljiklfkaa
