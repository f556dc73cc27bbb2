/-
  Plain laws of Content, and of what all calls keep.
-/
import Derived.Test.YtpiodpljiklfkaaCacU
import Derived.Test.YtpiodpljiklfkaaRefF
namespace Go.Proofs.Ytpiodpljiklfkaa
/-- The content, chunk by chunk. -/
def conF (room : Nat) (H : List Ch) : List En → List (Nat × Int) → List UInt8 → Option (List En × List UInt8)
  | E, [], out => some (E, out)
  | E, k :: K, out =>
    match atF k E with
    | some i => conF room H (useF E i) K (out ++ (E[i]?.map En.l).getD [])
    | none =>
      match fnd H k with
      | none => none
      | some x => conF room H (putF room E k x.l).1 K (out ++ x.l)
def conC (room : Nat) (H : List Ch) (E : List En) (K : List (Nat × Int)) (S : Int) : List En × List UInt8 × Int :=
  if chkV K S ≠ 0 then (E, [], chkV K S) else match conF room H E K [] with | none => (E, [], 383) | some r => (r.1, r.2, 0)
theorem conF_hit {room : Nat} {H : List Ch} {E : List En} {k : Nat × Int} {K : List (Nat × Int)} {out : List UInt8} {i : Nat} {x : En} (h : atF k E = some i) (hx : E[i]? = some x) : conF room H E (k :: K) out = conF room H (useF E i) K (out ++ x.l) := by
  conv => lhs; unfold conF
  rw [h]
  simp only
  rw [hx]
  rfl
theorem conF_miss {room : Nat} {H : List Ch} {E : List En} {k : Nat × Int} {K : List (Nat × Int)} {out : List UInt8} (h : atF k E = none) (hx : fnd H k = none) : conF room H E (k :: K) out = none := by
  unfold conF
  rw [h]
  simp only
  rw [hx]
theorem conF_put {room : Nat} {H : List Ch} {E : List En} {k : Nat × Int} {K : List (Nat × Int)} {out : List UInt8} {x : Ch} (h : atF k E = none) (hx : fnd H k = some x) : conF room H E (k :: K) out = conF room H (putF room E k x.l).1 K (out ++ x.l) := by
  conv => lhs; unfold conF
  rw [h]
  simp only
  rw [hx]
theorem drop_at {K : List (Nat × Int)} {j : Nat} {k : Nat × Int} (h : K[j]? = some k) : K.drop j = k :: K.drop (j + 1) := by
  obtain ⟨hj, rfl⟩ := List.getElem?_eq_some_iff.1 h
  exact List.drop_eq_getElem_cons hj

/-! ### What the calls keep -/
/-- Short texts of two letters. -/
def Sh (l : List UInt8) : Prop := 1 ≤ l.length ∧ l.length ≤ 4 ∧ ∀ x ∈ l, x.toNat < 2
def ShE (E : List En) : Prop := ∀ x ∈ E, Sh x.l
/-- The pinned chunks stay. -/
def Keeps (E E' : List En) : Prop := ∀ x ∈ E, 0 < x.p → ∃ y ∈ E', y.id = x.id
/-- They stay as they are. -/
def KeepS (E E' : List En) : Prop := ∀ x ∈ E, 0 < x.p → x ∈ E'
theorem KeepS.keeps {E E' : List En} (h : KeepS E E') : Keeps E E' := fun x hx hp => ⟨x, h x hx hp, rfl⟩
theorem KeepS.refl (E : List En) : KeepS E E := fun _ h _ => h
theorem Keeps.refl (E : List En) : Keeps E E := (KeepS.refl E).keeps
theorem KeepS.trans {E E' E'' : List En} (h : KeepS E E') (h2 : KeepS E' E'') : KeepS E E'' := fun x hx hp => h2 x (h x hx hp) hp
theorem use_mem {E : List En} {i : Nat} {x : En} : x ∈ useF E i ↔ x ∈ E := (use_perm E i).1.mem_iff
theorem evF_stay {room : Nat} : ∀ {E : List En} {left : Nat} {x : En}, x ∈ E → 0 < x.p → x ∈ (evF room E left).1
  | [], _, x, h, _ => by cases h
  | y :: E, left, x, h, hp => by
    unfold evF
    by_cases h1 : left ≤ room
    · rw [if_pos h1]; exact h
    · rw [if_neg h1]
      by_cases h2 : y.p = 0
      · rw [if_pos h2]
        rcases List.mem_cons.1 h with rfl | h
        · omega
        · exact evF_stay h hp
      · rw [if_neg h2]
        rcases List.mem_cons.1 h with rfl | h
        · exact List.mem_cons_self ..
        · exact List.mem_cons_of_mem _ (evF_stay h hp)
theorem put_stay {room : Nat} {E : List En} {k : Nat × Int} {l : List UInt8} : KeepS E (putF room E k l).1 := fun x hx hp => by
  unfold putF
  cases atF k E with
  | some i => exact use_mem.2 hx
  | none =>
    simp only
    split
    · exact hx
    · exact List.mem_append_left _ (evF_stay hx hp)
theorem put_mem {room : Nat} {E : List En} {k : Nat × Int} {l : List UInt8} {x : En} (h : x ∈ (putF room E k l).1) : x ∈ E ∨ x = ⟨k.1, k.2, l, 0⟩ := by
  unfold putF at h
  cases hk : atF k E with
  | some i => rw [hk] at h; exact .inl (use_mem.1 h)
  | none =>
    rw [hk] at h
    simp only at h
    split at h
    · exact .inl h
    · rcases List.mem_append.1 h with h | h
      · exact .inl ((evF_sub room E _).1.subset h)
      · exact .inr (by simpa using h)
theorem ShE.put {room : Nat} {E : List En} {k : Nat × Int} {l : List UInt8} (h : ShE E) (hl : Sh l) : ShE (putF room E k l).1 := fun x hx => by
  rcases put_mem hx with hx | rfl
  · exact h x hx
  · exact hl
theorem ShE.use {E : List En} (h : ShE E) (i : Nat) : ShE (useF E i) := fun x hx => h x (use_mem.1 hx)
theorem ShE.get {E : List En} (h : ShE E) (k : Nat × Int) : ShE (getC E k).1 := by
  unfold getC
  cases atF k E with
  | none => exact h
  | some i => exact h.use i
theorem get_stay (E : List En) (k : Nat × Int) : KeepS E (getC E k).1 := by
  unfold getC
  cases atF k E with
  | none => exact KeepS.refl E
  | some i => exact fun x hx _ => use_mem.2 hx
theorem ShE.putC {room : Nat} {E : List En} {k : Nat × Int} {l : List UInt8} (h : ShE E) (hl : Sh l ∨ l = []) : ShE (putC room E k l).1 := by
  unfold Proofs.Ytpiodpljiklfkaa.putC
  by_cases h1 : l.length = 0 ∨ idOf l ≠ k
  · rw [if_pos h1]; exact h
  · rw [if_neg h1]
    rcases hl with hl | rfl
    · exact h.put hl
    · exact absurd (.inl rfl) h1
theorem putC_stay {room : Nat} {E : List En} {k : Nat × Int} {l : List UInt8} : KeepS E (putC room E k l).1 := by
  unfold putC
  split
  · exact KeepS.refl E
  · exact put_stay
theorem setP_mem {E : List En} {i p : Nat} {x : En} (h : x ∈ setP E i p) : ∃ y ∈ E, y.id = x.id ∧ y.l = x.l := by
  unfold setP at h
  cases hx : E[i]? with
  | none => rw [hx] at h; exact ⟨x, h, rfl, rfl⟩
  | some y =>
    rw [hx] at h
    rcases List.mem_or_eq_of_mem_set h with h | rfl
    · exact ⟨x, h, rfl, rfl⟩
    · exact ⟨y, List.mem_of_getElem? hx, rfl, rfl⟩
theorem setP_ids (E : List En) (i p : Nat) : (setP E i p).map En.id = E.map En.id := by
  unfold setP
  cases hx : E[i]? with
  | none => rfl
  | some y =>
    obtain ⟨A, B, rfl, rfl, -⟩ := cut_at hx
    simp only [List.set_append_right _ _ (Nat.le_refl _), Nat.sub_self, List.set_cons_zero, List.map_append, List.map_cons]
    rfl
theorem keeps_ids {E E' : List En} (h : E'.map En.id = E.map En.id) : Keeps E E' := fun x hx _ => by
  have h1 : x.id ∈ E'.map En.id := by rw [h]; exact List.mem_map_of_mem hx
  obtain ⟨y, hy, he⟩ := List.mem_map.1 h1
  exact ⟨y, hy, he⟩
theorem pin_cases (E : List En) (k : Nat × Int) : (pinC E k).1 = E ∨ ∃ i p, (pinC E k).1 = setP E i p := by
  unfold pinC
  cases atF k E with
  | none => exact .inl rfl
  | some i =>
    simp only
    cases E[i]? with
    | none => exact .inl rfl
    | some x =>
      simp only
      split
      · exact .inl rfl
      · exact .inr ⟨_, _, rfl⟩
theorem unp_cases (E : List En) (k : Nat × Int) : (unpC E k).1 = E ∨ ∃ i p, (unpC E k).1 = setP E i p := by
  unfold unpC
  cases atF k E with
  | none => exact .inl rfl
  | some i =>
    simp only
    cases E[i]? with
    | none => exact .inl rfl
    | some x =>
      simp only
      split
      · exact .inl rfl
      · exact .inr ⟨_, _, rfl⟩
theorem set_kept {E E' : List En} (h : E' = E ∨ ∃ i p, E' = setP E i p) : Keeps E E' ∧ (ShE E → ShE E') := by
  rcases h with rfl | ⟨i, p, rfl⟩
  · exact ⟨Keeps.refl _, id⟩
  · refine ⟨keeps_ids (setP_ids E i p), fun h x hx => ?_⟩
    obtain ⟨y, hy, -, hl⟩ := setP_mem hx
    rw [← hl]
    exact h y hy
theorem conF_kept {room : Nat} {H : List Ch} (hH : ∀ x ∈ H, Sh x.l) : ∀ {K : List (Nat × Int)} {E : List En} {out : List UInt8} {r : List En × List UInt8}, conF room H E K out = some r → OkE room E → ShE E → OkE room r.1 ∧ ShE r.1 ∧ KeepS E r.1
  | [], E, out, r, h, ho, hs => by
    cases h
    exact ⟨ho, hs, KeepS.refl _⟩
  | k :: K, E, out, r, h, ho, hs => by
    cases hat : atF k E with
    | some i =>
      obtain ⟨x, hx, -⟩ := atF_some hat
      rw [conF_hit hat hx] at h
      obtain ⟨g1, g2, g3⟩ := conF_kept hH h (ho.use i) (hs.use i)
      exact ⟨g1, g2, fun y hy hp => g3 y (use_mem.2 hy) hp⟩
    | none =>
      cases hf : fnd H k with
      | none => rw [conF_miss hat hf] at h; cases h
      | some x =>
        rw [conF_put hat hf] at h
        obtain ⟨hm, hi, he⟩ := fnd_some hf
        have hp := putF_ok ho (show 0 < x.l.length from (hH x hm).1)
        rw [he] at hp
        obtain ⟨g1, g2, g3⟩ := conF_kept hH h hp (hs.put (hH x hm))
        exact ⟨g1, g2, put_stay.trans g3⟩
theorem conC_kept {room : Nat} {H : List Ch} {E : List En} {K : List (Nat × Int)} {S : Int} (hH : ∀ x ∈ H, Sh x.l) (ho : OkE room E) (hs : ShE E) : OkE room (conC room H E K S).1 ∧ ShE (conC room H E K S).1 ∧ KeepS E (conC room H E K S).1 := by
  unfold conC
  split
  · exact ⟨ho, hs, KeepS.refl _⟩
  · cases h : conF room H E K [] with
    | none => exact ⟨ho, hs, KeepS.refl _⟩
    | some r => exact conF_kept hH h ho hs

/-! ### All chunks at hand -/
def shorts : List (List UInt8) := (List.range 5).flatMap fun n => (List.range (2 ^ n)).map fun v => (List.range n).map fun i => if v.testBit i then 1 else 0
theorem short_apart : (shorts.map fun l => (fp l, l.length)).Nodup := by decide +kernel
theorem byte_two {x : UInt8} (h : x.toNat < 2) : x = 0 ∨ x = 1 := by
  rcases (by omega : x.toNat = 0 ∨ x.toNat = 1) with h | h
  · exact .inl (UInt8.toNat_inj.1 h)
  · exact .inr (UInt8.toNat_inj.1 h)
theorem sh_mem {l : List UInt8} (h : Sh l) : l ∈ shorts := by
  obtain ⟨h1, h2, h3⟩ := h
  have hb : ∀ x ∈ l, x = 0 ∨ x = 1 := fun x hx => byte_two (h3 x hx)
  clear h3
  match l, h1, h2, hb with
  | [a], _, _, hb =>
    rcases hb a (by simp) with rfl | rfl <;> decide +kernel
  | [a, b], _, _, hb =>
    rcases hb a (by simp) with rfl | rfl <;> rcases hb b (by simp) with rfl | rfl <;> decide +kernel
  | [a, b, c], _, _, hb =>
    rcases hb a (by simp) with rfl | rfl <;> rcases hb b (by simp) with rfl | rfl <;> rcases hb c (by simp) with rfl | rfl <;> decide +kernel
  | [a, b, c, d], _, _, hb =>
    rcases hb a (by simp) with rfl | rfl <;> rcases hb b (by simp) with rfl | rfl <;> rcases hb c (by simp) with rfl | rfl <;> rcases hb d (by simp) with rfl | rfl <;> decide +kernel
  | a :: b :: c :: d :: e :: l, _, h, _ => simp at h
theorem inj_of_nodup {α β : Type} {f : α → β} : ∀ {L : List α}, (L.map f).Nodup → ∀ x ∈ L, ∀ y ∈ L, f x = f y → x = y
  | [], _, x, hx => by cases hx
  | a :: L, h, x, hx => fun y hy he => by
    rw [List.map_cons, List.nodup_cons] at h
    rcases List.mem_cons.1 hx with h1 | h1
    · rcases List.mem_cons.1 hy with h2 | h2
      · rw [h1, h2]
      · exact absurd (by rw [← h1, he]; exact List.mem_map_of_mem h2) h.1
    · rcases List.mem_cons.1 hy with h2 | h2
      · exact absurd (by rw [← h2, ← he]; exact List.mem_map_of_mem h1) h.1
      · exact inj_of_nodup h.2 x h1 y h2 he
theorem sh_inj {a b : List UInt8} (ha : Sh a) (hb : Sh b) (h : idOf a = idOf b) : a = b := by
  refine inj_of_nodup short_apart a (sh_mem ha) b (sh_mem hb) ?_
  have h1 : fp a = fp b := congrArg Prod.fst h
  have h2 : (a.length : Int) = b.length := congrArg Prod.snd h
  rw [h1, show a.length = b.length by omega]
/-- All of some texts are in a list of chunks. -/
def Full (H : List Ch) (Ls : List (List UInt8)) : Prop := ∀ l ∈ Ls, ∃ x ∈ H, x.id = idOf l ∧ x.l = l
theorem full_fnd {H : List Ch} {Ls : List (List UInt8)} {l : List UInt8} (hH : ∀ x ∈ H, Sh x.l) (h : Full H Ls) (hl : l ∈ Ls) (hs : Sh l) : ∃ x, fnd H (idOf l) = some x ∧ x.l = l := by
  obtain ⟨y, hy, hi, he⟩ := h l hl
  cases hf : fnd H (idOf l) with
  | none => exact absurd ⟨hi, by rw [he]⟩ (fnd_none.1 hf y hy)
  | some x =>
    obtain ⟨hm, -, hx⟩ := fnd_some hf
    exact ⟨x, rfl, sh_inj (hH x hm) hs hx⟩
theorem at_text {room : Nat} {E : List En} {i : Nat} {x : En} {l : List UInt8} (ho : OkE room E) (hs : ShE E) (hx : E[i]? = some x) (hi : x.id = idOf l) (hl : Sh l) : x.l = l := by
  have hm := List.mem_of_getElem? hx
  exact sh_inj (hs x hm) hl (by rw [← (ho.right x hm).1, hi])
theorem conF_full {room : Nat} {H : List Ch} (hH : ∀ x ∈ H, Sh x.l) : ∀ {Ls : List (List UInt8)} {E : List En} {out : List UInt8}, (∀ l ∈ Ls, Sh l) → Full H Ls → OkE room E → ShE E → ∃ E', conF room H E (Ls.map idOf) out = some (E', out ++ Ls.flatten)
  | [], E, out, _, _, _, _ => ⟨E, by simp [conF]⟩
  | l :: Ls, E, out, hL, hF, ho, hs => by
    have hl := hL l (List.mem_cons_self ..)
    have hL' : ∀ l ∈ Ls, Sh l := fun x hx => hL x (List.mem_cons_of_mem _ hx)
    have hF' : Full H Ls := fun x hx => hF x (List.mem_cons_of_mem _ hx)
    rw [List.map_cons, List.flatten_cons, ← List.append_assoc]
    cases hat : atF (idOf l) E with
    | some i =>
      obtain ⟨x, hx, hi, -⟩ := atF_some hat
      rw [conF_hit hat hx, at_text ho hs hx hi hl]
      exact conF_full hH hL' hF' (ho.use i) (hs.use i)
    | none =>
      obtain ⟨x, hf, hxl⟩ := full_fnd hH hF (List.mem_cons_self ..) hl
      rw [conF_put hat hf, hxl]
      exact conF_full hH hL' hF' (putF_ok ho (show 0 < l.length from hl.1)) (hs.put hl)
def sizeL (Ls : List (List UInt8)) : Nat := Ls.flatten.length
/-- With enough room nothing goes. -/
theorem conF_hold {room : Nat} {H : List Ch} (hH : ∀ x ∈ H, Sh x.l) : ∀ {Ls : List (List UInt8)} {E : List En} {out : List UInt8} {r : List En × List UInt8}, (∀ l ∈ Ls, Sh l) → Full H Ls → OkE room E → ShE E → sizeF E + sizeL Ls ≤ room → conF room H E (Ls.map idOf) out = some r →
    (∀ x ∈ E, x.id ∈ r.1.map En.id) ∧ ∀ l ∈ Ls, idOf l ∈ r.1.map En.id
  | [], E, out, r, _, _, _, _, _, h => by
    simp only [List.map_nil, conF, Option.some.injEq] at h
    subst h
    exact ⟨fun x hx => List.mem_map_of_mem hx, fun l hl => by cases hl⟩
  | l :: Ls, E, out, r, hL, hF, ho, hs, hz, h => by
    have hl := hL l (List.mem_cons_self ..)
    have hL' : ∀ l ∈ Ls, Sh l := fun x hx => hL x (List.mem_cons_of_mem _ hx)
    have hF' : Full H Ls := fun x hx => hF x (List.mem_cons_of_mem _ hx)
    have hz2 : sizeF E + l.length + sizeL Ls ≤ room := by
      simp only [sizeL, List.flatten_cons, List.length_append] at hz ⊢
      omega
    rw [List.map_cons] at h
    cases hat : atF (idOf l) E with
    | some i =>
      obtain ⟨x, hx, hi, -⟩ := atF_some hat
      rw [conF_hit hat hx] at h
      obtain ⟨g1, g2⟩ := conF_hold hH hL' hF' (ho.use i) (hs.use i) (by rw [(use_perm E i).2]; omega) h
      refine ⟨fun y hy => g1 y (use_mem.2 hy), fun y hy => ?_⟩
      rcases List.mem_cons.1 hy with rfl | hy
      · rw [← hi]; exact g1 x (use_mem.2 (List.mem_of_getElem? hx))
      · exact g2 y hy
    | none =>
      obtain ⟨x, hf, hxl⟩ := full_fnd hH hF (List.mem_cons_self ..) hl
      rw [conF_put hat hf, hxl] at h
      have hpe : (putF room E (idOf l) l).1 = E ++ [⟨(idOf l).1, (idOf l).2, l, 0⟩] := by
        unfold putF
        rw [hat]
        simp only
        rw [if_neg (by have := pinF_le E; omega), evF_end (.inl (by omega))]
      obtain ⟨g1, g2⟩ := conF_hold hH hL' hF' (putF_ok ho (show 0 < l.length from hl.1)) (hs.put hl) (by rw [hpe, sizeF_app]; simp only [sizeF]; omega) h
      rw [hpe] at g1
      refine ⟨fun y hy => g1 y (List.mem_append_left _ hy), fun y hy => ?_⟩
      rcases List.mem_cons.1 hy with rfl | hy
      · exact g1 _ (List.mem_append_right _ (List.mem_singleton.2 rfl))
      · exact g2 y hy
/-- From the cache alone. -/
theorem conF_again {room : Nat} {H : List Ch} : ∀ {Ls : List (List UInt8)} {E : List En} {out : List UInt8}, (∀ l ∈ Ls, Sh l) → (∀ l ∈ Ls, idOf l ∈ E.map En.id) → OkE room E → ShE E → ∃ E', conF room H E (Ls.map idOf) out = some (E', out ++ Ls.flatten)
  | [], E, out, _, _, _, _ => ⟨E, by simp [conF]⟩
  | l :: Ls, E, out, hL, hF, ho, hs => by
    have hl := hL l (List.mem_cons_self ..)
    have hL' : ∀ l ∈ Ls, Sh l := fun x hx => hL x (List.mem_cons_of_mem _ hx)
    rw [List.map_cons, List.flatten_cons, ← List.append_assoc]
    cases hat : atF (idOf l) E with
    | some i =>
      obtain ⟨x, hx, hi, -⟩ := atF_some hat
      rw [conF_hit hat hx, at_text ho hs hx hi hl]
      refine conF_again hL' (fun y hy => ?_) (ho.use i) (hs.use i)
      obtain ⟨z, hz, he⟩ := List.mem_map.1 (hF y (List.mem_cons_of_mem _ hy))
      exact List.mem_map.2 ⟨z, use_mem.2 hz, he⟩
    | none =>
      obtain ⟨z, hz, he⟩ := List.mem_map.1 (hF l (List.mem_cons_self ..))
      exact absurd he (atF_none hat z hz)
theorem conC_full {room : Nat} {H : List Ch} {Ls : List (List UInt8)} {E : List En} {S : Int} (hH : ∀ x ∈ H, Sh x.l) (hL : ∀ l ∈ Ls, Sh l) (hF : Full H Ls) (ho : OkE room E) (hs : ShE E) (hS : S = sumK (Ls.map idOf)) :
    ∃ E', conC room H E (Ls.map idOf) S = (E', Ls.flatten, 0) ∧ (sizeF E + sizeL Ls ≤ room → ∀ l ∈ Ls, idOf l ∈ E'.map En.id) := by
  obtain ⟨E', h⟩ := conF_full hH hL hF ho hs (out := [])
  refine ⟨E', ?_, fun hz => (conF_hold hH hL hF ho hs hz h).2⟩
  unfold conC chkV
  rw [if_pos hS, if_neg (by simp), h]
  rfl
theorem conC_again {room : Nat} {H : List Ch} {Ls : List (List UInt8)} {E : List En} {S : Int} (hL : ∀ l ∈ Ls, Sh l) (hF : ∀ l ∈ Ls, idOf l ∈ E.map En.id) (ho : OkE room E) (hs : ShE E) (hS : S = sumK (Ls.map idOf)) :
    ∃ E', conC room H E (Ls.map idOf) S = (E', Ls.flatten, 0) := by
  obtain ⟨E', h⟩ := conF_again (H := H) hL hF ho hs (out := [])
  refine ⟨E', ?_⟩
  unfold conC chkV
  rw [if_pos hS, if_neg (by simp), h]
  rfl
theorem sum_texts : ∀ (Ls : List (List UInt8)), sumK (Ls.map idOf) = (sizeL Ls : Nat)
  | [] => rfl
  | l :: Ls => by
    rw [List.map_cons]
    simp only [sumK, sizeL, List.flatten_cons, List.length_append]
    rw [sum_texts Ls]
    show (l.length : Int) + _ = _
    unfold sizeL
    omega
theorem texts_ids1 {Ls : List (List UInt8)} (h : ∀ l ∈ Ls, Sh l) : Ids1 (Ls.map idOf) := fun k hk => by
  obtain ⟨l, hl, rfl⟩ := List.mem_map.1 hk
  obtain ⟨h1, h2, -⟩ := h l hl
  refine ⟨fp_lt l, ?_, ?_⟩
  · show (1 : Int) ≤ (l.length : Int); omega
  · show (l.length : Int) ≤ 8192; omega
end Go.Proofs.Ytpiodpljiklfkaa
