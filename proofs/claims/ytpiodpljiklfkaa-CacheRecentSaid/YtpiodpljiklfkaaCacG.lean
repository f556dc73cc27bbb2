/-
  Caches: evict.
-/
import Derived.Test.YtpiodpljiklfkaaCacF
namespace Go.Proofs.Ytpiodpljiklfkaa
open Go.RowKit Go.WideMaps

theorem sizeF_sub {E E' : List En} (h : E'.Sublist E) : sizeF E' ≤ sizeF E := by
  induction h with
  | slnil => exact Nat.le_refl _
  | cons x _ ih => simp only [sizeF]; omega
  | cons_cons x _ ih => simp only [sizeF]; omega
theorem OkE.sub {room : Nat} {E E' : List En} (h : OkE room E) (hs : E'.Sublist E) : OkE room E' :=
  ⟨fun x hx => h.right x (hs.subset hx), (hs.map En.id).nodup h.apart, Nat.le_trans (sizeF_sub hs) h.fits⟩

set_option maxRecDepth 100000 in
set_option maxHeartbeats 4000000 in
theorem evict38_any (B c m e room x : Nat) (N : Nat → Nd) (A D : List Nat) (w : World) (h : Ca w B c m e room N (A ++ x :: D)) :
    Calls Try.prog 60 #[.pointer (some ⟨c, 0, none⟩), .pointer (some ⟨x, 0, none⟩)] w
      (fun en w' => en = .returned (.tuple #[]) ∧ ∃ N', SameD N N' ∧ NodeAt w' x (N' x) ∧ Ca w' B c m e room N' (A ++ D) ∧ Chg (c :: m :: e :: (A ++ x :: D)) w w') := by
  have hkey := id_key h.ok h.max (x := enOf (N x)) (List.mem_map_of_mem (f := fun k => enOf (N k)) (by simp))
  obtain ⟨k, hk, hkv⟩ := key_of hkey.1 hkey.2
  have hxS : x ∈ e :: (A ++ x :: D) := by simp
  have hnd := h.nodup
  have hxe : x ≠ e := by
    rintro rfl
    simp at hnd
  have hxAD : x ∉ A ++ D := by
    have h1 := (List.nodup_cons.1 hnd).2
    rw [List.nodup_append, List.nodup_cons] at h1
    intro hm
    rcases List.mem_append.1 hm with hm | hm
    · exact h1.2.2 x hm x (by simp) rfl
    · exact h1.2.1.1 hm
  have hr := h.ring
  have h2 := Seg.append.1 hr
  have hp := h2.1.last
  have hn := h2.2.head
  have hpA : (N x).prev ∈ e :: A := by rw [hp]; exact lastD_mem e A
  have hnD : (N x).next ∈ D ++ [e] := by
    rw [hn]
    cases D with
    | nil => simp
    | cons d D => simp
  have ha : (N x).prev ∈ e :: (A ++ x :: D) := by rcases List.mem_cons.1 hpA with h | h <;> simp [h]
  have hb : (N x).next ∈ e :: (A ++ x :: D) := by
    rcases List.mem_append.1 hnD with h | h
    · simp [h]
    · simp at h; simp [h]
  have hax : (N x).prev ≠ x := fun e => by
    rw [e] at hpA
    rcases List.mem_cons.1 hpA with h | h
    · exact hxe h
    · exact hxAD (List.mem_append_left _ h)
  have hbx : (N x).next ≠ x := fun e => by
    rw [e] at hnD
    rcases List.mem_append.1 hnD with h | h
    · exact hxAD (List.mem_append_right _ h)
    · exact hxe (by simpa using h)
  have HU := Lib.hid (unlink_any x N (e :: (A ++ x :: D)) w h.nodes hxS ha hb hax hbx)
  obtain ⟨N1, hN1⟩ : ∃ N1, N1 = setPrev (setNext N (N x).prev (N x).next) (N x).next (N x).prev := ⟨_, rfl⟩
  have hR1 := hr.unlink hnd
  rw [← hN1] at hR1 HU
  have hS1 : SameD N N1 := by rw [hN1]; exact (sameD_setNext _ _ _).trans (sameD_setPrev _ _ _)
  have hsub : (A ++ D).Sublist (A ++ x :: D) := (List.Sublist.refl A).append (List.sublist_cons_self x D)
  have hnd1 : (e :: (A ++ D)).Nodup := hnd.sublist (hsub.cons_cons e)
  have hsm := h.small (x := x) (by simp)
  have hsz : sizeF (ents N (A ++ x :: D)) = sizeF (ents N (A ++ D)) + (N x).n := by
    simp only [ents, List.map_append, List.map_cons, sizeF_app, sizeF]
    have : (enOf (N x)).l = (N x).l := rfl
    rw [this]
    omega
  have hfit := h.ok.fits
  have hmax := h.max
  obtain ⟨-, -, q1, q2, q3, -, -⟩ := hS1 x
  obtain ⟨T, hT⟩ : ∃ T, T = sizeF (ents N (A ++ D)) := ⟨_, rfl⟩
  obtain ⟨nn, hnn⟩ : ∃ nn, nn = (N x).n := ⟨_, rfl⟩
  rw [← hT, ← hnn] at hsz
  have hwr : IntKind.i64.wrap (T : Int) = (T : Int) := by rw [IntKind.wrap_i64]; omega
  have hbox := h.box
  rw [hsz] at hbox
  have HBX := Lib.hid hbox
  have HC := Lib.hid h
  have HR := Lib.hid hR1
  have HS := Lib.hid hS1
  have HSUB := Lib.hid hsub
  have HND := Lib.hid hnd1
  have HKV := Lib.hid hkv
  have HK := Lib.hid hk
  have HT := Lib.hid hT
  have HNN := Lib.hid hnn
  have HX := Lib.hid hxAD
  have hq4 : (N1 x).s = (N x).s ∧ (N1 x).z = (N x).z := ⟨(hS1 x).1, (hS1 x).2.1⟩
  have HQ := Lib.hid (show (N1 x).a = (N x).a ∧ (N1 x).n = nn ∧ (N1 x).c = (N x).c from ⟨q1, q2.trans hnn.symm, q3⟩)
  have HQ4 := Lib.hid hq4
  clear hR1 hS1 hsub hnd1 hkv hk hT hnn hbox h hr h2 hp hn hpA hnD ha hb hax hbx hnd hxS hN1 q1 q2 q3 hkey hsm hsz hxAD hq4
  go_enter Try.func60, Try.ntmps60
  go_wp2_with (first
    | (go_at_call 58; (with_reducible refine HU.out.mono ?_); rintro en w1 ⟨rfl, hn1, hc1⟩; refine Stop.of ?_)
    | fail)
  have HN1 := Lib.hid hn1
  have HC1 := Lib.hid hc1
  have HB1 := Lib.hid (HBX.out.chg hc1 HC.out.c_ne)
  have HM1 := Lib.hid (HC.out.map.chg hc1 HC.out.m_ne.1)
  have HX1 := Lib.hid (hn1 x (by simp))
  clear hn1 hc1
  refine Stop.out ?_
  go_wp2
  refine wp_region_u (fun w' => Ext w1 w') (Ext.drew' w1) [8] (.qs [0, 1, 2, 3, 4, 5, 6, 7] (.l 8 .nil)) (by kernel_rfl) (by kernel_rfl) ?_
  iterate 3 ((refine wpZ_q rfl rfl _ (fun w' hx' => by go_simp; try rfl) ?_; go_simp))
  refine wpZ_q rfl rfl (.map (some m)) (fun w' hh => by have hb' := BoxAt.map (Ext.heap' hh HB1.out); go_simp; try rfl) ?_
  go_simp
  iterate 3 ((refine wpZ_q rfl rfl _ (fun w' hx' => by go_simp; try rfl) ?_; go_simp))
  refine wpZ_ld rfl rfl (.tmp 12) rfl x 2 rfl [.int .u64 (N x).s, .int .i64 (N x).z] _ (fun w' hh => by have hh2 := NodeAt.id (Ext.heap' hh HX1.out); rw [HQ4.out.1, HQ4.out.2] at hh2; exact hh2) Try.underlying45 rfl (by kernel_rfl) ?_
  refine wpZ_l rfl rfl (owp_del Try.kvI (.tmp 9) (.tmp 13) rfl Try.underlying76 rfl (HM1.out.ext (Ext.drew' w1)) k HKV.out.symm ?_)
  intro w2 hm2 hg2
  refine ⟨(fun h => by cases h), wpZ_nil ?_⟩
  have hc2 : Chg [m] w1 w2 := (Chg.drew _ w1).trans' (Chg.of_grown hg2 (by simp))
  have HB2 := Lib.hid (HB1.out.chg hc2 (by simpa using fun e => HC.out.m_ne.2 e.symm))
  have hmS := HC.out.m_ne.1
  have HN2 := Lib.hid (fun k (hk : k ∈ e :: (A ++ x :: D)) => (HN1.out k hk).chg hc2 (fun hm => hmS ((List.mem_singleton.1 hm) ▸ hk)))
  have HM2 := Lib.hid hm2
  have HC2 := Lib.hid hc2
  have HX2 := Lib.hid (HN2.out x (by simp))
  clear hm2 hg2 hc2 hmS
  go_wp2
  refine wp_region_u (fun w' => Ext w2 w') (Ext.drew' w2) [12] (.qs [0, 1, 2, 3, 4, 5, 6, 7, 8, 9, 10, 11] (.l 12 .nil)) (by kernel_rfl) (by kernel_rfl) ?_
  iterate 3 ((refine wpZ_q rfl rfl _ (fun w' hx' => by go_simp; try rfl) ?_; go_simp))
  refine wpZ_q rfl rfl (.int .i64 ((T + nn : Nat) : Int)) (fun w' hh => by have hb' := BoxAt.total (Ext.heap' hh HB2.out); go_simp; try rfl) ?_
  go_simp
  iterate 3 ((refine wpZ_q rfl rfl _ (fun w' hx' => by go_simp; try rfl) ?_; go_simp))
  refine wpZ_q rfl rfl (.slice (N x).a nn (N x).c) (fun w' hh => by have hb' := NodeAt.bytes (Ext.heap' hh HX2.out); rw [HQ.out.1, HQ.out.2.1, HQ.out.2.2] at hb'; go_simp; try rfl) ?_
  go_simp
  ((refine wpZ_q rfl rfl _ (fun w' hx' => by go_simp; try rfl) ?_; go_simp))
  refine wpZ_q rfl rfl (.int .i64 (T : Int)) (fun w' hh => by go_simp; try rfl) ?_
  go_simp
  iterate 2 ((refine wpZ_q rfl rfl _ (fun w' hx' => by go_simp; try rfl) ?_; go_simp))
  have hb3 : BoxAt w2.drew c room ((T + nn : Nat) : Int) m e := HB2.out
  refine wpZ_l rfl rfl (owp_st1 3 _ _ rfl c 1 (.int .i64 (T : Int)) rfl rfl rfl (hb3.there (by decide)) (by kernel_rfl) rfl ?_)
  refine ⟨(fun h => by cases h), wpZ_nil ?_⟩
  have hc3 : Chg [c] w2 (w2.drew.setCell ⟨c, 1, none⟩ (.int .i64 (T : Int))) := (Chg.drew _ w2).trans' (chg_set _ (by simp))
  have hb4 := hb3.set1 (t' := (T : Int))
  generalize w2.drew.setCell ⟨c, 1, none⟩ (.int .i64 (T : Int)) = w3 at hc3 hb4 ⊢
  clear hwr hb3
  go_wp2
  refine bodyPost_end (results_none rfl _ _ _) rfl ?_
  have hcF : Chg (c :: m :: e :: (A ++ x :: D)) w w3 := ((HC1.out.mono (fun k hk => List.mem_cons_of_mem _ (List.mem_cons_of_mem _ hk))).trans' (HC2.out.mono (by simp))).trans' (hc3.mono (by simp))
  have hT := HC.out.typed
  have hsubm : ∀ k ∈ A ++ D, k ∈ A ++ x :: D := fun k hk => HSUB.out.subset hk
  have hE : ents N1 (A ++ D) = ents N (A ++ D) := HS.out.ents _
  have hok : OkE room (ents N1 (A ++ D)) := by rw [hE]; exact HC.out.ok.sub (HSUB.out.map _)
  have hce := HC.out.c_ne
  have hn3 : ∀ k ∈ e :: (A ++ x :: D), NodeAt w3 k (N1 k) := fun k hk => (HN2.out k hk).chg hc3 (fun hm => hce ((List.mem_singleton.1 hm) ▸ hk))
  refine ⟨rfl, N1, HS.out, hn3 x (by simp), ⟨by rw [hE, ← HT.out]; exact hb4, fun k hk => hn3 k ?_, HR.out, HND.out, ?_, fun k hk => ?_, fun k hk => ?_, hok, hmax⟩, hcF⟩
  · rcases List.mem_cons.1 hk with h | h
    · simp [h]
    · exact List.mem_cons_of_mem _ (hsubm k h)
  · refine (MapF.chg HM2.out hc3 (by simpa using HC.out.m_ne.2)).congr fun a => ?_
    have hxk : (enOf (N x)).id = k.1 := HK.out.symm
    unfold mapOf
    by_cases hak : a = k
    · subst hak
      rw [if_pos rfl]
      have : blkOf N1 (A ++ D) a.1 = none := by
        cases hbk : blkOf N1 (A ++ D) a.1 with
        | none => rfl
        | some b =>
          obtain ⟨h1, h2⟩ := (blkOf_iff hok.apart).1 hbk
          rw [HS.out.en] at h2
          have h3 := (blkOf_iff HC.out.ok.apart).2 ⟨hsubm b h1, h2⟩
          have h4 := (blkOf_iff HC.out.ok.apart).2 ⟨(by simp : x ∈ A ++ x :: D), hxk⟩
          rw [h3] at h4
          cases h4
          exact absurd h1 HX.out
      rw [this]
      rfl
    · rw [if_neg hak]
      have : blkOf N1 (A ++ D) a.1 = blkOf N (A ++ x :: D) a.1 := by
        refine Option.ext fun b => ?_
        rw [blkOf_iff hok.apart, blkOf_iff HC.out.ok.apart, HS.out.en]
        refine ⟨fun h => ⟨hsubm b h.1, h.2⟩, fun h => ⟨?_, h.2⟩⟩
        have h1 := h.1
        simp only [List.mem_append, List.mem_cons] at h1 ⊢
        rcases h1 with h1 | h1 | h1
        · exact .inl h1
        · subst h1
          exact absurd (Subtype.ext (h.2.symm.trans hxk)) hak
        · exact .inr h1
      rw [this]
  · obtain ⟨-, -, q1, q2, q3, q4, -⟩ := HS.out k
    rw [q1, q2, q3, q4]
    exact own_chg (HC.out.data k (hsubm k hk)) hcF hT (by decide) (by decide)
  · refine HC.out.base k ?_
    simp only [List.mem_cons] at hk ⊢
    rcases hk with h | h | h | h
    · exact .inl h
    · exact .inr (.inl h)
    · exact .inr (.inr (.inl h))
    · exact .inr (.inr (.inr (hsubm k h)))
end Go.Proofs.Ytpiodpljiklfkaa
