/-
  Caches: add, evict.
-/
import Derived.Test.YtpiodpljiklfkaaCacE
import Derived.Test.YtpiodpljiklfkaaOrdU
namespace Go.Proofs.Ytpiodpljiklfkaa
open Go.RowKit Go.WideMaps

theorem BoxAt.set1 {w : World} {c m e : Nat} {r t t' : Int} (h : BoxAt w c r t m e) : BoxAt (w.setCell ⟨c, 1, none⟩ (.int .i64 t')) c r t' m e := by
  unfold BoxAt at *
  rw [heap_setCell_same w c 1 _ _ _ h]
  rfl
theorem BoxAt.there {w : World} {c m e j : Nat} {r t : Int} (h : BoxAt w c r t m e) (hj : j < 4) : w.there c j 1 := there_box' h (by show j + 1 ≤ 4; omega)
theorem RawAt.id {w : World} {k : Nat} {p q : Value} {x : Nd} (h : RawAt w k p q x) : w.rangeAt k 2 [.int .u64 x.s, .int .i64 x.z] := fun j v hj => by
  rw [cell_of_row w k (2 + j) _ _ _ h]
  rcases j with _ | _ | j
  · exact hj
  · exact hj
  · simp at hj
theorem RawAt.chg {F : List Nat} {w w' : World} {k : Nat} {p q : Value} {x : Nd} (h : RawAt w k p q x) (hc : Chg F w w') (hk : k ∉ F) : RawAt w' k p q x := hc.heap h hk
/-- The nodes with another one behind them. -/
theorem ents_link {N : Nat → Nd} {L : List Nat} {e x : Nat} {nx : Nd} (hx : x ∉ L) : ents (linkN N e x nx) (L ++ [x]) = ents N L ++ [enOf nx] := by
  have h1 : ∀ k, k ≠ x → enOf (linkN N e x nx k) = enOf (N k) := fun k hk => by
    unfold linkN
    rw [if_neg hk]
    exact ((sameD_setNext N _ x).trans (sameD_setPrev _ e x)).en k
  have h2 : enOf (linkN N e x nx x) = enOf nx := by unfold linkN; rw [if_pos rfl]; rfl
  unfold ents
  rw [List.map_append, List.map_cons, List.map_nil, h2]
  congr 1
  exact List.map_congr_left fun k hk => h1 k fun e => hx (e ▸ hk)
theorem link_data {N : Nat → Nd} {e x k : Nat} {nx : Nd} (hk : k ≠ x) : (linkN N e x nx k).a = (N k).a ∧ (linkN N e x nx k).n = (N k).n ∧ (linkN N e x nx k).c = (N k).c ∧ (linkN N e x nx k).l = (N k).l := by
  unfold linkN
  rw [if_neg hk]
  obtain ⟨-, -, h1, h2, h3, h4, -⟩ := ((sameD_setNext N (N e).prev x).trans (sameD_setPrev _ e x)) k
  exact ⟨h1, h2, h3, h4⟩
theorem id_key {room : Nat} {E : List En} (h : OkE room E) (hm : room ≤ 1048576) {x : En} (hx : x ∈ E) : x.s ≤ 18446744073709551615 ∧ -9223372036854775808 ≤ x.z ∧ x.z ≤ 9223372036854775807 := by
  obtain ⟨h1, h2, h3⟩ := h.right x hx
  have h4 : x.s = fp x.l := congrArg Prod.fst h1
  have h5 : x.z = (x.l.length : Int) := congrArg Prod.snd h1
  have h6 := fp_lt x.l
  have h7 : ∀ (E : List En) (y : En), y ∈ E → y.l.length ≤ sizeF E := fun E => by
    induction E with
    | nil => intro y hy; cases hy
    | cons z E ih =>
      intro y hy
      simp only [sizeF]
      rcases List.mem_cons.1 hy with rfl | hy
      · omega
      · have := ih y hy; omega
  have h8 := h7 E x hx
  have h9 := h.fits
  omega
theorem fp_key (l : List UInt8) : fp l ≤ 18446744073709551615 := by have := fp_lt l; omega

set_option maxRecDepth 100000 in
set_option maxHeartbeats 4000000 in
theorem add38_any (B c m e room x : Nat) (N : Nat → Nd) (L : List Nat) (p q : Value) (nx : Nd) (w : World) (h : Ca w B c m e room N L) (hx : RawAt w x p q nx) (hxL : x ∉ e :: L) (hxB : B ≤ x) (ho : w.ownsRow B 5 1 (.slice nx.a nx.n nx.c) nx.n (nx.l.map u8))
    (hok : OkE room (ents N L ++ [enOf nx])) :
    Calls Try.prog 55 #[.pointer (some ⟨c, 0, none⟩), .pointer (some ⟨x, 0, none⟩)] w
      (fun en w' => en = .returned (.tuple #[]) ∧ ∃ N', Ca w' B c m e room N' (L ++ [x]) ∧ ents N' (L ++ [x]) = ents N L ++ [enOf nx] ∧ Chg (x :: c :: m :: e :: L) w w' ∧ (∀ k ∈ L, (N' k).a = (N k).a) ∧ (N' x).a = nx.a) := by
  have hkey := id_key hok h.max (x := enOf nx) (by simp)
  obtain ⟨k, hk, hkv⟩ := key_of hkey.1 hkey.2
  have hcx : c ≠ x := box_node h.box hx
  have hmx : m ≠ x := fun e => by subst e; exact map_ne_cells h.map hx
  have hce := h.c_ne
  have hme := h.m_ne
  have hpe : (N e).prev ∈ e :: L := by rw [h.ring.last]; exact lastD_mem e L
  have hl := own_len ho
  have hfit := hok.fits
  rw [sizeF_app] at hfit
  have hfit2 : sizeF (ents N L) + nx.l.length ≤ room := by simpa [sizeF, enOf] using hfit
  have hmax := h.max
  have hR := h.ring.link hxL h.nodup (fun k => link_next N e x nx k) (fun k => link_prev N e x nx k)
  have HR := Lib.hid hR
  have HC := Lib.hid h
  have HX := Lib.hid hx
  have HXL := Lib.hid hxL
  have HO := Lib.hid ho
  have HOK := Lib.hid hok
  have HKV := Lib.hid hkv
  have HK := Lib.hid hk
  have HCE := Lib.hid hce
  have HME := Lib.hid hme
  have HPE := Lib.hid hpe
  clear hR h hx ho hok hkv hk hfit hkey hce hme hpe hxL
  go_enter Try.func55, Try.ntmps55
  go_wp2
  refine wp_region_e [9] (.qs [0, 1, 2, 3, 4, 5, 6, 7, 8] (.l 9 .nil)) (by kernel_rfl) (by kernel_rfl) ?_
  iterate 3 ((refine wpY_q rfl rfl _ (fun w' hx' => by go_simp; try rfl) ?_; go_simp))
  refine wpY_q rfl rfl (.map (some m)) (fun w' hx' => by have hb' := (HC.out.ext hx').box.map; go_simp; try rfl) ?_
  go_simp
  iterate 3 ((refine wpY_q rfl rfl _ (fun w' hx' => by go_simp; try rfl) ?_; go_simp))
  refine wpY_ld rfl rfl (.tmp 10) rfl x 2 rfl [.int .u64 nx.s, .int .i64 nx.z] _ (fun w' hh => RawAt.id (Ext.heap' hh HX.out)) Try.underlying45 rfl (by kernel_rfl) ?_
  ((refine wpY_q rfl rfl _ (fun w' hx' => by go_simp; try rfl) ?_; go_simp))
  refine wpY_l rfl rfl (owp_put Try.kvI (.tmp 7) (.tmp 11) (.tmp 12) rfl Try.underlying76 rfl (HC.out.ext (Ext.drew' w)).map k HKV.out.symm (val := .pointer (some ⟨x, 0, none⟩)) rfl ?_)
  intro w1 hm1 hg1
  refine ⟨(fun h => by cases h), wpY_nil ?_⟩
  have hc1 : Chg [m] w w1 := (Chg.drew _ w).trans' (Chg.of_grown hg1 (by simp))
  have hb1 := HC.out.box.chg hc1 (by simpa using fun e => HME.out.2 e.symm)
  have hn1 : ∀ k ∈ e :: L, NodeAt w1 k (N k) := fun k hk => (HC.out.nodes k hk).chg hc1 (fun hm => HME.out.1 ((List.mem_singleton.1 hm) ▸ hk))
  have hx1 := HX.out.chg hc1 (by simpa using Ne.symm hmx)
  have HLI := Lib.hid (link_any c x e m room (sizeF (ents N L)) p q nx N (e :: L) w1 hb1 hn1 (by simp) hx1 HXL.out HPE.out)
  have HM1 := Lib.hid hm1
  have HB1 := Lib.hid hb1
  have HC1 := Lib.hid hc1
  clear hm1 hg1 hb1 hn1 hx1 hc1
  go_wp2_with (first
    | (go_at_call 59; (with_reducible refine HLI.out.mono ?_); rintro en w2 ⟨rfl, hn2, hc2⟩; refine Stop.of ?_)
    | fail)
  have hcc : c ∉ x :: e :: L := fun hm => by
    rcases List.mem_cons.1 hm with h | h
    · exact hcx h
    · exact HCE.out h
  have hmm : m ∉ x :: e :: L := fun hm => by
    rcases List.mem_cons.1 hm with h | h
    · exact hmx h
    · exact HME.out.1 h
  have hb2 := HB1.out.chg hc2 hcc
  have hm2 := MapF.chg HM1.out hc2 hmm
  have hx2 : NodeAt w2 x (linkN N e x nx x) := hn2 x (by simp)
  have hxd : (linkN N e x nx x).a = nx.a ∧ (linkN N e x nx x).n = nx.n ∧ (linkN N e x nx x).c = nx.c ∧ (linkN N e x nx x).l = nx.l := by unfold linkN; rw [if_pos rfl]; exact ⟨rfl, rfl, rfl, rfl⟩
  have hby := hx2.bytes
  rw [hxd.1, hxd.2.1, hxd.2.2.1] at hby
  have HB2 := Lib.hid hb2
  have HM2 := Lib.hid hm2
  have HN2 := Lib.hid hn2
  have HC2 := Lib.hid hc2
  have HBY := Lib.hid hx2
  have HXD := Lib.hid hxd
  have hwr : IntKind.i64.wrap ((sizeF (ents N L) : Nat) + (nx.n : Nat) : Int) = ((sizeF (ents N L) + nx.n : Nat) : Int) := by rw [IntKind.wrap_i64]; omega
  clear hb2 hm2 hn2 hc2 hx2 hxd hcc hmm
  refine Stop.out ?_
  go_wp2
  refine wp_region_u (fun w' => Ext w2 w') (Ext.drew' w2) [12] (.qs [0, 1, 2, 3, 4, 5, 6, 7, 8, 9, 10, 11] (.l 12 .nil)) (by kernel_rfl) (by kernel_rfl) ?_
  iterate 3 ((refine wpZ_q rfl rfl _ (fun w' hx' => by go_simp; try rfl) ?_; go_simp))
  refine wpZ_q rfl rfl (.int .i64 (sizeF (ents N L) : Nat)) (fun w' hh => by have hb' := BoxAt.total (Ext.heap' hh HB2.out); go_simp; try rfl) ?_
  go_simp
  iterate 3 ((refine wpZ_q rfl rfl _ (fun w' hx' => by go_simp; try rfl) ?_; go_simp))
  refine wpZ_q rfl rfl (.slice nx.a nx.n nx.c) (fun w' hh => by have hb' := NodeAt.bytes (Ext.heap' hh HBY.out); rw [HXD.out.1, HXD.out.2.1, HXD.out.2.2.1] at hb'; go_simp; try rfl) ?_
  go_simp
  ((refine wpZ_q rfl rfl _ (fun w' hx' => by go_simp; try rfl) ?_; go_simp))
  refine wpZ_q rfl rfl (.int .i64 ((sizeF (ents N L) + nx.n : Nat) : Int)) (fun w' hh => by go_simp; try rfl) ?_
  go_simp
  iterate 2 ((refine wpZ_q rfl rfl _ (fun w' hx' => by go_simp; try rfl) ?_; go_simp))
  have hb3 : BoxAt w2.drew c room (sizeF (ents N L) : Nat) m e := HB2.out
  refine wpZ_l rfl rfl (owp_st1 3 _ _ rfl c 1 (.int .i64 ((sizeF (ents N L) + nx.n : Nat) : Int)) rfl rfl rfl (hb3.there (by decide)) (by kernel_rfl) rfl ?_)
  refine ⟨(fun h => by cases h), wpZ_nil ?_⟩
  have hc3 : Chg [c] w2 (w2.drew.setCell ⟨c, 1, none⟩ (.int .i64 ((sizeF (ents N L) + nx.n : Nat) : Int))) := (Chg.drew _ w2).trans' (chg_set _ (by simp))
  have hb4 := hb3.set1 (t' := ((sizeF (ents N L) + nx.n : Nat) : Int))
  generalize w2.drew.setCell ⟨c, 1, none⟩ (.int .i64 ((sizeF (ents N L) + nx.n : Nat) : Int)) = w3 at hc3 hb4 ⊢
  clear hwr hb3
  go_wp2
  refine bodyPost_end (results_none rfl _ _ _) rfl ?_
  have hxL : x ∉ L := fun h => HXL.out (List.mem_cons_of_mem _ h)
  have hE := ents_link (N := N) (e := e) (nx := nx) hxL
  have hcF : Chg (x :: c :: m :: e :: L) w w3 := ((HC1.out.mono (by simp)).trans' (HC2.out.mono (by intro k hk; simp only [List.mem_cons] at hk ⊢; rcases hk with h | h | h <;> simp [h]))).trans' (hc3.mono (by simp))
  have hT : Typed w (x :: c :: m :: e :: L) := fun k hk => by
    rcases List.mem_cons.1 hk with rfl | hk
    · intro cs t fr hh
      have h1 := HX.out.symm.trans hh
      simp only [Option.some.injEq, Obj.cells.injEq] at h1
      exact .inl h1.2.1.symm
    · exact HC.out.typed k hk
  have hid : (enOf (linkN N e x nx x)).id = k.1 := by
    have h : enOf (linkN N e x nx x) = enOf nx := by unfold linkN; rw [if_pos rfl]; rfl
    rw [h, HK.out]
    rfl
  have hidn : ∀ b, b ≠ x → enOf (linkN N e x nx b) = enOf (N b) := fun b hb => by
    unfold linkN
    rw [if_neg hb]
    exact ((sameD_setNext N _ x).trans (sameD_setPrev _ e x)).en b
  have hap : ((ents (linkN N e x nx) (L ++ [x])).map En.id).Nodup := by rw [hE]; exact HOK.out.apart
  refine ⟨rfl, linkN N e x nx, ⟨?_, fun k hk => ?_, HR.out, ?_, ?_, fun k hk => ?_, fun k hk => ?_, by rw [hE]; exact HOK.out, hmax⟩, hE, hcF, fun k hk => (link_data (N := N) (e := e) (nx := nx) (fun h => hxL (h ▸ hk) : k ≠ x)).1, HXD.out.1⟩
  · rw [hE, sizeF_app]
    have h1 : sizeF [enOf nx] = nx.n := by simp only [sizeF, enOf]; omega
    rw [h1]
    exact hb4
  · refine (HN2.out k (by simp only [List.mem_cons, List.mem_append, List.not_mem_nil, or_false] at hk ⊢; rcases hk with h | h | h <;> simp [h])).chg hc3 (fun hm => ?_)
    obtain rfl := List.mem_singleton.1 hm
    simp only [List.mem_cons, List.mem_append, List.not_mem_nil, or_false] at hk
    rcases hk with h | h | h
    · exact HCE.out (by simp [h])
    · exact HCE.out (by simp [h])
    · exact hcx h
  · have h1 := HC.out.nodup
    rw [List.nodup_cons] at h1 ⊢
    refine ⟨fun hm => ?_, ?_⟩
    · rcases List.mem_append.1 hm with h | h
      · exact h1.1 h
      · exact HXL.out (by rw [List.mem_singleton.1 h]; simp)
    · rw [List.nodup_append]
      exact ⟨h1.2, by simp, fun a ha b hb e => hxL (by rw [← List.mem_singleton.1 hb, ← e]; exact ha)⟩
  · refine (MapF.chg HM2.out hc3 (by simpa using HME.out.2)).congr fun a => ?_
    unfold mapOf
    by_cases hak : a = k
    · subst hak
      rw [if_pos rfl, (blkOf_iff hap).2 ⟨by simp, hid⟩]
      rfl
    · rw [if_neg hak]
      have : blkOf (linkN N e x nx) (L ++ [x]) a.1 = blkOf N L a.1 := by
        refine Option.ext fun b => ?_
        rw [blkOf_iff hap, blkOf_iff HC.out.ok.apart]
        by_cases hb : b = x
        · subst hb
          exact ⟨fun h => absurd (Subtype.ext (h.2.symm.trans hid)) hak, fun h => absurd h.1 hxL⟩
        · rw [hidn b hb]
          simp [hb]
      rw [this]
  · rcases List.mem_append.1 hk with hk | hk
    · obtain ⟨q1, q2, q3, q4⟩ := link_data (N := N) (e := e) (nx := nx) (fun h => hxL (h ▸ hk) : k ≠ x)
      rw [q1, q2, q3, q4]
      exact own_chg (HC.out.data k hk) hcF hT (by decide) (by decide)
    · obtain rfl := List.mem_singleton.1 hk
      rw [HXD.out.1, HXD.out.2.1, HXD.out.2.2.1, HXD.out.2.2.2]
      exact own_chg HO.out hcF hT (by decide) (by decide)
  · simp only [List.mem_cons, List.mem_append, List.not_mem_nil, or_false] at hk
    rcases hk with h | h | h | h | h
    · exact HC.out.base k (by simp [h])
    · exact HC.out.base k (by simp [h])
    · exact HC.out.base k (by simp [h])
    · exact HC.out.base k (by simp [h])
    · rw [h]; exact hxB
end Go.Proofs.Ytpiodpljiklfkaa
