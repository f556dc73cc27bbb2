/-
  Several texts in one: PaG, PaH, PaI, PaJ, PaK.
-/
import Derived.Test.YtejljmikammcdaaGreatDoorPaF
/-
  Layer pattern: Meet.
-/
namespace Go.Proofs.YtejljmikammcdaaGreatDoor
open Go.RowKit

theorem meetL_of : ∀ (xs ys L : List Str), ys.length ≤ xs.length → L.length = xs.length → (∀ (i : Nat) x y r, xs[i]? = some x → ys[i]? = some y → L[i]? = some r → meetPart x y = some r) →
    (∀ i, ys.length ≤ i → L[i]? = xs[i]?) → meetL xs ys = some L
  | xs, [], L, h, hl, h1, h2 => by
    have : xs = L := (List.ext_getElem? fun i => h2 i (Nat.zero_le _)).symm
    subst this
    cases xs <;> rfl
  | [], y :: ys, L, h, hl, h1, h2 => by simp at h
  | x :: xs, y :: ys, [], h, hl, h1, h2 => by simp at hl
  | x :: xs, y :: ys, r :: L, h, hl, h1, h2 => by
    unfold meetL
    rw [h1 0 x y r rfl rfl rfl, meetL_of xs ys L (by simpa using h) (by simpa using hl) (fun i a b c ha hb hc => h1 (i + 1) a b c (by simpa using ha) (by simpa using hb) (by simpa using hc)) (fun i hi => by
      have := h2 (i + 1) (by simp; omega)
      simpa using this)]
    rfl
theorem meetL_bad : ∀ (xs ys : List Str) (i : Nat) (x y : Str), xs[i]? = some x → ys[i]? = some y → meetPart x y = none → meetL xs ys = none
  | xs, [], i, x, y, h1, h2, h3 => by cases h2
  | [], y' :: ys, i, x, y, h1, h2, h3 => by cases h1
  | x' :: xs, y' :: ys, 0, x, y, h1, h2, h3 => by
    cases h1; cases h2
    unfold meetL
    rw [h3]; rfl
  | x' :: xs, y' :: ys, i + 1, x, y, h1, h2, h3 => by
    unfold meetL
    rw [meetL_bad xs ys i x y (by simpa using h1) (by simpa using h2) h3]
    cases meetPart x' y' <;> rfl

theorem results_c1 {P : Program} {w : World} {fn : Func} {p t1 : Tmp} {ty : TypeId} (h : fn.results = #[.cell p ty, .tmp t1]) (tmps : Array Value) (g : Nat) (cs : List Value) (d : TypeDesc)
    (hp : tmps.getD p undef = .pointer (some ⟨g, 0, none⟩)) (hc : w.rangeAt g 0 cs)
    (hu : P.underlying ty = some d) (hd : d.isRow = true) (hi : (P.info? ty).map (·.size) = some cs.length) :
    (results fn tmps).run P w = .ok (.tuple #[.agg cs.toArray, tmps.getD t1 undef]) w := by
  have hp' : tmps[p]?.getD undef = .pointer (some ⟨g, 0, none⟩) := by simpa using hp
  simp [results, h, hp', asAddr, run_loadVar_mid w g 0 ty cs d hc hu hd hi]
/-- pattern.Meet: what it answers. -/
def MeetO (P Q : Pat) (S : Nat) (w : World) (en : Ending) (w' : World) : Prop :=
  ∃ r : Pt, en = .returned (.tuple #[r.v, .bool (meetP P Q).isSome]) ∧ (∀ m, meetP P Q = some m → r.P = m) ∧ PtO w' w.heap.size S r ∧ Ext w w'

theorem three_boxes (w : World) (x y z : Array Value) (t u v : TypeId) : Ext w (((w.alloc (.cells x t)).alloc (.cells y u)).alloc (.cells z v)) ∧
    (((w.alloc (.cells x t)).alloc (.cells y u)).alloc (.cells z v)).heap[w.heap.size]? = some (.cells x t) ∧ (((w.alloc (.cells x t)).alloc (.cells y u)).alloc (.cells z v)).heap[w.heap.size + 1]? = some (.cells y u) ∧
    (((w.alloc (.cells x t)).alloc (.cells y u)).alloc (.cells z v)).heap[w.heap.size + 2]? = some (.cells z v) := by
  obtain ⟨h1, h2, h3⟩ := two_boxes w x y t u
  refine ⟨h1.trans' (Ext.alloc' _ _), (Ext.alloc' _ _).heap' h2, (Ext.alloc' _ _).heap' h3, ?_⟩
  have := heap_alloc_new ((w.alloc (.cells x t)).alloc (.cells y u)) (.cells z v)
  simpa using this

theorem heap_keep {w w' : World} {g k : Nat} {o : Obj} (h : w.heap[k]? = some o) (hg : w.grownBy w' (some g)) (hne : k ≠ g) : w'.heap[k]? = some o := by
  obtain ⟨-, -, -, -, h5⟩ := hg
  rw [h5 k (Array.getElem?_eq_some_iff.1 h).1 (fun e => hne (Option.some.inj e))]; exact h
abbrev pbox (k : Pt) : Obj := .cells #[.slice k.a k.n k.c, .bool k.P.rest] 39
/-- Between two rounds: the parts up to j are met. -/
def MtRel (w : World) (x y : Pt) (b g c3 : Nat) (i : Value) (wr : World) : Prop :=
  ∃ (j : Nat) (L : List Str), i = .int .i64 j ∧ j ≤ y.n ∧ L.length = x.n ∧ (∀ (i : Nat) p q r, i < j → x.P.parts[i]? = some p → y.P.parts[i]? = some q → L[i]? = some r → meetPart p q = some r) ∧ (∀ i, j ≤ i → L[i]? = x.P.parts[i]?) ∧
    wr.ownsRow w.heap.size 9 1 (.slice (some ⟨g, 0, none⟩) x.n c3) x.n (L.map sv) ∧ wr.heap[b]? = some (pbox x) ∧ wr.heap[b + 1]? = some (pbox y) ∧ wr.heap[b + 2]? = some (.cells #[.slice none 0 0, .bool false] 39) ∧ Ext w wr
/-- The longer one ahead. -/
def MidM (w : World) (k g : Pt) (b : Nat) (w' : World) : Prop :=
  ∃ x y : Pt, ((x = k ∧ y = g ∧ ¬ k.n < g.n) ∨ (x = g ∧ y = k ∧ k.n < g.n)) ∧ w'.heap[b]? = some (pbox x) ∧ w'.heap[b + 1]? = some (pbox y) ∧ w'.heap[b + 2]? = some (.cells #[.slice none 0 0, .bool false] 39) ∧ Ext w w'

set_option maxRecDepth 100000 in
set_option maxHeartbeats 4000000 in
theorem Meet_any (k g : Pt) (S : Nat) (w : World) (hk : PtI w S k) (hg : PtI w S g) (hS : S ≤ 1073741824) : Calls Tryz.prog 43 #[k.v, g.v] w (MeetO k.P g.P S w) := by
  have HCK := Lib.hid fun w' (h : Ext w w') => Check_any k S w' (hk.ext h) (by omega)
  have HCG := Lib.hid fun w' (h : Ext w w') => Check_any g S w' (hg.ext h) (by omega)
  have HK := Lib.hid hk
  have HG := Lib.hid hg
  have hlk := hk.len
  have hlg := hg.len
  have HMP := Lib.hid (show meetP k.P g.P = if okP k.P && okP g.P && compat k.n k.P.rest g.n g.P.rest then
    (if k.n < g.n then meetL g.P.parts k.P.parts else meetL k.P.parts g.P.parts).map fun ns => ⟨ns, k.P.rest && g.P.rest⟩ else none by unfold meetP; rw [hlk, hlg])
  have hpos : ∀ P : Pat, chkP P = 0 → 0 < P.parts.length ∧ P.parts.length ≤ 12 := fun P h => by
    have h2 := okP_of.1 (okP_iff.2 h)
    obtain ⟨a, ps, ha, -⟩ := h2.head
    exact ⟨by rw [ha]; simp, h2.le⟩
  have HOK := Lib.hid (show chkP k.P = 0 → 0 < k.n ∧ k.n ≤ 12 from fun h => by rw [← hlk]; exact hpos _ h)
  have HOG := Lib.hid (show chkP g.P = 0 → 0 < g.n ∧ g.n ≤ 12 from fun h => by rw [← hlg]; exact hpos _ h)
  clear hpos
  obtain ⟨M, hM⟩ : ∃ M, M = meetP k.P g.P := ⟨_, rfl⟩
  have hpost : MeetO k.P g.P S w = fun en w' => ∃ r : Pt, en = .returned (.tuple #[r.v, .bool M.isSome]) ∧ (∀ m, M = some m → r.P = m) ∧ PtO w' w.heap.size S r ∧ Ext w w' := by rw [hM]; rfl
  have HM := Lib.hid (show M = if decide (chkP k.P = 0) && decide (chkP g.P = 0) && compat k.n k.P.rest g.n g.P.rest then
    (if k.n < g.n then meetL g.P.parts k.P.parts else meetL k.P.parts g.P.parts).map fun ns => ⟨ns, k.P.rest && g.P.rest⟩ else none by
      rw [hM, HMP.out, show okP k.P = decide (chkP k.P = 0) from Bool.eq_iff_iff.2 (by rw [decide_eq_true_eq]; exact okP_iff), show okP g.P = decide (chkP g.P = 0) from Bool.eq_iff_iff.2 (by rw [decide_eq_true_eq]; exact okP_iff)])
  obtain ⟨e, he⟩ : ∃ e, e = chkP k.P := ⟨_, rfl⟩
  obtain ⟨f, hf⟩ : ∃ f, f = chkP g.P := ⟨_, rfl⟩
  rw [← he] at HCK HM HOK
  rw [← hf] at HCG HM HOG
  have HPOST := Lib.hid hpost
  clear he hf hk hg hlk hlg HMP hM hpost
  obtain ⟨a, n, c, ⟨ps, pr⟩⟩ := k
  obtain ⟨a', m, c', ⟨qs, qr⟩⟩ := g
  rw [HPOST.out]
  obtain ⟨post, hpo⟩ : ∃ p : Ending → World → Prop, p = fun en w' => ∃ r : Pt, en = .returned (.tuple #[r.v, .bool M.isSome]) ∧ (∀ m, M = some m → r.P = m) ∧ PtO w' w.heap.size S r ∧ Ext w w' := ⟨_, rfl⟩
  rw [← hpo]
  have HPO := Lib.hid hpo
  clear hpo HPOST
  go_enter Tryz.func43, Tryz.ntmps43
  go_upto_region 1 with fail
  obtain ⟨hx2, hh1, hh2, hh3⟩ := three_boxes w #[.slice a n c, .bool pr] #[.slice a' m c', .bool qr] #[.slice none 0 0, .bool false] 39 39 39
  generalize ((w.alloc (.cells #[.slice a n c, .bool pr] 39)).alloc (.cells #[.slice a' m c', .bool qr] 39)).alloc (.cells #[.slice none 0 0, .bool false] 39) = w2 at hx2 hh1 hh2 hh3 ⊢
  obtain ⟨b, hb⟩ : ∃ b, b = w.heap.size := ⟨_, rfl⟩
  rw [← hb] at hh1 hh2 hh3 ⊢
  have HBB := Lib.hid hb
  have HX := Lib.hid hx2
  have HH1 := Lib.hid hh1
  have HH2 := Lib.hid hh2
  have HH3 := Lib.hid hh3
  have hr11 := (box2 hh1).2.2
  clear hx2 hh1 hh2 hh3 hb
  by_cases he0 : e = 0
  · subst he0
    by_cases hf0 : f = 0
    · subst hf0
      obtain ⟨hn0, hn12⟩ : 0 < n ∧ n ≤ 12 := HOK.out rfl
      obtain ⟨hm0, hm12⟩ : 0 < m ∧ m ≤ 12 := HOG.out rfl
      go_upto_region 3 with (first
        | ((with_reducible refine atSlot 11 ?_); refine wpList_of_wp rfl (wp_load_mid (op := ⟨some 11, _, _, _, _, _⟩) 39 _ rfl b 0 rfl [.slice a n c, .bool pr] _ hr11 Tryz.underlying39 rfl (by kernel_rfl) ?_); clear hr11)
        | ((with_reducible refine atSlot 15 ?_); refine wpList_of_wp rfl (wp_load_mid (op := ⟨some 15, _, _, _, _, _⟩) 39 _ rfl (b + 1) 0 rfl [.slice a' m c', .bool qr] _ hr15 Tryz.underlying39 rfl (by kernel_rfl) ?_); clear hr15)
        | (go_at_call 75; (with_reducible refine (HCK.out _ HX.out).mono ?_); rintro en w3 ⟨rfl, hx3⟩; have hr15 := (box2 (hx3.heap' HH2.out)).2.2; have HX3 := Lib.hid hx3; clear hx3 HCK)
        | (go_at_call 75; (with_reducible refine (HCG.out _ (HX.out.trans' HX3.out)).mono ?_); rintro en w4 ⟨rfl, hx4⟩; have HX4 := Lib.hid (HX3.out.trans' hx4); have HS4 := Lib.hid (HX4.out.heap' HH3.out); clear hx4 HCG)
        | fail)
      have HX04 := Lib.hid (HX.out.trans' HX4.out)
      have HB1 := Lib.hid (HX4.out.heap' HH1.out)
      have HB2 := Lib.hid (HX4.out.heap' HH2.out)
      obtain ⟨c0, c1, hrK⟩ := box2 HB1.out
      obtain ⟨d0, d1, hrG⟩ := box2 HB2.out
      have HCO := Lib.hid (compatible_any n pr m qr w4)
      obtain ⟨q, hq⟩ : ∃ q, q = compat n pr m qr := ⟨_, rfl⟩
      rw [← hq] at HM HCO
      clear hq
      cases q with
      | false =>
        go_wp2_with (first
          | (go_at_call 76; (with_reducible refine HCO.out.mono ?_); rintro en w' ⟨rfl, rfl⟩)
          | ((with_reducible refine atStore 4 ?_); refine wpList_of_wp rfl (wp_store_row (o := ⟨none, _, _, _, _, _⟩) _ _ _ rfl (b + 2) #[.slice none 0 0, .bool false] rfl rfl _ _ HS4.out (by kernel_rfl) rfl (by simp [Value.oneCell']) ?_))
          | fail)
        have hM : M = none := by have h := HM.out; rw [if_neg (by simp)] at h; exact h
        refine bodyPost_ret (results_c1 (ty := 39) rfl _ (b + 2) [.slice none 0 0, .bool false] _ rfl (range_of_heap2 (setRow_heap _ _ _ _ _ _ HS4.out)) Tryz.underlying39 rfl (by kernel_rfl)) rfl ?_
        rw [HPO.out]
        exact ⟨⟨none, 0, 0, ⟨[], false⟩⟩, by rw [hM]; rfl, (fun q h => by rw [hM] at h; cases h), PtO.nil _ _ _, Ext.setRow (HX.out.trans' HX4.out) (by rw [HBB.out]; omega)⟩
      | true =>
        go_upto_region 5 with (first
          | (go_at_call 76; (with_reducible refine HCO.out.mono ?_); rintro en w' ⟨rfl, rfl⟩)
          | fail)
        have HM2 := Lib.hid (show M = (if n < m then meetL qs ps else meetL ps qs).map fun ns => ⟨ns, pr && qr⟩ by
          have h := HM.out
          rw [if_pos (by rfl)] at h
          exact h)
        clear HM
        go_upto_if 39 with fail
        go_cut [39] from 40 to 41 (fun _ w' => MidM w ⟨a, n, c, ⟨ps, pr⟩⟩ ⟨a', m, c', ⟨qs, qr⟩⟩ b w')
        case first =>
          by_cases hnm : n < m
          · go_wp2_with (first
              | ((with_reducible refine atSlot 40 ?_); refine wpList_of_wp rfl (wp_load_mid (op := ⟨some 40, _, _, _, _, _⟩) 39 _ rfl (b + 1) 0 rfl [.slice a' m c', .bool qr] _ hrG Tryz.underlying39 rfl (by kernel_rfl) ?_); clear hrG)
              | ((with_reducible refine atSlot 41 ?_); refine wpList_of_wp rfl (wp_load_mid (op := ⟨some 41, _, _, _, _, _⟩) 39 _ rfl b 0 rfl [.slice a n c, .bool pr] _ hrK Tryz.underlying39 rfl (by kernel_rfl) ?_); clear hrK; have hs1 := HB1.out; have hs2 := heap_keep HB2.out (grown_setRow w4 b #[.slice a' m c', .bool qr]) (by omega))
              | ((with_reducible refine atStore 2 ?_); refine wpList_of_wp rfl (wp_store_row (o := ⟨none, _, _, _, _, _⟩) _ _ _ rfl b #[.slice a' m c', .bool qr] rfl rfl _ _ hs1 (by kernel_rfl) rfl (by simp [Value.oneCell']) ?_); clear hs1)
              | ((with_reducible refine atStore 3 ?_); refine wpList_of_wp rfl (wp_store_row (o := ⟨none, _, _, _, _, _⟩) _ _ _ rfl (b + 1) #[.slice a n c, .bool pr] rfl rfl _ _ hs2 (by kernel_rfl) rfl (by simp [Value.oneCell']) ?_))
              | fail)
            go_meet
            case rel =>
              have k1 : ((w4.setRow b #[.slice a' m c', .bool qr]).setRow (b + 1) #[.slice a n c, .bool pr]).heap[b + 1]? = some (.cells #[.slice a n c, .bool pr] 39) := setRow_heap _ _ _ _ _ _ hs2
              have k2 := heap_keep (setRow_heap w4 b _ #[.slice a' m c', .bool qr] _ _ HB1.out) (grown_setRow (w4.setRow b #[.slice a' m c', .bool qr]) (b + 1) #[.slice a n c, .bool pr]) (by omega)
              have k3 := heap_keep (heap_keep HS4.out (grown_setRow w4 b #[.slice a' m c', .bool qr]) (by omega)) (grown_setRow (w4.setRow b #[.slice a' m c', .bool qr]) (b + 1) #[.slice a n c, .bool pr]) (by omega)
              exact ⟨⟨a', m, c', ⟨qs, qr⟩⟩, ⟨a, n, c, ⟨ps, pr⟩⟩, .inr ⟨rfl, rfl, hnm⟩, k2, k1, k3, (HX04.out.setRow (by rw [HBB.out]; exact Nat.le_refl _)).setRow (by rw [HBB.out]; omega)⟩
          · go_wp2
            go_meet
            case rel => exact ⟨⟨a, n, c, ⟨ps, pr⟩⟩, ⟨a', m, c', ⟨qs, qr⟩⟩, .inl ⟨rfl, rfl, hnm⟩, HB1.out, HB2.out, HS4.out, HX04.out⟩
        obtain ⟨x, y, hxy, hb1, hb2, hb3, hx4⟩ := hcut
        have HPX := Lib.hid (show PtI w S x by rcases hxy with ⟨rfl, -⟩ | ⟨rfl, -⟩; exact HK.out; exact HG.out)
        have HPY := Lib.hid (show PtI w S y by rcases hxy with ⟨-, rfl, -⟩ | ⟨-, rfl, -⟩; exact HG.out; exact HK.out)
        have HMM := Lib.hid (show M = (meetL x.P.parts y.P.parts).map fun ns => ⟨ns, x.P.rest && y.P.rest⟩ by
          rcases hxy with ⟨rfl, rfl, h⟩ | ⟨rfl, rfl, h⟩
          · rw [HM2.out, if_neg h]
          · rw [HM2.out, if_pos h, Bool.and_comm])
        have hyx : y.n ≤ x.n ∧ 0 < x.n ∧ x.n ≤ 12 := by
          rcases hxy with ⟨rfl, rfl, h⟩ | ⟨rfl, rfl, h⟩
          · simp only at h ⊢; omega
          · simp only at h ⊢; omega
        obtain ⟨hyx, hx0, hx12⟩ := hyx
        have HE1 := Lib.hid hb1
        have HE2 := Lib.hid hb2
        have HE3 := Lib.hid hb3
        have HX5 := Lib.hid hx4
        clear hxy hb1 hb2 hb3 hx4 HM2 HB1 HB2 HS4 HX04 HX4 HX3 HX HH1 HH2 HH3 HK HG c0 c1 hrK d0 d1 hrG hn0 hn12 hm0 hm12 HOK HOG HCO
        have HCL := Lib.hid fun w' (h : Ext w w') => CloneS_any x.a x.n x.c x.strs w' ((HPX.out).ext h).row (sv_one _) (by omega)
        obtain ⟨c0, -, -⟩ := box2 HE1.out
        go_upto_region 8 with (first
          | (go_at_call 54; (with_reducible refine (HCL.out wc HX5.out).mono ?_); rintro en w6 ⟨a3, c3, rfl, ho3, hx6⟩)
          | fail)
        obtain ⟨g3, rfl⟩ : ∃ g3, a3 = some ⟨g3, 0, none⟩ := by
          obtain ⟨g3, cur, h, -⟩ := own_some ho3 hx0
          exact ⟨g3, h⟩
        have hg3 : wc.heap.size ≤ g3 := (own_block ho3 g3 rfl).1
        have hb2 : b + 2 < wc.heap.size := (Array.getElem?_eq_some_iff.1 HE3.out).1
        have HO6 := Lib.hid (own_base ho3 HX5.out.size)
        have HF1 := Lib.hid (hx6.heap' HE1.out)
        have HF2 := Lib.hid (hx6.heap' HE2.out)
        have HF3 := Lib.hid (hx6.heap' HE3.out)
        have HX6 := Lib.hid (HX5.out.trans' hx6)
        have hgb : b + 2 < g3 := by omega
        obtain ⟨d0, -, -⟩ := box2 HF2.out
        clear ho3 hx6 HE1 HE2 HE3 HX5 hg3 hb2 c0
        go_upto_region 9 with fail
        clear d0
        go_loopw [48] (MtRel w x y b g3 c3) (fun i _ => y.n - (intOf i).toNat)
        case atStart => exact ⟨0, x.P.parts, rfl, Nat.zero_le _, HPX.out.len, (fun i p q r hi => by omega), (fun _ _ => rfl), HO6.out, HF1.out, HF2.out, HF3.out, HX6.out⟩
        case round =>
          obtain ⟨j, L, rfl, hj, hlL, hm1, hm2, hown, hq1, hq2, hq3, hxd⟩ := hrel
          rename World => wd
          have HL := Lib.hid hlL
          have HM1 := Lib.hid hm1
          have HM2 := Lib.hid hm2
          have HOW := Lib.hid hown
          have HQ1 := Lib.hid hq1
          have HQ2 := Lib.hid hq2
          have HQ3 := Lib.hid hq3
          have HXD := Lib.hid hxd
          clear hlL hm1 hm2 hown hq1 hq2 hq3 hxd
          by_cases hjl : j < y.n
          · obtain ⟨p, hp⟩ : ∃ p, x.P.parts[j]? = some p := ⟨_, List.getElem?_eq_getElem (by rw [HPX.out.len]; omega)⟩
            obtain ⟨q, hq⟩ : ∃ q, y.P.parts[j]? = some q := ⟨_, List.getElem?_eq_getElem (by rw [HPY.out.len]; exact hjl)⟩
            have hLj : L[j]? = some p := by rw [HM2.out j (Nat.le_refl _), hp]
            have HP := Lib.hid hp
            have HQ := Lib.hid hq
            have HLJ := Lib.hid hLj
            have HMP := Lib.hid (meetPart_any p q wd (by have := HPX.out.small p (List.mem_of_getElem? hp); omega) (by have := HPY.out.small q (List.mem_of_getElem? hq); omega))
            have hrx := Row.of_own HOW.out
            have hry := (HPY.out.ext HXD.out).row
            have hjx : j < x.n := by omega
            clear hp hq hLj
            cases hmp : meetPart p q with
            | none =>
              have hmo : meetO p q = ([], false) := by unfold meetO; rw [hmp]
              rw [hmo] at HMP
              have HN := Lib.hid (show M = none by rw [HMM.out, meetL_bad _ _ j p q HP.out HQ.out hmp]; rfl)
              clear hmo hmp
              go_wp2_with (first
                | ((with_reducible refine atSlot 51 ?_); refine wpList_of_wp rfl (owp_ix (o := ⟨some 51, _, _, _, _, _⟩) _ _ rfl Tryz.elStr rfl hry j rfl rfl hjl ?_); intro b1 o1 hc2; have hd := sv_at HQ.out hc2; clear hc2 hry)
                | ((with_reducible refine atSlot 56 ?_); refine wpList_of_wp rfl (owp_ix (o := ⟨some 56, _, _, _, _, _⟩) _ _ rfl Tryz.elStr rfl hrx j rfl rfl hjx ?_); intro b1 o1 hc2; have hd2 := sv_at HLJ.out hc2; clear hc2 hrx)
                | (go_at_call 77; (with_reducible refine HMP.out.mono ?_); rintro en we ⟨rfl, hxe⟩; have HR3 := Lib.hid (hxe.heap' HQ3.out))
                | ((with_reducible refine atStore 4 ?_); refine wpList_of_wp rfl (wp_store_row (o := ⟨none, _, _, _, _, _⟩) _ _ _ rfl (b + 2) #[.slice none 0 0, .bool false] rfl rfl _ _ HR3.out (by kernel_rfl) rfl (by simp [Value.oneCell']) ?_))
                | fail)
              refine bodyPost_ret (results_c1 (ty := 39) rfl _ (b + 2) [.slice none 0 0, .bool false] _ rfl (range_of_heap2 (setRow_heap _ _ _ _ _ _ HR3.out)) Tryz.underlying39 rfl (by kernel_rfl)) rfl ?_
              rw [HPO.out]
              exact ⟨⟨none, 0, 0, ⟨[], false⟩⟩, by rw [HN.out]; rfl, (fun q h => by rw [HN.out] at h; cases h), PtO.nil _ _ _, Ext.setRow (HXD.out.trans' hxe) (by rw [HBB.out]; omega)⟩
            | some r =>
              have hmo : meetO p q = (r, true) := by unfold meetO; rw [hmp]
              rw [hmo] at HMP
              have HMR := Lib.hid hmp
              clear hmo hmp
              go_wp2_with (first
                | ((with_reducible refine atSlot 51 ?_); refine wpList_of_wp rfl (owp_ix (o := ⟨some 51, _, _, _, _, _⟩) _ _ rfl Tryz.elStr rfl hry j rfl rfl hjl ?_); intro b1 o1 hc2; have hd := sv_at HQ.out hc2; clear hc2 hry)
                | ((with_reducible refine atSlot 56 ?_); refine wpList_of_wp rfl (owp_ix (o := ⟨some 56, _, _, _, _, _⟩) _ _ rfl Tryz.elStr rfl hrx j rfl rfl hjx ?_); intro b1 o1 hc2; have hd2 := sv_at HLJ.out hc2; clear hc2 hrx)
                | (go_at_call 77; (with_reducible refine HMP.out.mono ?_); rintro en we ⟨rfl, hxe⟩; have HOE := Lib.hid (own_ext HOW.out hxe); have HXE := Lib.hid (HXD.out.trans' hxe); have HR1 := Lib.hid (hxe.heap' HQ1.out); have HR2 := Lib.hid (hxe.heap' HQ2.out); have HR3 := Lib.hid (hxe.heap' HQ3.out); obtain ⟨⟨u0, hcell⟩, hf0⟩ := own_cell HOE.out hjx; clear hd hd2 hxe)
                | ((with_reducible refine atSlot 68 ?_); refine wpList_of_wp rfl (owp_ixp1 (o := ⟨some 68, _, _, _, _, _⟩) _ _ rfl Tryz.elStr rfl j rfl rfl hjx ?_))
                | fail)
              have ho := own_setCell (v := sv r) HOE.out (j := j) (by omega)
              have hge : w.heap.size ≤ g3 := (own_block HOE.out g3 rfl).1
              have hgr := grown_setCell' we g3 j (sv r)
              have hset : (L.map sv).set j (sv r) = (L.set j r).map sv := by rw [List.map_set]
              rw [hset] at ho
              refine ⟨⟨j + 1, L.set j r, by go_num, hjl, by rw [List.length_set]; exact HL.out, ?_, ?_, ho, heap_keep HR1.out hgr (by omega), heap_keep HR2.out hgr (by omega), heap_keep HR3.out hgr (by omega), HXE.out.rd hgr hge⟩, ?_⟩
              · intro i p' q' r' hi hp' hq' hr'
                by_cases hij : i = j
                · subst hij
                  have e1 := HP.out; rw [e1] at hp'; cases hp'
                  have e2 := HQ.out; rw [e2] at hq'; cases hq'
                  rw [List.getElem?_set_self (by rw [HL.out]; omega)] at hr'
                  cases hr'
                  exact HMR.out
                · rw [List.getElem?_set_ne (by omega)] at hr'
                  exact HM1.out i p' q' r' (by omega) hp' hq' hr'
              · intro i hi
                rw [List.getElem?_set_ne (by omega)]
                exact HM2.out i (by omega)
              · simp [intOf]; omega
          · have hjy : j = y.n := by omega
            have hML : meetL x.P.parts y.P.parts = some L := meetL_of _ _ _ (by rw [HPX.out.len, HPY.out.len]; exact hyx) (by rw [HL.out, HPX.out.len]) (fun i p q r hp hq hr => HM1.out i p q r (by
                have := (List.getElem?_eq_some_iff.1 hq).1
                rw [HPY.out.len] at this; omega) hp hq hr) (fun i hi => HM2.out i (by rw [HPY.out.len] at hi; omega))
            have HME := Lib.hid (show M = some ⟨L, x.P.rest && y.P.rest⟩ by rw [HMM.out, hML]; rfl)
            have HSM := Lib.hid (show ∀ p ∈ L, p.length ≤ S from fun p hp => by
              rcases meetL_mem _ _ _ hML p hp with h | h
              · exact HPX.out.small p h
              · exact HPY.out.small p h)
            obtain ⟨c0, c1, -⟩ := box2 HQ1.out
            obtain ⟨d0, d1, -⟩ := box2 HQ2.out
            obtain ⟨b1, hb1⟩ : ∃ b1, b1 = x.P.rest := ⟨_, rfl⟩
            obtain ⟨b2, hb2⟩ : ∃ b2, b2 = y.P.rest := ⟨_, rfl⟩
            rw [← hb1] at c1 HME
            rw [← hb2] at d1 HME
            clear hML hb1 hb2 c0 d0 hjy hj
            cases b1 with
            | true =>
              cases b2 with
              | true =>
                go_wp2_with (first
                  | ((with_reducible refine atStore 4 ?_); refine wpList_of_wp rfl (wp_store_row (o := ⟨none, _, _, _, _, _⟩) _ _ _ rfl (b + 2) #[.slice (some ⟨g3, 0, none⟩) x.n c3, .bool true] rfl rfl _ _ HQ3.out (by kernel_rfl) rfl (by simp [Value.oneCell']) ?_))
                  | fail)
                refine bodyPost_ret (results_c1 (ty := 39) rfl _ (b + 2) [.slice (some ⟨g3, 0, none⟩) x.n c3, .bool true] _ rfl (range_of_heap2 (setRow_heap _ _ _ _ _ _ HQ3.out)) Tryz.underlying39 rfl (by kernel_rfl)) rfl ?_
                rw [HPO.out]
                exact ⟨⟨some ⟨g3, 0, none⟩, x.n, c3, ⟨L, true⟩⟩, by rw [HME.out]; rfl, (fun q h => by rw [HME.out] at h; cases h; rfl), ⟨own_other HOW.out (grown_setRow wd (b + 2) _) (by intro e; have h9 : g3 = b + 2 := Option.some.inj e; omega), HSM.out⟩, HXD.out.setRow (by rw [HBB.out]; omega)⟩
              | false =>
                go_wp2_with (first
                  | ((with_reducible refine atStore 4 ?_); refine wpList_of_wp rfl (wp_store_row (o := ⟨none, _, _, _, _, _⟩) _ _ _ rfl (b + 2) #[.slice (some ⟨g3, 0, none⟩) x.n c3, .bool false] rfl rfl _ _ HQ3.out (by kernel_rfl) rfl (by simp [Value.oneCell']) ?_))
                  | fail)
                refine bodyPost_ret (results_c1 (ty := 39) rfl _ (b + 2) [.slice (some ⟨g3, 0, none⟩) x.n c3, .bool false] _ rfl (range_of_heap2 (setRow_heap _ _ _ _ _ _ HQ3.out)) Tryz.underlying39 rfl (by kernel_rfl)) rfl ?_
                rw [HPO.out]
                exact ⟨⟨some ⟨g3, 0, none⟩, x.n, c3, ⟨L, false⟩⟩, by rw [HME.out]; rfl, (fun q h => by rw [HME.out] at h; cases h; rfl), ⟨own_other HOW.out (grown_setRow wd (b + 2) _) (by intro e; have h9 : g3 = b + 2 := Option.some.inj e; omega), HSM.out⟩, HXD.out.setRow (by rw [HBB.out]; omega)⟩
            | false =>
              go_wp2_with (first
                | ((with_reducible refine atStore 4 ?_); refine wpList_of_wp rfl (wp_store_row (o := ⟨none, _, _, _, _, _⟩) _ _ _ rfl (b + 2) #[.slice (some ⟨g3, 0, none⟩) x.n c3, .bool false] rfl rfl _ _ HQ3.out (by kernel_rfl) rfl (by simp [Value.oneCell']) ?_))
                | fail)
              refine bodyPost_ret (results_c1 (ty := 39) rfl _ (b + 2) [.slice (some ⟨g3, 0, none⟩) x.n c3, .bool false] _ rfl (range_of_heap2 (setRow_heap _ _ _ _ _ _ HQ3.out)) Tryz.underlying39 rfl (by kernel_rfl)) rfl ?_
              rw [HPO.out]
              exact ⟨⟨some ⟨g3, 0, none⟩, x.n, c3, ⟨L, false⟩⟩, by rw [HME.out]; rfl, (fun q h => by rw [HME.out] at h; cases h; rfl), ⟨own_other HOW.out (grown_setRow wd (b + 2) _) (by intro e; have h9 : g3 = b + 2 := Option.some.inj e; omega), HSM.out⟩, HXD.out.setRow (by rw [HBB.out]; omega)⟩
    · obtain ⟨q1, q2⟩ := neI (x := (f : Int)) (y := 0) (by omega)
      go_wp2_with (first
        | ((with_reducible refine atSlot 11 ?_); refine wpList_of_wp rfl (wp_load_mid (op := ⟨some 11, _, _, _, _, _⟩) 39 _ rfl b 0 rfl [.slice a n c, .bool pr] _ hr11 Tryz.underlying39 rfl (by kernel_rfl) ?_); clear hr11)
        | ((with_reducible refine atSlot 15 ?_); refine wpList_of_wp rfl (wp_load_mid (op := ⟨some 15, _, _, _, _, _⟩) 39 _ rfl (b + 1) 0 rfl [.slice a' m c', .bool qr] _ hr15 Tryz.underlying39 rfl (by kernel_rfl) ?_); clear hr15)
        | (go_at_call 75; (with_reducible refine (HCK.out _ HX.out).mono ?_); rintro en w3 ⟨rfl, hx3⟩; have hr15 := (box2 (hx3.heap' HH2.out)).2.2; have HX3 := Lib.hid hx3; clear hx3 HCK)
        | (go_at_call 75; (with_reducible refine (HCG.out _ (HX.out.trans' HX3.out)).mono ?_); rintro en w4 ⟨rfl, hx4⟩; have HX4 := Lib.hid (HX3.out.trans' hx4); have HS4 := Lib.hid (HX4.out.heap' HH3.out); clear hx4 HCG)
        | ((with_reducible refine atStore 4 ?_); refine wpList_of_wp rfl (wp_store_row (o := ⟨none, _, _, _, _, _⟩) _ _ _ rfl (b + 2) #[.slice none 0 0, .bool false] rfl rfl _ _ HS4.out (by kernel_rfl) rfl (by simp [Value.oneCell']) ?_))
        | fail)
      have hM : M = none := by have h := HM.out; rw [if_neg (by simp [hf0])] at h; exact h
      refine bodyPost_ret (results_c1 (ty := 39) rfl _ (b + 2) [.slice none 0 0, .bool false] _ rfl (range_of_heap2 (setRow_heap _ _ _ _ _ _ HS4.out)) Tryz.underlying39 rfl (by kernel_rfl)) rfl ?_
      rw [HPO.out]
      exact ⟨⟨none, 0, 0, ⟨[], false⟩⟩, by rw [hM]; rfl, (fun q h => by rw [hM] at h; cases h), PtO.nil _ _ _, Ext.setRow (HX.out.trans' HX4.out) (by rw [HBB.out]; omega)⟩
  · obtain ⟨q1, q2⟩ := neI (x := (e : Int)) (y := 0) (by omega)
    go_wp2_with (first
      | ((with_reducible refine atSlot 11 ?_); refine wpList_of_wp rfl (wp_load_mid (op := ⟨some 11, _, _, _, _, _⟩) 39 _ rfl b 0 rfl [.slice a n c, .bool pr] _ hr11 Tryz.underlying39 rfl (by kernel_rfl) ?_); clear hr11)
      | (go_at_call 75; (with_reducible refine (HCK.out _ HX.out).mono ?_); rintro en w3 ⟨rfl, hx3⟩; have hr15 := (box2 (hx3.heap' HH2.out)).2.2; have HX3 := Lib.hid hx3; have HS3 := Lib.hid (hx3.heap' HH3.out); clear hx3 HCK)
      | ((with_reducible refine atStore 4 ?_); refine wpList_of_wp rfl (wp_store_row (o := ⟨none, _, _, _, _, _⟩) _ _ _ rfl (b + 2) #[.slice none 0 0, .bool false] rfl rfl _ _ HS3.out (by kernel_rfl) rfl (by simp [Value.oneCell']) ?_))
      | fail)
    have hM : M = none := by have h := HM.out; rw [if_neg (by simp [he0])] at h; exact h
    refine bodyPost_ret (results_c1 (ty := 39) rfl _ (b + 2) [.slice none 0 0, .bool false] _ rfl (range_of_heap2 (setRow_heap _ _ _ _ _ _ HS3.out)) Tryz.underlying39 rfl (by kernel_rfl)) rfl ?_
    rw [HPO.out]
    exact ⟨⟨none, 0, 0, ⟨[], false⟩⟩, by rw [hM]; rfl, (fun q h => by rw [hM] at h; cases h), PtO.nil _ _ _, Ext.setRow (HX.out.trans' HX3.out) (by rw [HBB.out]; omega)⟩
end Go.Proofs.YtejljmikammcdaaGreatDoor
/-
  Layer pattern: Match.
-/
namespace Go.Proofs.YtejljmikammcdaaGreatDoor
open Go.RowKit

/-- The captures of the parts alone. -/
def captN : List Str → List Str → Option (List Str)
  | [], _ => some []
  | _ :: _, [] => none
  | a :: ps, x :: xs => (mpart a x).bind fun z => (captN ps xs).map fun L => if star a then z :: L else L
theorem captN_bad : ∀ (ps xs : List Str) (j : Nat) (p x : Str), ps[j]? = some p → xs[j]? = some x → mpart p x = none → captN ps xs = none
  | [], xs, j, p, x, h1, h2, h3 => by cases h1
  | a :: ps, [], j, p, x, h1, h2, h3 => by cases h2
  | a :: ps, y :: xs, 0, p, x, h1, h2, h3 => by
    cases h1; cases h2
    unfold captN
    rw [h3]; rfl
  | a :: ps, y :: xs, j + 1, p, x, h1, h2, h3 => by
    unfold captN
    rw [captN_bad ps xs j p x (by simpa using h1) (by simpa using h2) h3]
    cases mpart a y <;> rfl
theorem captN_step : ∀ (ps xs : List Str) (j : Nat) (p x z : Str) (L : List Str), ps[j]? = some p → xs[j]? = some x → mpart p x = some z → captN (ps.take j) xs = some L →
    captN (ps.take (j + 1)) xs = some (if star p then L ++ [z] else L)
  | [], xs, j, p, x, z, L, h1, h2, h3, h4 => by cases h1
  | a :: ps, [], j, p, x, z, L, h1, h2, h3, h4 => by cases h2
  | a :: ps, y :: xs, 0, p, x, z, L, h1, h2, h3, h4 => by
    cases h1; cases h2
    rw [List.take_zero] at h4
    cases h4
    rw [List.take_succ_cons, List.take_zero]
    unfold captN
    rw [h3]
    show some (if star a then z :: [] else []) = _
    cases star a <;> rfl
  | a :: ps, y :: xs, j + 1, p, x, z, L, h1, h2, h3, h4 => by
    rw [List.take_succ_cons] at h4 ⊢
    unfold captN at h4 ⊢
    cases hm : mpart a y with
    | none => rw [hm] at h4; cases h4
    | some u =>
      rw [hm] at h4
      cases hc : captN (ps.take j) xs with
      | none => rw [hc] at h4; cases h4
      | some M =>
        rw [hc] at h4
        cases h4
        rw [captN_step ps xs j p x z M (by simpa using h1) (by simpa using h2) h3 hc]
        show some (if star a then u :: (if star p then M ++ [z] else M) else (if star p then M ++ [z] else M)) = _
        cases star a <;> cases star p <;> rfl
theorem capt_captN : ∀ (ps xs : List Str) (r : Bool), ps.length ≤ xs.length → capt ps r xs = (captN ps xs).bind fun L =>
    if r then (if xs.drop ps.length = [] then none else some (L.map (fun z => [z]) ++ [xs.drop ps.length])) else (if xs.drop ps.length = [] then some (L.map fun z => [z]) else none)
  | [], xs, r, h => by
    unfold capt captN
    cases r <;> simp
  | a :: ps, [], r, h => by simp at h
  | a :: ps, y :: xs, r, h => by
    have ih := capt_captN ps xs r (by simpa using h)
    unfold capt captN
    rw [ih]
    cases mpart a y with
    | none => rfl
    | some z =>
      cases captN ps xs with
      | none => rfl
      | some L =>
        simp only [Option.bind_some, Option.map_some, List.length_cons, List.drop_succ_cons]
        cases r <;> cases star a <;> simp <;> split <;> simp

/-- pattern.Match. -/
def matchS (P : Pat) (s : Str) : Option (List Str) := if okP P then (splitP s).bind fun xs => (capt P.parts P.rest xs).map (·.map joinS) else none
theorem match_is {P : Pat} {s : Str} {xs L : List Str} (hok : okP P = true) (hs : splitP s = some xs) (hl : P.parts.length ≤ xs.length) (hr : decide (P.parts.length < xs.length) = P.rest) (hc : captN P.parts xs = some L) :
    matchS P s = some (L ++ if P.rest then [joinS (xs.drop P.parts.length)] else []) := by
  unfold matchS
  rw [if_pos hok, hs, Option.bind_some, capt_captN _ _ _ hl, hc, Option.bind_some]
  have hmm : (L.map fun z => [z]).map joinS = L := by
    rw [List.map_map]
    conv => rhs; rw [← List.map_id L]
    exact List.map_congr_left fun x _ => rfl
  cases hrr : P.rest with
  | true =>
    rw [hrr] at hr
    have hlt := of_decide_eq_true hr
    rw [if_pos rfl, if_pos rfl, if_neg (by intro e; have := congrArg List.length e; rw [List.length_drop] at this; simp at this; omega)]
    simp [hmm]
  | false =>
    rw [hrr] at hr
    have hlt := of_decide_eq_false hr
    simp only [Bool.false_eq_true, if_false]
    rw [if_pos (by apply List.eq_nil_of_length_eq_zero; rw [List.length_drop]; omega)]
    simp [hmm]
theorem match_len {P : Pat} {s : Str} {xs : List Str} (hs : splitP s = some xs) (hl : ¬ (P.parts.length ≤ xs.length ∧ decide (P.parts.length < xs.length) = P.rest)) : matchS P s = none := by
  unfold matchS
  split
  · rw [hs, Option.bind_some]
    cases hc : capt P.parts P.rest xs with
    | none => rfl
    | some l =>
      have := mtch_len P.parts P.rest xs (by rw [← capt_isSome, hc]; rfl)
      exfalso
      apply hl
      cases hr : P.rest with
      | true => rw [hr] at this; simp only [if_true] at this; exact ⟨by omega, decide_eq_true this⟩
      | false => rw [hr] at this; simp only [Bool.false_eq_true, if_false] at this; exact ⟨by omega, decide_eq_false (by omega)⟩
  · rfl
theorem match_none {P : Pat} {s : Str} {xs : List Str} (hs : splitP s = some xs) (hl : P.parts.length ≤ xs.length) (hc : captN P.parts xs = none) : matchS P s = none := by
  unfold matchS
  split
  · rw [hs, Option.bind_some, capt_captN _ _ _ hl, hc]; rfl
  · rfl

/-- pattern.Match: what it answers. -/
def MatchO (P : Pat) (s : Str) (w : World) (en : Ending) (w' : World) : Prop :=
  ∃ a n c, en = .returned (.tuple #[.slice a n c, .bool (matchS P s).isSome]) ∧ (∀ L, matchS P s = some L → n = L.length ∧ w'.ownsRow w.heap.size 9 1 (.slice a n c) n (L.map sv)) ∧ Ext w w'
def MaRel (w2 : World) (ps xs : List Str) (v i : Value) (wr : World) : Prop :=
  ∃ (j : Nat) (L : List Str) (a : Option Addr) (c : Nat), i = .int .i64 j ∧ v = .slice a L.length c ∧ j ≤ ps.length ∧ L.length ≤ j ∧ captN (ps.take j) xs = some L ∧ wr.ownsRow w2.heap.size 9 1 (.slice a L.length c) L.length (L.map sv) ∧ Ext w2 wr

theorem joinS_drop_le : ∀ (xs : List Str) (k : Nat), (joinS (xs.drop k)).length ≤ (joinS xs).length
  | xs, 0 => Nat.le_refl _
  | [], k + 1 => by simp
  | [a], k + 1 => by simp [joinS]
  | a :: b :: xs, k + 1 => by
    have := joinS_drop_le (b :: xs) k
    rw [List.drop_succ_cons, joinS_cons _ _ (by simp), List.length_append, List.length_cons]
    omega

set_option maxRecDepth 100000 in
set_option maxHeartbeats 4000000 in
theorem Match_any (k : Pt) (S : Nat) (s : Str) (w : World) (hk : PtI w S k) (hS : S ≤ 1073741824) (hs : s.length ≤ 1099511627000) : Calls Tryz.prog 64 #[k.v, .string (bs s)] w (MatchO k.P s w) := by
  have HSP := Lib.hid fun w' => split_any s w' (by omega)
  have HCK := Lib.hid fun w' (h : Ext w w') => Check_any k S w' (hk.ext h) (by omega)
  have HOK := Lib.hid (show okP k.P = decide (chkP k.P = 0) from Bool.eq_iff_iff.2 (by rw [decide_eq_true_eq]; exact okP_iff))
  have HK := Lib.hid hk
  have hn9 : chkP k.P = 0 → k.n ≤ 12 := fun h => by rw [← hk.len]; exact (okP_of.1 (okP_iff.2 h)).le
  obtain ⟨e, he⟩ : ∃ e, e = chkP k.P := ⟨_, rfl⟩
  rw [← he] at HCK HOK hn9
  have HN12 := Lib.hid hn9
  obtain ⟨a, n, c, ⟨ps, rest⟩⟩ := k
  have HN := Lib.hid (show ps.length = n from hk.len)
  obtain ⟨R, hR⟩ : ∃ R, R = matchS ⟨ps, rest⟩ s := ⟨_, rfl⟩
  have hpost : MatchO ⟨ps, rest⟩ s w = fun en w' => ∃ a n c, en = .returned (.tuple #[.slice a n c, .bool R.isSome]) ∧ (∀ L, R = some L → n = L.length ∧ w'.ownsRow w.heap.size 9 1 (.slice a n c) n (L.map sv)) ∧ Ext w w' := by rw [hR]; rfl
  show Calls _ _ _ _ (MatchO ⟨ps, rest⟩ s w)
  rw [hpost]
  have HR := Lib.hid hR
  clear hpost hR he hk hn9
  have HX := Lib.hid (Ext.alloc' w (pbox ⟨a, n, c, ⟨ps, rest⟩⟩))
  have HB := Lib.hid (heap_alloc_new w (pbox ⟨a, n, c, ⟨ps, rest⟩⟩))
  obtain ⟨post, hpo⟩ : ∃ p : Ending → World → Prop, p = fun en w' => ∃ a n c, en = .returned (.tuple #[.slice a n c, .bool R.isSome]) ∧ (∀ L, R = some L → n = L.length ∧ w'.ownsRow w.heap.size 9 1 (.slice a n c) n (L.map sv)) ∧ Ext w w' := ⟨_, rfl⟩
  rw [← hpo]
  have HPO := Lib.hid hpo
  clear hpo
  go_enter Tryz.func64, Tryz.ntmps64
  go_upto_region 1 with fail
  change Code.wp _ _ _ _ (w.alloc (pbox ⟨a, n, c, ⟨ps, rest⟩⟩))
  generalize w.alloc (pbox ⟨a, n, c, ⟨ps, rest⟩⟩) = w1 at HX HB ⊢
  obtain ⟨b, hb⟩ : ∃ b, b = w.heap.size := ⟨_, rfl⟩
  rw [← hb] at HB ⊢
  have HBB := Lib.hid hb
  clear hb
  cases hsp : splitP s with
  | none =>
    have HSN := Lib.hid (show R = none by rw [HR.out]; unfold matchS; split; (rw [hsp]; rfl); rfl)
    have HSQ := Lib.hid (show Calls Tryz.prog 90 #[.string (bs s)] w1 (fun en w' => ∃ a n c, en = .returned (.tuple #[.slice a n c, .bool false]) ∧ Ext w1 w') from
      (HSP.out w1).mono fun en w' ⟨a, n, c, h1, _, h3⟩ => ⟨a, n, c, by rw [h1, hsp]; rfl, h3⟩)
    go_wp2_with (first
      | (go_at_call 90; (with_reducible refine HSQ.out.mono ?_); rintro en w2 ⟨ax, nx, cx, rfl, hx2⟩)
      | fail)
    rw [HPO.out]
    exact ⟨none, 0, 0, by rw [HSN.out]; rfl, (fun L h => by rw [HSN.out] at h; cases h), HX.out.trans' hx2⟩
  | some xs =>
    have HXS := Lib.hid hsp
    have HSQ := Lib.hid (show Calls Tryz.prog 90 #[.string (bs s)] w1 (fun en w' => ∃ a c, en = .returned (.tuple #[.slice a xs.length c, .bool true]) ∧ w'.ownsRow w1.heap.size 9 1 (.slice a xs.length c) xs.length (xs.map sv) ∧ Ext w1 w') from
      (HSP.out w1).mono fun en w' ⟨a, n, c, h1, h2, h3⟩ => by
        obtain ⟨h4, h5⟩ := h2 xs hsp
        subst h4
        exact ⟨a, c, by rw [h1, hsp]; rfl, h5, h3⟩)
    have hxsl : xs.length ≤ 1099511627776 ∧ (joinS xs).length ≤ 1099511627776 := by
      obtain ⟨h1, h2⟩ := splitP_some hsp
      have h3 : (pathS xs).length = (joinS xs).length + 2 := by simp [pathS]
      rw [h2, h3] at hs
      refine ⟨?_, by omega⟩
      have : ∀ l : List Str, l.length ≤ (joinS l).length + 1 := by
        intro l
        induction l with
        | nil => simp
        | cons a l ih =>
          by_cases hl : l = []
          · subst hl; simp
          · rw [joinS_cons _ _ hl, List.length_append, List.length_cons, List.length_cons]
            omega
      have := this xs
      omega
    obtain ⟨hxsl, hxj⟩ := hxsl
    have hcl : ∀ x ∈ xs, x.length ≤ 1099511627776 := fun x hx => by
      have h1 := (splitP_some hsp).2
      have h2 : splitS (s.drop 2) = xs := by
        obtain ⟨h3, h4⟩ := splitP_some hsp
        rw [h4]
        exact splitS_join xs (by rintro rfl; have := h3.1; simp at this) (fun a ha => comp_noslash (h3.2 a ha))
      have h5 := split_small (s.drop 2) x (by rw [h2]; exact hx)
      rw [List.length_drop] at h5
      omega
    have HCL := Lib.hid hcl
    clear hcl hsp
    go_upto_region 2 with (first
      | (go_at_call 90; (with_reducible refine HSQ.out.mono ?_); rintro en w2 ⟨ax, cx, rfl, hox, hx2⟩; have HOX := Lib.hid (Row.of_own hox); have HX2 := Lib.hid hx2; clear hox hx2 HSP)
      | fail)
    have HB2 := Lib.hid (HX2.out.heap' HB.out)
    have HX02 := Lib.hid (HX.out.trans' HX2.out)
    have hr22 := (box2 HB2.out).2.2
    by_cases he0 : e = 0
    · subst he0
      have hn12 : n ≤ 12 := HN12.out rfl
      go_upto_region 5 with (first
        | ((with_reducible refine atSlot 22 ?_); refine wpList_of_wp rfl (wp_load_mid (op := ⟨some 22, _, _, _, _, _⟩) 39 _ rfl b 0 rfl [.slice a n c, .bool rest] _ hr22 Tryz.underlying39 rfl (by kernel_rfl) ?_); clear hr22)
        | (go_at_call 75; (with_reducible refine (HCK.out _ HX02.out).mono ?_); rintro en w3 ⟨rfl, hx3⟩; have HB3 := Lib.hid (hx3.heap' HB2.out); have HX3 := Lib.hid hx3; obtain ⟨d0, d1, -⟩ := box2 HB3.out; clear hx3 HCK)
        | fail)
      have HX03 := Lib.hid (HX02.out.trans' HX3.out)
      by_cases hlen : n ≤ xs.length ∧ decide (n < xs.length) = rest
      · obtain ⟨hnl, hnr⟩ := hlen
        go_cut [41] from 42 (fun s41 w' => s41 = .bool false ∧ w' = w3)
        case first =>
          cases rest with
          | true =>
            have hgt := of_decide_eq_true hnr
            have q1 : ¬ xs.length < n := by omega
            go_wp2
            go_meet
            case rel => exact ⟨rfl, rfl⟩
          | false =>
            have hgt := of_decide_eq_false hnr
            have q1 : ¬ xs.length < n := by omega
            go_wp2
            go_meet
            case rel => exact ⟨rfl, rfl⟩
        obtain ⟨rfl, rfl⟩ := hcut
        have HRK := Lib.hid fun w' (h : Ext w w') => (show Row w' a n c 1 (ps.map sv) from (HK.out.ext h).row)
        have HRX := Lib.hid fun w' (h : Ext wc w') => HOX.out.ext (HX3.out.trans' h)
        have hsm : ∀ p ∈ ps, p.length ≤ S := HK.out.small
        have HSM := Lib.hid hsm
        have HNR := Lib.hid hnr
        clear hsm hnr d1
        go_upto_region 9 with fail
        clear d0
        go_loopw [9, 45] (MaRel wc ps xs) (fun _ i _ => n - (intOf i).toNat)
        case atStart => exact ⟨0, [], none, 0, rfl, rfl, Nat.zero_le _, Nat.le_refl _, by cases ps <;> rfl, own_nil _ _ _ _, Below.refl _ _⟩
        case round =>
          obtain ⟨j, L, la, lc, rfl, rfl, hj, hLj, hcap, hown, hx⟩ := hrel
          rename World => wd
          have HCAP := Lib.hid hcap
          have HOW := Lib.hid hown
          have HXD := Lib.hid hx
          have HLJ := Lib.hid hLj
          have hj' : j ≤ n := by rw [← HN.out]; exact hj
          clear hcap hown hx hj
          by_cases hjl : j < n
          · obtain ⟨p, hp⟩ : ∃ p, ps[j]? = some p := ⟨_, List.getElem?_eq_getElem (by rw [HN.out]; exact hjl)⟩
            have hjx : j < xs.length := by omega
            obtain ⟨q, hq⟩ : ∃ q, xs[j]? = some q := ⟨_, List.getElem?_eq_getElem hjx⟩
            have HP := Lib.hid hp
            have HQ := Lib.hid hq
            have HMP := Lib.hid (MatchPart_any p q wd (by have := HSM.out p (List.mem_of_getElem? hp); omega) (by have := HCL.out q (List.mem_of_getElem? hq); omega))
            have HST := Lib.hid (isStar_any p wd)
            have hrk := HRK.out wd (HX03.out.trans' HXD.out)
            have hrx := HRX.out wd HXD.out
            clear hp hq
            cases hmp : mpart p q with
            | none =>
              have HSN := Lib.hid (show R = none by rw [HR.out]; exact match_none HXS.out (by show ps.length ≤ _; rw [HN.out]; exact hnl) (captN_bad ps xs j p q HP.out HQ.out hmp))
              have HMP2 := Lib.hid (show Calls Tryz.prog 91 #[.string (bs p), .string (bs q)] wd (fun en w' => ∃ x, en = .returned (.tuple #[.string (bs x), .bool false]) ∧ wd = w') from
                HMP.out.mono fun en w' ⟨x, b, h1, h2, _, h4⟩ => ⟨x, by rw [h1, h2, hmp]; rfl, h4⟩)
              clear hmp HMP
              go_wp2_with (first
                | ((with_reducible refine atSlot 48 ?_); refine wpList_of_wp rfl (owp_ix (o := ⟨some 48, _, _, _, _, _⟩) _ _ rfl Tryz.elStr rfl hrk j rfl rfl hjl ?_); intro b1 o1 hc2; have hd := sv_at HP.out hc2; clear hc2 hrk)
                | ((with_reducible refine atSlot 54 ?_); refine wpList_of_wp rfl (owp_ix (o := ⟨some 54, _, _, _, _, _⟩) _ _ rfl Tryz.elStr rfl hrx j rfl rfl hjx ?_); intro b1 o1 hc2; have hd2 := sv_at HQ.out hc2; clear hc2 hrx)
                | (go_at_call 91; (with_reducible refine HMP2.out.mono ?_); rintro en we ⟨z, rfl, rfl⟩)
                | fail)
              rw [HPO.out]
              exact ⟨none, 0, 0, by rw [HSN.out]; rfl, (fun L h => by rw [HSN.out] at h; cases h), HX03.out.trans' HXD.out⟩
            | some z =>
              have HMP2 := Lib.hid (show Calls Tryz.prog 91 #[.string (bs p), .string (bs q)] wd (fun en w' => en = .returned (.tuple #[.string (bs z), .bool true]) ∧ wd = w') from
                HMP.out.mono fun en w' ⟨x, b, h1, h2, h3, h4⟩ => by
                  rw [hmp] at h2 h3
                  obtain rfl : b = true := h2
                  cases h3 rfl
                  exact ⟨h1, h4⟩)
              have HSTEP := Lib.hid (captN_step ps xs j p q z L HP.out HQ.out hmp HCAP.out)
              clear hmp HMP
              obtain ⟨t, ht⟩ : ∃ t, t = star p := ⟨_, rfl⟩
              rw [← ht] at HST HSTEP
              clear ht
              cases t with
              | false =>
                go_wp2_with (first
                  | ((with_reducible refine atSlot 48 ?_); refine wpList_of_wp rfl (owp_ix (o := ⟨some 48, _, _, _, _, _⟩) _ _ rfl Tryz.elStr rfl hrk j rfl rfl hjl ?_); intro b1 o1 hc2; have hd := sv_at HP.out hc2; clear hc2 hrk)
                  | ((with_reducible refine atSlot 54 ?_); refine wpList_of_wp rfl (owp_ix (o := ⟨some 54, _, _, _, _, _⟩) _ _ rfl Tryz.elStr rfl hrx j rfl rfl hjx ?_); intro b1 o1 hc2; have hd2 := sv_at HQ.out hc2; clear hc2 hrx)
                  | (go_at_call 91; (with_reducible refine HMP2.out.mono ?_); rintro en we ⟨rfl, rfl⟩)
                  | (go_at_call 92; (with_reducible refine HST.out.mono ?_); rintro en we ⟨rfl, rfl⟩)
                  | fail)
                refine ⟨⟨j + 1, L, la, lc, by go_num, rfl, by rw [HN.out]; exact hjl, by have := HLJ.out; omega, HSTEP.out, HOW.out, HXD.out⟩, ?_⟩
                simp [intOf]; omega
              | true =>
                have hal := Ext.alloc' wd (.cells #[sv z] 9)
                have HAL := Lib.hid hal
                have HZ := Lib.hid HXD.out.size
                clear hal
                go_wp2_with (first
                  | ((with_reducible refine atSlot 48 ?_); refine wpList_of_wp rfl (owp_ix (o := ⟨some 48, _, _, _, _, _⟩) _ _ rfl Tryz.elStr rfl hrk j rfl rfl hjl ?_); intro b1 o1 hc2; have hd := sv_at HP.out hc2; clear hc2 hrk)
                  | ((with_reducible refine atSlot 54 ?_); refine wpList_of_wp rfl (owp_ix (o := ⟨some 54, _, _, _, _, _⟩) _ _ rfl Tryz.elStr rfl hrx j rfl rfl hjx ?_); intro b1 o1 hc2; have hd2 := sv_at HQ.out hc2; clear hc2 hrx)
                  | (go_at_call 91; (with_reducible refine HMP2.out.mono ?_); rintro en we ⟨rfl, rfl⟩)
                  | (go_at_call 92; (with_reducible refine HST.out.mono ?_); rintro en we ⟨rfl, rfl⟩)
                  | ((with_reducible refine atSlot 66 ?_); refine wpList_of_wp rfl (owp_app (o := ⟨some 66, _, _, _, _, _⟩) _ _ rfl Tryz.elStr rfl (own_ext HOW.out HAL.out) rfl (Row.new wd #[sv z] 9 1 1 rfl (by decide)) (sv_one [z]) (by have := HLJ.out; omega) (by have := HLJ.out; unfold maxLen; omega) (Nat.le_trans HZ.out HAL.out.size) ?_); intro a2 c2 w6 ho2 hg2; have hx2 := below_app (HXD.out.trans' HAL.out) (own_ext HOW.out HAL.out) hg2 (Nat.le_trans HZ.out HAL.out.size); have HO2 := Lib.hid ho2; have HX2 := Lib.hid hx2; clear ho2 hg2 hx2)
                  | fail)
                have ho := HO2.out
                rw [show L.map sv ++ (#[sv z] : Array Value).toList = (L ++ [z]).map sv by rw [List.map_append]; rfl] at ho
                refine ⟨⟨j + 1, L ++ [z], a2, c2, by go_num, by rw [List.length_append]; rfl, by rw [HN.out]; exact hjl, by rw [List.length_append]; have := HLJ.out; simp; omega, HSTEP.out, by rw [List.length_append]; exact ho, HX2.out⟩, ?_⟩
                simp [intOf]; omega
          · have HCF := Lib.hid (show captN ps xs = some L by
              have h := HCAP.out
              rw [List.take_of_length_le (by rw [HN.out]; omega)] at h
              exact h)
            have HRV := Lib.hid (show R = some (L ++ if rest then [joinS (xs.drop n)] else []) by
              rw [HR.out, match_is (P := ⟨ps, rest⟩) (by rw [HOK.out]; rfl) HXS.out (by show ps.length ≤ _; rw [HN.out]; exact hnl) (by show decide (ps.length < _) = rest; rw [HN.out]; exact HNR.out) HCF.out]
              show some (L ++ if rest then [joinS (xs.drop ps.length)] else []) = _
              rw [HN.out])
            have hL12 : L.length ≤ n := by have := HLJ.out; omega
            have HSZ := Lib.hid (show w.heap.size ≤ wc.heap.size from HX03.out.size)
            have HSZ2 := Lib.hid (show wc.heap.size ≤ wd.heap.size from HXD.out.size)
            obtain ⟨-, d1, -⟩ := box2 (HXD.out.heap' HB3.out)
            cases rest with
            | false =>
              go_wp2
              rw [HPO.out]
              exact ⟨la, L.length, lc, by rw [HRV.out]; rfl, (fun M h => by rw [HRV.out] at h; simp at h; subst h; exact ⟨rfl, own_base HOW.out HSZ.out⟩), HX03.out.trans' HXD.out⟩
            | true =>
              have hrx := HRX.out wd HXD.out
              have hjd : (joinS (xs.drop n)).length ≤ 1099511627776 := Nat.le_trans (joinS_drop_le xs n) hxj
              have HJN := Lib.hid (fun a4 (h : Row wd a4 (xs.length - n) (cx - n) 1 ((xs.map sv).drop (n * 1))) => Join_any a4 (xs.length - n) (cx - n) (xs.drop n) wd (by rwa [Nat.mul_one, ← List.map_drop] at h) (by omega) hjd)
              go_wp2_with (first
                | ((with_reducible refine atSlot 73 ?_); refine wpList_of_wp rfl (owp_sl_lo (o := ⟨some 73, _, _, _, _, _⟩) _ _ rfl Tryz.elStr rfl hrx n rfl rfl hnl ?_); intro a4 hr4; have HR4 := Lib.hid hr4; clear hr4 hrx)
                | (go_at_call 78; (with_reducible refine (HJN.out a4 HR4.out).mono ?_); rintro en w5 ⟨rfl, hx5⟩; have HX5 := Lib.hid hx5; have HAL := Lib.hid (Ext.alloc' w5 (.cells #[sv (joinS (xs.drop n))] 9)); clear hx5)
                | ((with_reducible refine atSlot 76 ?_); refine wpList_of_wp rfl (owp_app (o := ⟨some 76, _, _, _, _, _⟩) _ _ rfl Tryz.elStr rfl (own_ext HOW.out (HX5.out.trans' HAL.out)) rfl (Row.new w5 #[sv (joinS (xs.drop n))] 9 1 1 rfl (by decide)) (sv_one [joinS (xs.drop n)]) (by omega) (by unfold maxLen; omega) (Nat.le_trans HSZ2.out (HX5.out.trans' HAL.out).size) ?_); intro a6 c6 w6 ho6 hg6; have HO6 := Lib.hid ho6; have HX6 := Lib.hid (below_app (HXD.out.trans' (HX5.out.trans' HAL.out)) (own_ext HOW.out (HX5.out.trans' HAL.out)) hg6 (Nat.le_trans HSZ2.out (HX5.out.trans' HAL.out).size)); clear ho6 hg6)
                | fail)
              have ho := HO6.out
              rw [show L.map sv ++ (#[sv (joinS (xs.drop n))] : Array Value).toList = (L ++ [joinS (xs.drop n)]).map sv by rw [List.map_append]; rfl] at ho
              rw [HPO.out]
              have e9 : R = some (L ++ [joinS (xs.drop n)]) := by
                have h := HRV.out
                first
                  | exact h
                  | (rw [if_pos trivial] at h; exact h)
              exact ⟨a6, L.length + 1, c6, by rw [e9]; rfl, (fun M h => by rw [e9] at h; cases h; exact ⟨by simp, own_base ho HSZ.out⟩), HX03.out.trans' HX6.out⟩
      · have HSN := Lib.hid (show R = none by rw [HR.out]; exact match_len HXS.out (by show ¬ (ps.length ≤ xs.length ∧ decide (ps.length < xs.length) = rest); rw [HN.out]; exact hlen))
        by_cases hnl : xs.length < n
        · go_wp2
          rw [HPO.out]
          exact ⟨none, 0, 0, by rw [HSN.out]; rfl, (fun L h => by rw [HSN.out] at h; cases h), HX03.out⟩
        · cases rest with
          | true =>
            have hgt : ¬ n < xs.length := fun h => hlen ⟨by omega, decide_eq_true h⟩
            go_wp2
            rw [HPO.out]
            exact ⟨none, 0, 0, by rw [HSN.out]; rfl, (fun L h => by rw [HSN.out] at h; cases h), HX03.out⟩
          | false =>
            have hgt : n < xs.length := by
              by_cases h : n < xs.length
              · exact h
              · exact absurd ⟨by omega, decide_eq_false h⟩ hlen
            go_wp2
            rw [HPO.out]
            exact ⟨none, 0, 0, by rw [HSN.out]; rfl, (fun L h => by rw [HSN.out] at h; cases h), HX03.out⟩
    · obtain ⟨q1, q2⟩ := neI (x := (e : Int)) (y := 0) (by omega)
      have HSN := Lib.hid (show R = none by rw [HR.out]; unfold matchS; rw [HOK.out, if_neg (by simp [he0])])
      go_wp2_with (first
        | ((with_reducible refine atSlot 22 ?_); refine wpList_of_wp rfl (wp_load_mid (op := ⟨some 22, _, _, _, _, _⟩) 39 _ rfl b 0 rfl [.slice a n c, .bool rest] _ hr22 Tryz.underlying39 rfl (by kernel_rfl) ?_); clear hr22)
        | (go_at_call 75; (with_reducible refine (HCK.out _ HX02.out).mono ?_); rintro en w3 ⟨rfl, hx3⟩)
        | fail)
      rw [HPO.out]
      exact ⟨none, 0, 0, by rw [HSN.out]; rfl, (fun L h => by rw [HSN.out] at h; cases h), HX02.out.trans' hx3⟩
end Go.Proofs.YtejljmikammcdaaGreatDoor
/-
  Layer pattern: Fill, for captures that a path has.
-/
namespace Go.Proofs.YtejljmikammcdaaGreatDoor
open Go.RowKit

theorem fit_length : ∀ (k : Nat) (r : Bool) (l : List (List Str)), Fit k r l → l.length = k + if r then 1 else 0
  | 0, true, l, h => by
    obtain ⟨cs, -, rfl⟩ := (show ∃ cs, cs ≠ [] ∧ l = [cs] from h)
    rfl
  | 0, false, l, h => by rw [show l = [] from h]; rfl
  | k + 1, r, l, h => by
    obtain ⟨x, l', -, rfl, h'⟩ := h
    rw [List.length_cons, fit_length k r l' h']
    omega
theorem stars_drop {ps : List Str} {j : Nat} {p : Str} (h : ps[j]? = some p) : stars (ps.drop j) = stars (ps.drop (j + 1)) + if star p then 1 else 0 := by
  obtain ⟨hlt, he⟩ := List.getElem?_eq_some_iff.1 h
  rw [List.drop_eq_getElem_cons hlt, he, stars_cons]
theorem fill_drop {ps : List Str} {j : Nat} {p : Str} (h : ps[j]? = some p) (r : Bool) (l : List (List Str)) :
    fillL (ps.drop j) r l = if star p then ((l.head?.getD []).flatten ++ suf p) :: fillL (ps.drop (j + 1)) r l.tail else p :: fillL (ps.drop (j + 1)) r l := by
  obtain ⟨hlt, he⟩ := List.getElem?_eq_some_iff.1 h
  rw [List.drop_eq_getElem_cons hlt, he]
  rfl

theorem wpY_sl_loA {P : Program} {ops : Array Oper} {B : Nat} {w0 : World} {fr : List Nat} {Q : Act → World → Prop} {k : Nat} {L : XP} {f : Act} {w : World} {o : Oper} (ho : ops[k]? = some o) (hw : Region.wanted o (yielded ops f.tmps) = true) (xO lO : Operand) {t : TypeId}
    (hop : o.op = .slice t xO (some lO) none none) {e s b : Nat} {z : Value} (E : Elem P t e s b z) {a : Option Addr} {n c : Nat} (hx : f.eval xO = .slice a n c)
    (l : Nat) {kl : IntKind} {I : Int} (hl : f.eval lO = .int kl I) (hL : I = (l : Int)) (hlh : l ≤ n)
    (h : wpY P ops B w0 fr Q L (f.put o.dst (.slice (subA a l c s) (n - l) (c - l))) w) : wpY P ops B w0 fr Q (.q k L) f w := by
  subst hL
  refine wpY_q ho hw (.slice (subA a l c s) (n - l) (c - l)) (fun w' _ => ?_) h
  simp [execOp, hop, hx, hl, Instr.sliceAt, run_underlying E.und, run_sl_lo E a n c kl l hlh, Result.andThen]
theorem Row.tail {w : World} {a : Option Addr} {n c s : Nat} {xs : List Value} (h : Row w a n c s xs) (l : Nat) (hl : l ≤ n) : Row w (subA a l c s) (n - l) (c - l) s (xs.drop (l * s)) := by
  have h2 := h.sub l n hl (Nat.le_refl _)
  rwa [List.take_of_length_le (by rw [List.length_drop, h.len, Nat.sub_mul]; omega)] at h2
theorem zeros_zero (z : Value) (s : Nat) : zeros z 0 s = [] := List.eq_nil_of_length_eq_zero (by rw [zeros_length]; simp)
/-- Between two rounds: the components so far, the captures that are left. -/
def FiRel (w3 : World) (ps : List Str) (rest : Bool) (l : List (List Str)) (v1 v9 i : Value) (wr : World) : Prop :=
  ∃ (j : Nat) (D : List Str) (l' : List (List Str)) (a' : Option Addr) (c' : Nat) (a9 : Option Addr) (c9 : Nat), i = .int .i64 j ∧ v1 = .slice a' l'.length c' ∧ v9 = .slice a9 D.length c9 ∧ j ≤ ps.length ∧ D.length = j ∧
    fillL ps rest l = D ++ fillL (ps.drop j) rest l' ∧ Fit (stars (ps.drop j)) rest l' ∧ (∀ cs ∈ l', cs ∈ l) ∧ Row w3 a' l'.length c' 1 ((l'.map joinS).map sv) ∧
    wr.ownsRow w3.heap.size 9 1 (.slice a9 D.length c9) D.length (D.map sv) ∧ Ext w3 wr
def FcRel (l : List Str) (i : Value) : Prop := ∃ j : Nat, i = .int .i64 j ∧ j ≤ l.length

set_option maxRecDepth 100000 in
set_option maxHeartbeats 4000000 in
theorem Fill_any (k : Pt) (S : Nat) (a1 : Option Addr) (c1 : Nat) (l : List (List Str)) (w : World) (hk : PtI w S k) (hS : S ≤ 1073741824) (hr : Row w a1 l.length c1 1 ((l.map joinS).map sv)) (hok : OkP k.P)
    (hf : Fit (stars k.P.parts) k.P.rest l) (hcp : ∀ cs ∈ l, ∀ x ∈ cs, compB x = true) (hcl : ∀ cs ∈ l, (joinS cs).length ≤ 1073741824) (hb : (joinS (fillL k.P.parts k.P.rest l)).length ≤ 1099511627000) :
    Calls Tryz.prog 94 #[k.v, .slice a1 l.length c1] w (NewNone (.tuple #[.string (bs (pathS (fillL k.P.parts k.P.rest l))), .int .i64 0]) w) := by
  have HKN := Lib.hid fun w' (h : Ext w w') => (Kinds_any k S w' (hk.ext h) (by omega)).mono fun en w'' hh => (show ∃ (_ : True), en = .returned (.tuple #[.int .i64 (stars k.P.parts : Nat), .bool k.P.rest, .int .i64 0]) ∧ Ext w' w'' from by
    obtain ⟨⟨e, r, s, h1, h2, h3⟩, h4⟩ := hh
    obtain rfl : e = 0 := h2.2 hok
    obtain ⟨rfl, rfl⟩ := h3 rfl
    exact ⟨trivial, h1, h4⟩)
  have hlen := fit_length _ _ _ hf
  have hle12 : k.n ≤ 12 := by rw [← hk.len]; exact hok.le
  have hpos : k.P.parts ≠ [] := by obtain ⟨a, ps, h, -⟩ := hok.head; rw [h]; simp
  have HK := Lib.hid hk
  have hst12 : stars k.P.parts ≤ 12 := Nat.le_trans (stars_le _) hok.le
  obtain ⟨a, n, c, ⟨ps, rest⟩⟩ := k
  have HN := Lib.hid (show ps.length = n from hk.len)
  obtain ⟨T, hT⟩ : ∃ T, T = fillL ps rest l := ⟨_, rfl⟩
  show Calls _ _ _ _ (NewNone (.tuple #[.string (bs (pathS (fillL ps rest l))), .int .i64 0]) w)
  have hb' : (joinS (fillL ps rest l)).length ≤ 1099511627000 := hb
  rw [← hT] at hb' ⊢
  have HT := Lib.hid hT
  have HPOS := Lib.hid (show ps ≠ [] from hpos)
  have HF := Lib.hid (show Fit (stars ps) rest l from hf)
  have HCP := Lib.hid hcp
  have HCL := Lib.hid hcl
  have HROW := Lib.hid hr
  obtain ⟨st, hst⟩ : ∃ st, st = stars ps := ⟨_, rfl⟩
  have HLEN := Lib.hid (show l.length = st + if rest then 1 else 0 by rw [hst]; exact hlen)
  have hst12' : st ≤ 12 := by rw [hst]; exact hst12
  have HX := Lib.hid (Ext.alloc' w (pbox ⟨a, n, c, ⟨ps, rest⟩⟩))
  have HB := Lib.hid (heap_alloc_new w (pbox ⟨a, n, c, ⟨ps, rest⟩⟩))
  have hle : n ≤ 12 := hle12
  have HKN2 := Lib.hid (show ∀ w', Ext w w' → Calls Tryz.prog 74 #[.agg #[.slice a n c, .bool rest]] w' (fun en w'' => ∃ (_ : True), en = .returned (.tuple #[.int .i64 (st : Nat), .bool rest, .int .i64 0]) ∧ Ext w' w'') from by rw [hst]; exact HKN.out)
  have HST := Lib.hid hst
  clear HKN hlen hle12 hpos hk hok hf hcp hcl hb hr hst hst12 hT
  obtain ⟨post, hpo⟩ : ∃ p : Ending → World → Prop, p = NewNone (.tuple #[.string (bs (pathS T)), .int .i64 0]) w := ⟨_, rfl⟩
  rw [← hpo]
  have HPO := Lib.hid hpo
  clear hpo
  go_enter Tryz.func94, Tryz.ntmps94
  go_upto_region 1 with fail
  change Code.wp _ _ _ _ (w.alloc (pbox ⟨a, n, c, ⟨ps, rest⟩⟩))
  generalize w.alloc (pbox ⟨a, n, c, ⟨ps, rest⟩⟩) = w1 at HX HB ⊢
  generalize w.heap.size = b at HB ⊢
  have hr15 := (box2 HB.out).2.2
  go_upto_region 4 with (first
    | ((with_reducible refine atSlot 15 ?_); refine wpList_of_wp rfl (wp_load_mid (op := ⟨some 15, _, _, _, _, _⟩) 39 _ rfl b 0 rfl [.slice a n c, .bool rest] _ hr15 Tryz.underlying39 rfl (by kernel_rfl) ?_); clear hr15)
    | (go_at_call 74; (with_reducible refine (HKN2.out _ HX.out).mono ?_); rintro en w2 ⟨-, rfl, hx2⟩; have HX2 := Lib.hid (HX.out.trans' hx2); have HB2 := Lib.hid (hx2.heap' HB.out); clear hx2)
    | fail)
  go_cut [40] from 41 (fun s40 w' => s40 = .bool false ∧ w' = w2)
  case first =>
    cases rest with
    | true =>
      have hlen' : l.length = st + 1 := HLEN.out
      obtain ⟨q1, q2⟩ := eqI (x := (l.length : Int)) (y := (st : Int) + 1) (by omega)
      clear hlen'
      go_wp2
      go_meet
      case rel => exact ⟨rfl, rfl⟩
    | false =>
      have hlen' : l.length = st + 0 := HLEN.out
      obtain ⟨q1, q2⟩ := eqI (x := (l.length : Int)) (y := (st : Int)) (by omega)
      clear hlen'
      go_wp2
      go_meet
      case rel => exact ⟨rfl, rfl⟩
  obtain ⟨rfl, rfl⟩ := hcut
  obtain ⟨c0, -, -⟩ := box2 HB2.out
  have HRK := Lib.hid fun w' (h : Ext wc w') => (show Row w' a n c 1 (ps.map sv) from (HK.out.ext (HX2.out.trans' h)).row)
  have HSM := Lib.hid (show ∀ p ∈ ps, p.length ≤ S from HK.out.small)
  have HRW := Lib.hid fun w' (h : Ext wc w') => HROW.out.ext (HX2.out.trans' h)
  go_upto_region 8 with (first
    | ((with_reducible refine atSlot 45 ?_); refine wpList_mk rfl _ _ rfl Tryz.elStr 0 (n + 1) rfl rfl (by omega) (by omega) (Nat.zero_le _) (by omega) (by unfold maxLen; omega) ?_; intro g3 w4 ho4 hx4; have HO4 := Lib.hid (show w4.ownsRow wc.heap.size 9 1 (.slice (some ⟨g3, 0, none⟩) 0 (n + 1)) 0 [] from by rw [zeros_zero] at ho4; exact ho4); have HX4 := Lib.hid hx4; have c0' := hx4.cell' c0; clear ho4 hx4)
    | fail)
  clear c0
  try clear c0'
  go_loopw [1, 9, 49] (FiRel wc ps rest l) (fun _ _ i _ => n - (intOf i).toNat)
  case atStart => exact ⟨0, [], l, a1, c1, _, n + 1, rfl, rfl, rfl, Nat.zero_le _, rfl, rfl, HF.out, fun cs h => h, HRW.out _ (Below.refl _ _), HO4.out, HX4.out⟩
  case round =>
    obtain ⟨j, D, l', a', c', a9, c9, rfl, rfl, rfl, hj, hDj, hfl, hfit, hmem, hrow, hown, hx⟩ := hrel
    rename World => wd
    have HDJ := Lib.hid hDj
    have HFL := Lib.hid hfl
    have HFT := Lib.hid hfit
    have HMM := Lib.hid hmem
    have HRR := Lib.hid hrow
    have HOW := Lib.hid hown
    have HXD := Lib.hid hx
    have hj' : j ≤ n := by rw [← HN.out]; exact hj
    clear hDj hfl hfit hmem hrow hown hx hj
    by_cases hjl : j < n
    · obtain ⟨p, hp⟩ : ∃ p, ps[j]? = some p := ⟨_, List.getElem?_eq_getElem (by rw [HN.out]; exact hjl)⟩
      have HP := Lib.hid hp
      have HSD := Lib.hid (stars_drop hp)
      have HFD := Lib.hid (fill_drop hp rest l')
      have HST2 := Lib.hid (isStar_any p wd)
      have hrk := HRK.out wd HXD.out
      have hD12 : D.length ≤ 12 := by rw [HDJ.out]; omega
      have HZ := Lib.hid HXD.out.size
      clear hp
      obtain ⟨t, ht⟩ : ∃ t, t = star p := ⟨_, rfl⟩
      rw [← ht] at HST2 HSD HFD
      have HTT := Lib.hid ht
      clear ht
      cases t with
      | false =>
        have HAL := Lib.hid (Ext.alloc' wd (.cells #[sv p] 9))
        go_wp2_with (first
          | ((with_reducible refine atSlot 51 ?_); refine wpList_of_wp rfl (owp_ix (o := ⟨some 51, _, _, _, _, _⟩) _ _ rfl Tryz.elStr rfl hrk j rfl rfl hjl ?_); intro b1 o1 hc2; have hd := sv_at HP.out hc2; clear hc2 hrk)
          | (go_at_call 92; (with_reducible refine HST2.out.mono ?_); rintro en we ⟨rfl, rfl⟩)
          | ((with_reducible refine atSlot 71 ?_); refine wpList_of_wp rfl (owp_app (o := ⟨some 71, _, _, _, _, _⟩) _ _ rfl Tryz.elStr rfl (own_ext HOW.out HAL.out) rfl (Row.new wd #[sv p] 9 1 1 rfl (by decide)) (sv_one [p]) (by omega) (by unfold maxLen; omega) (Nat.le_trans HZ.out HAL.out.size) ?_); intro a6 c6 w6 ho6 hg6; have HO6 := Lib.hid ho6; have HX6 := Lib.hid (below_app (HXD.out.trans' HAL.out) (own_ext HOW.out HAL.out) hg6 (Nat.le_trans HZ.out HAL.out.size)); clear ho6 hg6)
          | fail)
        have ho := HO6.out
        rw [show D.map sv ++ (#[sv p] : Array Value).toList = (D ++ [p]).map sv by rw [List.map_append]; rfl] at ho
        refine ⟨⟨j + 1, D ++ [p], l', a', c', a6, c6, by go_num, rfl, by rw [List.length_append]; rfl, by rw [HN.out]; exact hjl, by rw [List.length_append, HDJ.out]; rfl, ?_, ?_, HMM.out, HRR.out, by rw [List.length_append]; exact ho, HX6.out⟩, ?_⟩
        · rw [HFL.out, HFD.out]; simp
        · have h := HFT.out; rw [HSD.out] at h; simpa using h
        · simp [intOf]; omega
      | true =>
        have hfit2 := HFT.out
        rw [HSD.out] at hfit2
        obtain ⟨x, l2, hx0, rfl, hfit3⟩ : ∃ x l2, x ≠ [] ∧ l' = [x] :: l2 ∧ Fit (stars (ps.drop (j + 1))) rest l2 := hfit2
        have HFT3 := Lib.hid hfit3
        have hxc := HCP.out [x] (HMM.out [x] (List.mem_cons_self ..)) x (by simp)
        have hxl : x.length ≤ 1073741824 := HCL.out [x] (HMM.out [x] (List.mem_cons_self ..))
        have hpl : p.length ≤ S := HSM.out p (List.mem_of_getElem? HP.out)
        have HCO := Lib.hid (show Calls Tryz.prog 123 #[.string (bs x)] wd (Ret (.bool true) wd) from by have h := Component_any x wd (by omega); rw [hxc] at h; exact h)
        have HX0 := Lib.hid (show (([x] :: l2).map joinS)[0]? = some x from rfl)
        have hsp : star p = true := HTT.out.symm
        have h1 : (1 : Int) ≤ (p.length : Int) := by have := star_pos hsp; omega
        have hsl : (suf p).length ≤ p.length := by unfold suf; rw [List.length_drop]; omega
        have q9 : ¬ (9223372036854775807 < x.length + (suf p).length) := by omega
        have hrr := HRR.out.ext HXD.out
        have HRD := Lib.hid fun w' (h : Ext wd w') => HRR.out.ext (HXD.out.trans' h)
        have hm0 : 0 < ([x] :: l2).length := by simp
        have E3 := Lib.hid (Ext.drew' wd)
        clear hfit3 hxc hsp
        go_upto_region 13 with (first
          | ((with_reducible refine atSlot 51 ?_); refine wpList_of_wp rfl (owp_ix (o := ⟨some 51, _, _, _, _, _⟩) _ _ rfl Tryz.elStr rfl hrk j rfl rfl hjl ?_); intro b1 o1 hc2; have hd := sv_at HP.out hc2; clear hc2 hrk)
          | (go_at_call 92; (with_reducible refine HST2.out.mono ?_); rintro en we ⟨rfl, rfl⟩)
          | ((with_reducible refine atSlot 56 ?_); refine wpList_of_wp rfl (owp_ix (o := ⟨some 56, _, _, _, _, _⟩) _ _ rfl Tryz.elStr rfl hrr 0 rfl rfl hm0 ?_); intro b2 o2 hc3; have hd2 := sv_at HX0.out hc3; clear hc3 hrr)
          | (go_at_call 123; (with_reducible refine HCO.out.mono ?_); rintro en we ⟨rfl, rfl⟩)
          | fail)
        refine wp_region_e [] (.qs [0, 1, 2, 3, 4, 5, 6, 7, 8, 9] .nil) (by kernel_rfl) (by kernel_rfl) ?_
        ((refine wpY_q rfl rfl _ (fun w' hx' => by go_simp; try rfl) ?_; go_simp))
        refine wpY_ix rfl rfl (.tmp 60) (.const (.int .i64 0)) rfl Tryz.elStr rfl HRD.out 0 rfl rfl hm0 ?_
        intro b3 o3 hc3
        have HC3 := Lib.hid hc3
        clear hc3
        go_simp
        refine wpY_q rfl rfl (.string (bs x)) (fun w' hx' => by have hb' := sv_at HX0.out (fun q hq => HC3.out q hq w' hx'); go_simp; try rfl) ?_
        go_simp
        iterate 2 ((refine wpY_q rfl rfl _ (fun w' hx' => by go_simp; try rfl) ?_; go_simp))
        refine wpY_q rfl rfl (.string (bs (x ++ suf p))) (fun w' hx' => by go_simp; try rfl) ?_
        go_simp
        ((refine wpY_q rfl rfl _ (fun w' hx' => by go_simp; try rfl) ?_; go_simp))
        refine wpY_sl_loA rfl rfl (.tmp 66) (.const (.int .i64 1)) rfl Tryz.elStr rfl 1 rfl rfl hm0 ?_
        have HR5 := Lib.hid (HRR.out.tail 1 hm0)
        generalize subA a' 1 c' 1 = a5 at HR5 ⊢
        go_simp
        iterate 2 ((refine wpY_q rfl rfl _ (fun w' hx' => by go_simp; try rfl) ?_; go_simp))
        refine wpY_nil ?_
        have HXE := Lib.hid (HXD.out.trans' E3.out)
        have HOE := Lib.hid (own_ext HOW.out E3.out)
        generalize wd.drew = wE at HXE HOE ⊢
        have HZE := Lib.hid HXE.out.size
        have HAL := Lib.hid (Ext.alloc' wE (.cells #[sv (x ++ suf p)] 9))
        go_wp2_with (first
          | ((with_reducible refine atSlot 71 ?_); refine wpList_of_wp rfl (owp_app (o := ⟨some 71, _, _, _, _, _⟩) _ _ rfl Tryz.elStr rfl (own_ext HOE.out HAL.out) rfl (Row.new wE #[sv (x ++ suf p)] 9 1 1 rfl (by decide)) (sv_one [x ++ suf p]) (by omega) (by unfold maxLen; omega) (Nat.le_trans HZE.out HAL.out.size) ?_); intro a6 c6 w6 ho6 hg6; have HO6 := Lib.hid ho6; have HX6 := Lib.hid (below_app (HXE.out.trans' HAL.out) (own_ext HOE.out HAL.out) hg6 (Nat.le_trans HZE.out HAL.out.size)); clear ho6 hg6)
          | fail)
        have ho := HO6.out
        rw [show D.map sv ++ (#[sv (x ++ suf p)] : Array Value).toList = (D ++ [x ++ suf p]).map sv by rw [List.map_append]; rfl] at ho
        refine ⟨⟨j + 1, D ++ [x ++ suf p], l2, a5, c' - 1, a6, c6, by go_num, rfl, by rw [List.length_append]; rfl, by rw [HN.out]; exact hjl, by rw [List.length_append, HDJ.out]; rfl, ?_, HFT3.out, fun cs h => HMM.out cs (List.mem_cons_of_mem _ h), ?_, by rw [List.length_append]; exact ho, HX6.out⟩, ?_⟩
        · rw [HFL.out, HFD.out]; simp
        · have h := HR5.out; simpa using h
        · simp [intOf]; omega
    · have HFIN := Lib.hid (show T = D ++ fillL [] rest l' by
        rw [HT.out, HFL.out, List.drop_of_length_le (by rw [HN.out]; omega)])
      have HFF := Lib.hid (show Fit 0 rest l' by
        have h := HFT.out
        rw [List.drop_of_length_le (by rw [HN.out]; omega)] at h
        exact h)
      have hD12 : D.length ≤ 12 := by rw [HDJ.out]; omega
      have hDne : D ≠ [] := by
        intro e
        have h1 := HDJ.out
        rw [e] at h1
        have h2 : ps.length = 0 := by rw [HN.out]; simp at h1; omega
        exact HPOS.out (List.eq_nil_of_length_eq_zero h2)
      have HDN := Lib.hid hDne
      have HZ := Lib.hid HXD.out.size
      clear hDne
      cases rest with
      | false =>
        have hl0 : l' = [] := HFF.out
        have HTD := Lib.hid (show T = D by rw [HFIN.out]; show D ++ [] = D; rw [List.append_nil])
        have HJ := Lib.hid (Join_any a9 D.length c9 D wd (Row.of_own HOW.out) (by omega) (by rw [← HTD.out]; omega))
        have q9 : ¬ (9223372036854775807 < 2 + (joinS D).length) := by rw [← HTD.out]; omega
        clear hl0
        go_wp2_with (first
          | (go_at_call 78; (with_reducible refine HJ.out.mono ?_); rintro en w5 ⟨rfl, hx5⟩)
          | fail)
        rw [HPO.out]
        exact ⟨by rw [HTD.out]; rfl, HX2.out.trans' (HXD.out.trans' hx5)⟩
      | true =>
        obtain ⟨cs, hcs0, hl1⟩ : ∃ cs, cs ≠ [] ∧ l' = [cs] := HFF.out
        subst hl1
        have hmem := HMM.out cs (List.mem_cons_self ..)
        have hccl := HCL.out cs hmem
        have hsp : splitS (joinS cs) = cs := splitS_join cs hcs0 (fun x hx => comp_noslash (HCP.out cs hmem x hx))
        have HSP := Lib.hid (show Calls Tryz.prog 124 #[.string (bs (joinS cs)), .string ⟨#[47]⟩] wd (NewRow (cs.map sv) 9 1 cs.length wd) from by have h := Split_any (joinS cs) wd (by omega); rw [hsp] at h; exact h)
        have hcsl : ∀ x ∈ cs, x.length ≤ 1073741824 := fun x hx => by
          have h := split_small (joinS cs) x (by rw [hsp]; exact hx)
          omega
        have hcn : cs.length ≤ 1073741825 := by
          have h := split_count _ (joinS cs) rfl
          rw [hsp] at h
          have h2 : (joinS cs).count 47 ≤ (joinS cs).length := List.count_le_length
          omega
        have HCMP := Lib.hid (fun x (hx : x ∈ cs) w' => (show Calls Tryz.prog 123 #[.string (bs x)] w' (Ret (.bool true) w') from by have h := Component_any x w' (by have := hcsl x hx; omega); rw [HCP.out cs hmem x hx] at h; exact h))
        have HTD := Lib.hid (show T = D ++ cs by rw [HFIN.out]; show D ++ [cs].flatten = D ++ cs; simp)
        have HTJ := Lib.hid (show joinS T = joinS (D ++ [joinS cs]) by rw [HTD.out]; exact (joinS_last D cs HDN.out hcs0).symm)
        have HX0 := Lib.hid (show (([cs] : List (List Str)).map joinS)[0]? = some (joinS cs) from rfl)
        have hrr := HRR.out.ext HXD.out
        have hm0 : 0 < ([cs] : List (List Str)).length := by simp
        obtain ⟨J, hJ⟩ : ∃ J, J = joinS cs := ⟨_, rfl⟩
        rw [← hJ] at HSP HTJ HX0 hccl
        have HJC := Lib.hid hJ
        clear hJ hcsl hmem hsp hcs0
        go_upto_region 18 with (first
          | ((with_reducible refine atSlot 75 ?_); refine wpList_of_wp rfl (owp_ix (o := ⟨some 75, _, _, _, _, _⟩) _ _ rfl Tryz.elStr rfl hrr 0 rfl rfl hm0 ?_); intro b2 o2 hc3; have hd2 := sv_at HX0.out hc3; clear hc3 hrr)
          | (go_at_call 124; (with_reducible refine HSP.out.mono ?_); rintro en w5 ⟨a5, c5, rfl, ho5, hx5⟩; have HO5 := Lib.hid ho5; have HX5 := Lib.hid hx5; clear ho5 hx5 hd2)
          | fail)
        go_loop [79] (FcRel cs) (fun i => cs.length - (intOf i).toNat)
        case atStart => exact ⟨0, rfl, Nat.zero_le _⟩
        case round =>
          obtain ⟨i, rfl, hi⟩ := hrel
          by_cases hil : i < cs.length
          · obtain ⟨x, hx⟩ : ∃ x, cs[i]? = some x := ⟨_, List.getElem?_eq_getElem hil⟩
            have HXI := Lib.hid hx
            have HCO := Lib.hid (HCMP.out x (List.mem_of_getElem? hx) w5)
            have hrow := Row.of_own HO5.out
            clear hx
            go_wp2_with (first
              | ((with_reducible refine atSlot 81 ?_); refine wpList_of_wp rfl (owp_ix (o := ⟨some 81, _, _, _, _, _⟩) _ _ rfl Tryz.elStr rfl hrow i rfl rfl hil ?_); intro b3 o3 hc4; have hd3 := sv_at HXI.out hc4; clear hc4 hrow)
              | (go_at_call 123; (with_reducible refine HCO.out.mono ?_); rintro en we ⟨rfl, rfl⟩)
              | fail)
            go_round
            case rel => exact ⟨i + 1, by go_num, hil⟩
            case measure => simp [intOf]; omega
          · have hrr := HRR.out.ext (HXD.out.trans' HX5.out)
            have HAL := Lib.hid (Ext.alloc' w5 (.cells #[sv J] 9))
            have HX15 := Lib.hid (HXD.out.trans' HX5.out)
            have HZ5 := Lib.hid HX15.out.size
            have HOW5 := Lib.hid (own_ext HOW.out HX5.out)
            have hTl : (joinS (D ++ [J])).length ≤ 1099511627000 := by rw [← HTJ.out]; exact hb'
            have HJN := Lib.hid fun (a7 : Option Addr) (c7 : Nat) (w7 : World) (h : Row w7 a7 (D.length + 1) c7 1 ((D ++ [J]).map sv)) => Join_any a7 (D.length + 1) c7 (D ++ [J]) w7 h (by omega) (by omega)
            have q9 : ¬ (9223372036854775807 < 2 + (joinS (D ++ [J])).length) := by omega
            go_wp2_with (first
              | ((with_reducible refine atSlot 89 ?_); refine wpList_of_wp rfl (owp_ix (o := ⟨some 89, _, _, _, _, _⟩) _ _ rfl Tryz.elStr rfl hrr 0 rfl rfl hm0 ?_); intro b2 o2 hc3; have hd2 := sv_at HX0.out hc3; clear hc3 hrr)
              | ((with_reducible refine atSlot 92 ?_); refine wpList_of_wp rfl (owp_app (o := ⟨some 92, _, _, _, _, _⟩) _ _ rfl Tryz.elStr rfl (own_ext HOW5.out HAL.out) rfl (Row.new w5 #[sv J] 9 1 1 rfl (by decide)) (sv_one [J]) (by omega) (by unfold maxLen; omega) (Nat.le_trans HZ5.out HAL.out.size) ?_); intro a6 c6 w6 ho6 hg6; have HO6 := Lib.hid (show w6.ownsRow wc.heap.size 9 1 (.slice a6 (D.length + 1) c6) (D.length + 1) ((D ++ [J]).map sv) from by rw [List.map_append]; exact ho6); have HX6 := Lib.hid (below_app (HX15.out.trans' HAL.out) (own_ext HOW5.out HAL.out) hg6 (Nat.le_trans HZ5.out HAL.out.size)); clear ho6 hg6 hd2)
              | (go_at_call 78; (with_reducible refine (HJN.out _ _ _ (Row.of_own HO6.out)).mono ?_); rintro en w7 ⟨rfl, hx7⟩)
              | fail)
            rw [HPO.out]
            refine ⟨?_, HX2.out.trans' (Ext.trans' HX6.out hx7)⟩
            show _ = Ending.returned (.tuple #[.string (bs (47 :: 47 :: joinS T)), .int .i64 0])
            rw [HTJ.out]
            rfl
end Go.Proofs.YtejljmikammcdaaGreatDoor
/-
  Layer pattern: Bind, of a pattern and one that lies in it.
-/
namespace Go.Proofs.YtejljmikammcdaaGreatDoor
open Go.RowKit

/-- x[l:h:m]. -/
theorem run_sl3 {P : Program} {w : World} {t e s b : Nat} {z : Value} (E : Elem P t e s b z) (a : Option Addr) (n c : Nat) (kl kh km : IntKind) (l h m : Nat) (hlh : l ≤ h) (hhm : h ≤ m) (hmc : m ≤ c) :
    (Instr.slice t (.slice a n c) (some (.int kl l)) (some (.int kh h)) (some (.int km m))).run P w = .ok (.slice (subA a l m s) (h - l) (m - l)) w := by
  rw [run_slice_lhm w t a n c E.und' kl kh km l h m (by omega) (by omega) (by omega) (by omega), E.size]
  rfl
theorem owp_sl3 {P : Program} {w : World} {o : Oper} {f : Act} {K : Act → World → Prop} {Q : Exit → Act → World → Prop} (xO lO hO mO : Operand) {t : TypeId}
    (ho : o.op = .slice t xO (some lO) (some hO) (some mO)) {e s b : Nat} {z : Value} (E : Elem P t e s b z) {a : Option Addr} {n c : Nat} (hx : f.eval xO = .slice a n c)
    (l h m : Nat) {kl kh km : IntKind} {L H M : Int} (hl : f.eval lO = .int kl L) (hh : f.eval hO = .int kh H) (hm : f.eval mO = .int km M) (hL : L = (l : Int)) (hH : H = (h : Int)) (hM : M = (m : Int)) (hlh : l ≤ h) (hhm : h ≤ m) (hmc : m ≤ c)
    (hk : K (f.put o.dst (.slice (subA a l m s) (h - l) (m - l))) w) : o.wp P f w K Q := by
  subst hL hH hM
  unfold Oper.wp
  simp [execOp, ho, hx, hl, hh, hm, Instr.sliceAt, run_underlying E.und, run_sl3 E a n c kl kh km l h m hlh hhm hmc, Result.andThen]
  exact hk
theorem wpY_sl3 {P : Program} {ops : Array Oper} {B : Nat} {w0 : World} {fr : List Nat} {Q : Act → World → Prop} {k : Nat} {L' : XP} {f : Act} {w : World} {o : Oper} (ho : ops[k]? = some o) (hw : Region.wanted o (yielded ops f.tmps) = true) (xO lO hO mO : Operand) {t : TypeId}
    (hop : o.op = .slice t xO (some lO) (some hO) (some mO)) {e s b : Nat} {z : Value} (E : Elem P t e s b z) {a : Option Addr} {n c : Nat} (hx : f.eval xO = .slice a n c)
    (l h m : Nat) {kl kh km : IntKind} {L H M : Int} (hl : f.eval lO = .int kl L) (hh : f.eval hO = .int kh H) (hm : f.eval mO = .int km M) (hL : L = (l : Int)) (hH : H = (h : Int)) (hM : M = (m : Int)) (hlh : l ≤ h) (hhm : h ≤ m) (hmc : m ≤ c)
    (hk : wpY P ops B w0 fr Q L' (f.put o.dst (.slice (subA a l m s) (h - l) (m - l))) w) : wpY P ops B w0 fr Q (.q k L') f w := by
  subst hL hH hM
  refine wpY_q ho hw (.slice (subA a l m s) (h - l) (m - l)) (fun w' _ => ?_) hk
  simp [execOp, hop, hx, hl, hh, hm, Instr.sliceAt, run_underlying E.und, run_sl3 E a n c kl kh km l h m hlh hhm hmc, Result.andThen]
theorem owp_st1 {P : Program} {w : World} {o : Oper} {a : Act} {K : Act → World → Prop} {Q : Exit → Act → World → Prop} (ty : TypeId) (x y : Operand) (ho : o.op = .store ty x y)
    (b j : Nat) (v : Value) (hx : a.eval x = .pointer (some ⟨b, j, none⟩)) (hy : a.eval y = v) (hv : v.cells = #[v]) (ht : w.there b j 1) (hi : (P.info? ty).map (·.size) = some 1) (h1 : v.oneCell' = true)
    (h : K (a.put o.dst undef) (w.setCell ⟨b, j, none⟩ v)) : o.wp P a w K Q := by
  have hm := run_storeVar_mid (P := P) w b j ty #[v] ht hi (by simpa using h1)
  have he : storeVar ty ⟨b, j, none⟩ v = storeVar ty ⟨b, j, none⟩ (.agg #[v]) := by
    unfold storeVar; rw [hv]; rfl
  rw [← he] at hm
  unfold Oper.wp execOp
  simp only [ho, hx, hy, Instr.storeAt, Instr.sureAddr, Sem.run_bind, Sem.run_pure, Result.andThen_ok, hm]
  exact h
def vw (g i : Nat) : List Value := [.slice (some ⟨g, i, none⟩) 1 1, .bool false]
theorem cutS_bind {p q : Str} (hs : star p = true) (hw : within1 q p = true) : cutS q (suf p) = bindOf q p := by
  obtain ⟨hb, hq⟩ := within1_star hw hs
  unfold cutS
  rw [if_pos (List.isSuffixOf_iff_suffix.2 ⟨bindOf q p, hq.symm⟩)]
  rfl
theorem inside_at {ps qs : List Str} {pr qr : Bool} (h : insideL ps pr qs qr = true) {i : Nat} {p q : Str} (hp : ps[i]? = some p) (hq : qs[i]? = some q) : within1 p q = true :=
  (inside_all ps pr qs qr (inside_len _ _ _ _ h)).1 h i p q hp hq
theorem bindOf_le (q p : Str) : (bindOf q p).length ≤ q.length := by unfold bindOf; rw [List.length_take]; omega
theorem vw_one (l : List Nat) (g : Nat) : ∀ u ∈ l.flatMap (vw g), u.oneCell' = true := flat_one (fun x v hv => by
  simp [vw] at hv
  rcases hv with rfl | rfl <;> rfl) l
theorem own_app_other {w w' : World} {B e s n c B' t s' n' c' : Nat} {a a' : Option Addr} {xs ys : List Value} (h : w.ownsRow B e s (.slice a n c) n xs) (h' : w.ownsRow B' t s' (.slice a' n' c') n' ys) (ht : e ≠ t) (hg : w.grownBy w' (blockOf a')) : w'.ownsRow B e s (.slice a n c) n xs := by
  cases hk : blockOf a' with
  | none => rw [hk] at hg; exact own_ext h (Ext.of_grown hg)
  | some b =>
    rw [hk] at hg
    obtain ⟨cur, hcur⟩ := own_heap h' hk
    exact own_other h hg (fun e => own_apart h hcur (Ne.symm ht) e.symm)
/-- An append to an own list leaves a box of another type alone. -/
theorem box_app {w w' : World} {B t s n c k e : Nat} {a : Option Addr} {xs : List Value} {cs : Array Value} {fr : Nat × Nat} (hk : w.heap[k]? = some (.cells cs e fr)) (h : w.ownsRow B t s (.slice a n c) n xs) (ht : e ≠ t) (hg : w.grownBy w' (blockOf a)) : w'.heap[k]? = some (.cells cs e fr) := by
  cases hb : blockOf a with
  | none => rw [hb] at hg; exact (Ext.of_grown hg).heap' hk
  | some b =>
    rw [hb] at hg
    exact heap_keep hk hg (fun e' => own_apart h hk ht (by rw [hb, e']))
theorem Row.cap {w : World} {a : Option Addr} {n c s : Nat} {xs : List Value} (h : Row w a n c s xs) (hn : 0 < n) : Row w a n n s xs :=
  ⟨h.len, Nat.le_refl _, Nat.le_trans h.le h.max, fun e => by have := h.nil e; have := h.le; omega, fun p hp => by
    rcases h.at_ p hp with h0 | h0
    · have := h.le; omega
    · exact .inr h0, h.cell⟩
theorem wpZ_sl3 {P : Program} {ops : Array Oper} {R : World → Prop} {fr : List Nat} {Q : Act → World → Prop} {k : Nat} {L' : XP} {f : Act} {w : World} {o : Oper} (ho : ops[k]? = some o) (hw : Region.wanted o (yielded ops f.tmps) = true) (xO lO hO mO : Operand) {t : TypeId}
    (hop : o.op = .slice t xO (some lO) (some hO) (some mO)) {e s b : Nat} {z : Value} (E : Elem P t e s b z) {a : Option Addr} {n c : Nat} (hx : f.eval xO = .slice a n c)
    (l h m : Nat) {kl kh km : IntKind} {L H M : Int} (hl : f.eval lO = .int kl L) (hh : f.eval hO = .int kh H) (hm : f.eval mO = .int km M) (hL : L = (l : Int)) (hH : H = (h : Int)) (hM : M = (m : Int)) (hlh : l ≤ h) (hhm : h ≤ m) (hmc : m ≤ c)
    (hk : wpZ P ops R fr Q L' (f.put o.dst (.slice (subA a l m s) (h - l) (m - l))) w) : wpZ P ops R fr Q (.q k L') f w := by
  subst hL hH hM
  refine wpZ_q ho hw (.slice (subA a l m s) (h - l) (m - l)) (fun w' _ => ?_) hk
  simp [execOp, hop, hx, hl, hh, hm, Instr.sliceAt, run_underlying E.und, run_sl3 E a n c kl kh km l h m hlh hhm hmc, Result.andThen]
theorem subA_one (g i : Nat) : subA (some ⟨g, 0, none⟩) i (i + 1) 1 = some ⟨g, i, none⟩ := by
  unfold subA
  rw [if_neg (by omega)]
  simp [Addr.add]
  intro h
  exact h.symm

theorem binds_take : ∀ (ps qs : List Str) (j : Nat) (p q : Str), ps[j]? = some p → qs[j]? = some q → binds (ps.take (j + 1)) qs = binds (ps.take j) qs ++ if star p then [bindOf q p] else []
  | [], qs, j, p, q, h1, h2 => by cases h1
  | a :: ps, [], j, p, q, h1, h2 => by cases h2
  | a :: ps, b :: qs, 0, p, q, h1, h2 => by
    cases h1; cases h2
    rw [List.take_succ_cons, List.take_zero]
    unfold binds
    cases star a <;> simp [binds]
  | a :: ps, b :: qs, j + 1, p, q, h1, h2 => by
    rw [List.take_succ_cons, List.take_succ_cons]
    have ih := binds_take ps qs j p q (by simpa using h1) (by simpa using h2)
    conv => lhs; unfold binds
    conv => rhs; lhs; unfold binds
    rw [ih]
    cases star a <;> simp
/-- The places of the parts with "*". -/
def idxs (ps : List Str) (j : Nat) : List Nat := (List.range j).filter fun i => star (ps.getD i [])
theorem idxs_step {ps : List Str} {j : Nat} {p : Str} (h : ps[j]? = some p) : idxs ps (j + 1) = idxs ps j ++ if star p then [j] else [] := by
  unfold idxs
  rw [List.range_succ, List.filter_append]
  congr 1
  have : ps.getD j [] = p := by rw [List.getD_eq_getElem?_getD, h]; rfl
  rw [List.filter_cons, this]
  cases star p <;> rfl
theorem idxs_lt {ps : List Str} {j i : Nat} (h : i ∈ idxs ps j) : i < j := List.mem_range.1 (List.mem_filter.1 h).1

/-- What rule.carry binds: the bindings as patterns. -/
def bindL (P Q : Pat) : List Pat := (binds P.parts Q.parts).map (fun b => ⟨[b], false⟩) ++ if P.rest then [⟨Q.parts.drop P.parts.length, Q.rest⟩] else []
def BindO (P Q : Pat) (S : Nat) (w : World) (en : Ending) (w' : World) : Prop :=
  ∃ (a : Option Addr) (c : Nat) (Ls : List Pt), en = .returned (.tuple #[.slice a Ls.length c, .bool true]) ∧ Ls.map Pt.P = bindL P Q ∧ Row w' a Ls.length c 2 (Ls.flatMap Pt.cells) ∧ (∀ k ∈ Ls, PtI w' S k) ∧ Ext w w'
theorem Tryz.elBnd : Elem Tryz.prog 152 195 2 32 (.agg #[.slice none 0 0, .bool false]) := ⟨Tryz.underlying152, by kernel_rfl, rfl, by decide⟩

/-- Between two rounds. -/
def BiRel (w : World) (S : Nat) (k y : Pt) (b g ct : Nat) (v7 i : Value) (wr : World) : Prop :=
  ∃ (j : Nat) (L : List Str) (ab : Option Addr) (cb : Nat), i = .int .i64 j ∧ j ≤ k.n ∧ L.length = y.n ∧ (∀ i, j ≤ i → L[i]? = y.P.parts[i]?) ∧ (idxs k.P.parts j).map (fun i => L.getD i []) = binds (k.P.parts.take j) y.P.parts ∧
    v7 = .slice ab (idxs k.P.parts j).length cb ∧ wr.ownsRow w.heap.size 9 1 (.slice (some ⟨g, 0, none⟩) y.n ct) y.n (L.map sv) ∧
    wr.ownsRow w.heap.size 195 2 (.slice ab (idxs k.P.parts j).length cb) (idxs k.P.parts j).length ((idxs k.P.parts j).flatMap (vw g)) ∧
    wr.heap[b]? = some (pbox k) ∧ wr.heap[b + 1]? = some (pbox y) ∧ (∀ p ∈ L, p.length ≤ S) ∧ Ext w wr

set_option maxRecDepth 100000 in
set_option maxHeartbeats 8000000 in
theorem Bind_any (k y : Pt) (S : Nat) (w : World) (hk : PtI w S k) (hy : PtI w S y) (hS : S ≤ 1073741824) (hok : OkP k.P) (hoy : OkP y.P) (hin : insideL y.P.parts y.P.rest k.P.parts k.P.rest = true) :
    Calls Tryz.prog 87 #[k.v, y.v] w (BindO k.P y.P S w) := by
  have HW := Lib.hid fun w' (h : Ext w w') => (Within_any y k S w' (hy.ext h) (hk.ext h) (by omega)).mono fun en w'' ⟨h1, h2⟩ => (show NewNone (.bool true) w' en w'' from ⟨by rw [h1, okP_of.2 hok, okP_of.2 hoy, hin]; rfl, h2⟩)
  have hny : 0 < y.n ∧ y.n ≤ 12 := by
    rw [← hy.len]
    obtain ⟨a, ps, ha, -⟩ := hoy.head
    exact ⟨by rw [ha]; simp, hoy.le⟩
  have hnk : k.n ≤ y.n := by
    rw [← hk.len, ← hy.len]
    have := inside_len _ _ _ _ hin
    cases hr : k.P.rest <;> rw [hr] at this <;> simp at this <;> omega
  have HK := Lib.hid hk
  have HY := Lib.hid hy
  have HIN := Lib.hid hin
  obtain ⟨hny0, hny12⟩ := hny
  have HCL := Lib.hid fun w' (h : Ext w w') => CloneS_any y.a y.n y.c y.strs w' (hy.ext h).row (sv_one _) (by omega)
  obtain ⟨post, hpo⟩ : ∃ p : Ending → World → Prop, p = BindO k.P y.P S w := ⟨_, rfl⟩
  rw [← hpo]
  have HPO := Lib.hid hpo
  clear hpo hk hy hok hoy hin
  go_enter Tryz.func87, Tryz.ntmps87
  go_upto_region 1 with fail
  obtain ⟨hx2, hh1, hh2⟩ := two_boxes w #[.slice k.a k.n k.c, .bool k.P.rest] #[.slice y.a y.n y.c, .bool y.P.rest] 39 39
  generalize (w.alloc (.cells #[.slice k.a k.n k.c, .bool k.P.rest] 39)).alloc (.cells #[.slice y.a y.n y.c, .bool y.P.rest] 39) = w2 at hx2 hh1 hh2 ⊢
  obtain ⟨b, hb⟩ : ∃ b, b = w.heap.size := ⟨_, rfl⟩
  rw [← hb] at hh1 hh2 ⊢
  have HBB := Lib.hid hb
  have HX := Lib.hid hx2
  have HH1 := Lib.hid hh1
  have HH2 := Lib.hid hh2
  have hr12 := (box2 hh1).2.2
  have hr11 := (box2 hh2).2.2
  clear hx2 hh1 hh2 hb
  go_upto_region 5 with (first
    | ((with_reducible refine atSlot 11 ?_); refine wpList_of_wp rfl (wp_load_mid (op := ⟨some 11, _, _, _, _, _⟩) 39 _ rfl (b + 1) 0 rfl [.slice y.a y.n y.c, .bool y.P.rest] _ hr11 Tryz.underlying39 rfl (by kernel_rfl) ?_); clear hr11)
    | ((with_reducible refine atSlot 12 ?_); refine wpList_of_wp rfl (wp_load_mid (op := ⟨some 12, _, _, _, _, _⟩) 39 _ rfl b 0 rfl [.slice k.a k.n k.c, .bool k.P.rest] _ hr12 Tryz.underlying39 rfl (by kernel_rfl) ?_); clear hr12)
    | (go_at_call 116; (with_reducible refine (HW.out _ HX.out).mono ?_); rintro en w3 ⟨rfl, hx3⟩; have HE1 := Lib.hid (hx3.heap' HH1.out); have HE2 := Lib.hid (hx3.heap' HH2.out); have HX3 := Lib.hid (HX.out.trans' hx3); obtain ⟨c0, -, -⟩ := box2 HE2.out; clear hx3)
    | (go_at_call 54; (with_reducible refine (HCL.out _ HX3.out).mono ?_); rintro en w4 ⟨a3, ct, rfl, ho3, hx4⟩; have HF1 := Lib.hid (hx4.heap' HE1.out); have HF2 := Lib.hid (hx4.heap' HE2.out); have HX4 := Lib.hid (HX3.out.trans' hx4); have HO3 := Lib.hid ho3; have HSZ3 := Lib.hid HX3.out.size; clear hx4 ho3 c0)
    | fail)
  obtain ⟨g, rfl⟩ : ∃ g, a3 = some ⟨g, 0, none⟩ := by
    obtain ⟨g, cur, h, -⟩ := own_some HO3.out hny0
    exact ⟨g, h⟩
  have HO4 := Lib.hid (own_base HO3.out HSZ3.out)
  obtain ⟨d0, -, -⟩ := box2 HF1.out
  have hb3 : b + 1 < w3.heap.size := (Array.getElem?_eq_some_iff.1 HE2.out).1
  have hg3 : w3.heap.size ≤ g := (own_block HO3.out g rfl).1
  have hbg : b + 1 < g := by omega
  clear HO3 hb3 hg3 HE1 HE2 HX3 HX HSZ3 HH1 HH2
  go_upto_region 6 with fail
  clear d0
  go_loopw [7, 21] (BiRel w S k y b g ct) (fun _ i _ => k.n - (intOf i).toNat)
  case atStart => exact ⟨0, y.P.parts, none, 0, rfl, Nat.zero_le _, HY.out.len, (fun _ _ => rfl), rfl, rfl, HO4.out, own_nil _ _ _ _, HF1.out, HF2.out, HY.out.small, HX4.out⟩
  case round =>
    obtain ⟨j, L, ab, cb, rfl, hj, hlL, hm2, hmap, rfl, hown, hownb, hq1, hq2, hsm, hxd⟩ := hrel
    rename World => wd
    have HL := Lib.hid hlL
    have HM2 := Lib.hid hm2
    have HMP := Lib.hid hmap
    have HOW := Lib.hid hown
    have HOB := Lib.hid hownb
    have HQ1 := Lib.hid hq1
    have HQ2 := Lib.hid hq2
    have HSM := Lib.hid hsm
    have HXD := Lib.hid hxd
    have hij : (idxs k.P.parts j).length ≤ j := by unfold idxs; exact Nat.le_trans (List.length_filter_le ..) (by simp)
    clear hlL hm2 hmap hown hownb hq1 hq2 hsm hxd
    by_cases hjl : j < k.n
    · obtain ⟨p, hp⟩ : ∃ p, k.P.parts[j]? = some p := ⟨_, List.getElem?_eq_getElem (by rw [HK.out.len]; exact hjl)⟩
      obtain ⟨q, hq⟩ : ∃ q, y.P.parts[j]? = some q := ⟨_, List.getElem?_eq_getElem (by rw [HY.out.len]; omega)⟩
      have HP := Lib.hid hp
      have HQ := Lib.hid hq
      have HLJ := Lib.hid (show L[j]? = some q by rw [HM2.out j (Nat.le_refl _), hq])
      have HST := Lib.hid (isStar_any p wd)
      have HIX := Lib.hid (idxs_step hp)
      have HBT := Lib.hid (binds_take _ _ j p q hp hq)
      have hrk := (HK.out.ext HXD.out).row
      clear hp hq
      obtain ⟨t, ht⟩ : ∃ t, t = star p := ⟨_, rfl⟩
      rw [← ht] at HST HIX HBT
      have HTT := Lib.hid ht
      clear ht
      cases t with
      | false =>
        go_wp2_with (first
          | ((with_reducible refine atSlot 24 ?_); refine wpList_of_wp rfl (owp_ix (o := ⟨some 24, _, _, _, _, _⟩) _ _ rfl Tryz.elStr rfl hrk j rfl rfl hjl ?_); intro b1 o1 hc2; have hd := sv_at HP.out hc2; clear hc2 hrk)
          | (go_at_call 92; (with_reducible refine HST.out.mono ?_); rintro en we ⟨rfl, rfl⟩)
          | fail)
        have e1 : idxs k.P.parts (j + 1) = idxs k.P.parts j := by have h := HIX.out; simpa using h
        refine ⟨⟨j + 1, L, ab, cb, by go_num, hjl, HL.out, fun i hi => HM2.out i (by omega), ?_, by rw [e1], HOW.out, by rw [e1]; exact HOB.out, HQ1.out, HQ2.out, HSM.out, HXD.out⟩, ?_⟩
        · rw [e1, HBT.out, HMP.out]; simp
        · simp [intOf]; omega
      | true =>
        have hw1 := inside_at HIN.out HQ.out HP.out
        have HCS := Lib.hid (cutS_bind HTT.out.symm hw1)
        have h1 : (1 : Int) ≤ (p.length : Int) := by have := star_pos HTT.out.symm; omega
        have hql : q.length ≤ S := HY.out.small q (List.mem_of_getElem? HQ.out)
        have HTS := Lib.hid fun w' => TrimSuffix_any q (suf p) w' (by omega)
        rw [HCS.out] at HTS
        have HBL := Lib.hid (bindOf_le q p)
        obtain ⟨v, hv⟩ : ∃ v, v = bindOf q p := ⟨_, rfl⟩
        rw [← hv] at HTS HBL HBT
        have HRX := Lib.hid fun w' (h : Ext wd w') => Row.of_own (own_ext HOW.out h)
        have hjy : j < y.n := by omega
        have E1 := Ext.drew' wd
        have HOE := Lib.hid (own_ext HOW.out E1)
        have HOBE := Lib.hid (own_ext HOB.out E1)
        have HXE := Lib.hid (HXD.out.trans' E1)
        have HR1 := Lib.hid (E1.heap' HQ1.out)
        have HR2 := Lib.hid (E1.heap' HQ2.out)
        clear hw1 hv E1
        go_upto_region 9 with (first
          | ((with_reducible refine atSlot 24 ?_); refine wpList_of_wp rfl (owp_ix (o := ⟨some 24, _, _, _, _, _⟩) _ _ rfl Tryz.elStr rfl hrk j rfl rfl hjl ?_); intro b1 o1 hc2; have hd := sv_at HP.out hc2; clear hc2 hrk)
          | (go_at_call 92; (with_reducible refine HST.out.mono ?_); rintro en we ⟨rfl, rfl⟩)
          | fail)
        refine wp_region_e [10] (.qs [0, 1, 2, 3, 4, 5, 6, 7, 8, 9] (.l 10 .nil)) (by kernel_rfl) (by kernel_rfl) ?_
        iterate 4 ((refine wpY_q rfl rfl _ (fun w' hx' => by go_simp; try rfl) ?_; go_simp))
        refine wpY_ix rfl rfl (.tmp 30) (.tmp 31) rfl Tryz.elStr rfl HRX.out j rfl rfl hjy ?_
        intro b3 o3 hc3
        have HC3 := Lib.hid hc3
        clear hc3
        go_simp
        refine wpY_q rfl rfl (.string (bs q)) (fun w' hx' => by have hb' := sv_at HLJ.out (fun q hq => HC3.out q hq w' hx'); go_simp; try rfl) ?_
        go_simp
        iterate 2 ((refine wpY_q rfl rfl _ (fun w' hx' => by go_simp; try rfl) ?_; go_simp))
        ((refine wpY_call rfl rfl _ _ _ (fun w' => by (try go_simp); first | done | rfl | exact ⟨rfl, rfl⟩ | exact ⟨rfl, rfl, rfl⟩) (fun w' _ => HTS.out w') ?_; go_simp))
        refine wpY_ixp rfl rfl (.tmp 28) (.tmp 29) rfl Tryz.elStr rfl j rfl rfl hjy ?_
        rw [Nat.mul_one]
        refine wpY_l rfl rfl (owp_st1 _ _ _ rfl g j (sv v) rfl rfl rfl (own_there HOE.out (by omega)) (by kernel_rfl) rfl ?_)
        have ho := own_setCell (v := sv v) HOE.out (j := j) (by omega)
        have hgr := grown_setCell' wd.drew g j (sv v)
        obtain ⟨cur, hcur⟩ := own_heap HOE.out (b := g) rfl
        rw [show (L.map sv).set j (sv v) = (L.set j v).map sv by rw [List.map_set]] at ho
        have HO6 := Lib.hid ho
        have HOB6 := Lib.hid (own_other HOBE.out hgr (fun e => own_apart HOBE.out hcur (by decide) e.symm))
        have HS1 := Lib.hid (heap_keep HR1.out hgr (by omega))
        have HS2 := Lib.hid (heap_keep HR2.out hgr (by omega))
        have HX6 := Lib.hid (HXE.out.rd hgr (own_block HOE.out g rfl).1)
        refine ⟨fun h => absurd h (by decide), wpY_nil ?_⟩
        generalize wd.drew.setCell ⟨g, j, none⟩ (sv v) = wE at HO6 HOB6 HS1 HS2 HX6 ⊢
        clear ho hgr hcur HOE HOBE HXE HR1 HR2
        have hct : j + 1 ≤ ct := by have := (Row.of_own HO6.out).le; omega
        have hal := Ext.alloc' wE (.cells #[.slice (some ⟨g, j, none⟩) 1 1, .bool false] 195)
        have HAL := Lib.hid hal
        have HZE := Lib.hid HX6.out.size
        clear hal
        go_wp2_with (first
          | ((with_reducible refine atSlot 45 ?_); refine wpList_of_wp rfl (owp_sl3 (o := ⟨some 45, _, _, _, _, _⟩) _ _ _ _ rfl Tryz.elStr rfl j (j + 1) (j + 1) rfl rfl rfl rfl (by omega) (by omega) (Nat.le_succ _) (Nat.le_refl _) hct ?_); rw [subA_one, Nat.add_sub_cancel_left])
          | ((with_reducible refine atSlot 48 ?_); refine wpList_of_wp rfl (owp_app (o := ⟨some 48, _, _, _, _, _⟩) _ _ rfl Tryz.elBnd rfl (own_ext HOB6.out HAL.out) rfl (Row.new wE #[.slice (some ⟨g, j, none⟩) 1 1, .bool false] 195 1 2 rfl (by decide)) (vw_one [j] g) (by omega) (by unfold maxLen; omega) (Nat.le_trans HZE.out HAL.out.size) ?_); intro a6 c6 w6 ho6 hg6; have HO7 := Lib.hid ho6; have HG7 := Lib.hid hg6; clear ho6 hg6)
          | fail)
        have e1 : idxs k.P.parts (j + 1) = idxs k.P.parts j ++ [j] := HIX.out
        have e2 : (idxs k.P.parts (j + 1)).length = (idxs k.P.parts j).length + 1 := by rw [e1, List.length_append]; rfl
        have hob := own_ext HOB6.out HAL.out
        have hot := own_app_other (own_ext HO6.out HAL.out) hob (by decide) HG7.out
        have hb1 := box_app (HAL.out.heap' HS1.out) hob (by decide) HG7.out
        have hb2 := box_app (HAL.out.heap' HS2.out) hob (by decide) HG7.out
        have hx7 := below_app (HX6.out.trans' HAL.out) hob HG7.out (Nat.le_trans HZE.out HAL.out.size)
        have hjL : j < L.length := by rw [HL.out]; exact hjy
        refine ⟨⟨j + 1, L.set j v, a6, c6, by go_num, hjl, by rw [List.length_set]; exact HL.out, ?_, ?_, by rw [e2], hot, ?_, hb1, hb2, ?_, hx7⟩, ?_⟩
        · intro i hi
          rw [List.getElem?_set_ne (by omega)]
          exact HM2.out i (by omega)
        · rw [e1, HBT.out, List.map_append, ← HMP.out]
          congr 1
          · exact List.map_congr_left fun i hi => by
              have := idxs_lt hi
              rw [List.getD_eq_getElem?_getD, List.getD_eq_getElem?_getD, List.getElem?_set_ne (by omega)]
          · show [(L.set j v).getD j []] = [v]
            rw [List.getD_eq_getElem?_getD, List.getElem?_set_self hjL]; rfl
        · have h := HO7.out
          rw [e2, e1, List.flatMap_append]
          exact h
        · intro p' hp'
          rcases List.mem_or_eq_of_mem_set hp' with h | rfl
          · exact HSM.out p' h
          · exact Nat.le_trans HBL.out hql
        · simp [intOf]; omega
    · have hjn : j = k.n := by omega
      have HMF := Lib.hid (show (idxs k.P.parts k.n).map (fun i => L.getD i []) = binds k.P.parts y.P.parts by
        have h := HMP.out
        rw [hjn, List.take_of_length_le (by rw [HK.out.len]; exact Nat.le_refl _)] at h
        exact h)
      have HDR := Lib.hid (show L.drop k.n = y.P.parts.drop k.n by
        apply List.ext_getElem?
        intro i
        rw [List.getElem?_drop, List.getElem?_drop]
        exact HM2.out _ (by omega))
      rw [hjn] at HOB hij ⊢
      obtain ⟨I, hI⟩ : ∃ I, I = idxs k.P.parts k.n := ⟨_, rfl⟩
      have HIL := Lib.hid (show ∀ i ∈ I, i < y.n from fun i hi => by rw [hI] at hi; have := idxs_lt hi; omega)
      rw [← hI] at HMF HOB hij ⊢
      clear hI hjn hj HMP HM2
      have HVS := Lib.hid (show ∀ wr, wr.ownsRow w.heap.size 9 1 (.slice (some ⟨g, 0, none⟩) y.n ct) y.n (L.map sv) → ∀ q ∈ I.map (fun i => (⟨some ⟨g, i, none⟩, 1, 1, ⟨[L.getD i []], false⟩⟩ : Pt)), PtI wr S q from fun wr ho q hq => by
        obtain ⟨i, hi, rfl⟩ := List.mem_map.1 hq
        have hlt := HIL.out i hi
        have hLi : L[i]? = some (L.getD i []) := by rw [List.getD_eq_getElem?_getD, List.getElem?_eq_getElem (by rw [HL.out]; exact hlt)]; rfl
        refine ⟨⟨rfl, Nat.le_refl _, (by show 1 ≤ maxLen; decide), (fun h => by cases h), fun p hp => .inr ⟨g, i, (Option.some.inj hp).symm⟩, fun p hp j u hj => ?_⟩, fun p hp => ?_⟩
        · cases hp
          have h0 := (Row.of_own ho).cell _ rfl i (sv (L.getD i [])) (by rw [List.getElem?_map, hLi]; rfl)
          rw [Addr.add_lit, Nat.zero_add] at h0
          cases j with
          | zero => cases hj; rw [Addr.add_lit, Nat.add_zero]; exact h0
          | succ j => cases hj
        · obtain rfl : p = L.getD i [] := by simpa using hp
          exact HSM.out _ (List.mem_of_getElem? hLi))
      have HCE := Lib.hid (show (I.map (fun i => (⟨some ⟨g, i, none⟩, 1, 1, ⟨[L.getD i []], false⟩⟩ : Pt))).flatMap Pt.cells = I.flatMap (vw g) by
        rw [List.flatMap_map]; rfl)
      obtain ⟨c0, c1, -⟩ := box2 HQ1.out
      obtain ⟨r1, hr1⟩ : ∃ r1, r1 = k.P.rest := ⟨_, rfl⟩
      rw [← hr1] at c1
      have HRR := Lib.hid hr1
      clear hr1
      cases r1 with
      | false =>
        go_wp2
        rw [HPO.out]
        refine ⟨ab, cb, I.map (fun i => (⟨some ⟨g, i, none⟩, 1, 1, ⟨[L.getD i []], false⟩⟩ : Pt)), by rw [List.length_map]; rfl, ?_, ?_, HVS.out _ HOW.out, HXD.out⟩
        · unfold bindL
          rw [← HRR.out, if_neg (by decide), List.append_nil, ← HMF.out, List.map_map, List.map_map]
          rfl
        · rw [List.length_map, HCE.out]; exact Row.of_own HOB.out
      | true =>
        have hct : y.n ≤ ct := (Row.of_own HOW.out).le
        have E1 := Ext.drew' wd
        go_upto_region 14 with fail
        refine wp_region_z (fun w' => w'.heap[b + 1]? = some (pbox y)) (E1.heap' HQ2.out) [] (.qs [0, 1, 2, 3, 4, 5, 6, 7, 8, 9, 10] (.l 11 (.l 12 (.qs [13] .nil)))) (by kernel_rfl) (by kernel_rfl) ?_
        iterate 7 ((refine wpZ_q rfl rfl _ (fun w' hx' => by go_simp; try rfl) ?_; go_simp))
        refine wpZ_sl3 rfl rfl (.tmp 56) (.tmp 57) (.tmp 59) (.tmp 61) rfl Tryz.elStr rfl k.n y.n y.n rfl rfl rfl rfl rfl rfl hnk (Nat.le_refl _) hct ?_
        go_simp
        ((refine wpZ_q rfl rfl _ (fun w' hx' => by go_simp; try rfl) ?_; go_simp))
        refine wpZ_q rfl rfl (.bool y.P.rest) (fun w' hx' => by have hb' := (box2 hx').2.1; go_simp; try rfl) ?_
        go_simp
        ((refine wpZ_q rfl rfl _ (fun w' hx' => by go_simp; try rfl) ?_; go_simp))
        refine wpZ_l rfl rfl ?_
        go_simp
        obtain ⟨A, hA⟩ : ∃ A, A = subA (some ⟨g, 0, none⟩) k.n y.n 1 := ⟨_, rfl⟩
        have HTL := Lib.hid fun wr (ho : wr.ownsRow w.heap.size 9 1 (.slice (some ⟨g, 0, none⟩) y.n ct) y.n (L.map sv)) => (show Row wr A (y.n - k.n) (y.n - k.n) 1 ((y.P.parts.drop k.n).map sv) from by
          have h := ((Row.of_own ho).cap hny0).tail k.n hnk
          rw [hA, ← HDR.out, List.map_drop]
          rwa [Nat.mul_one] at h)
        rw [← hA]
        clear hA
        have hal := Ext.alloc' wd (.cells #[.slice A (y.n - k.n) (y.n - k.n), .bool y.P.rest] 195)
        have hrn := (Row.new wd #[.slice A (y.n - k.n) (y.n - k.n), .bool y.P.rest] 195 1 2 rfl (by decide)).ext (Ext.drew' _)
        have E2 := hal.trans' (Ext.drew' _)
        generalize (wd.alloc (.cells #[.slice A (y.n - k.n) (y.n - k.n), .bool y.P.rest] 195)).drew = wE at E2 hrn ⊢
        refine ⟨E2.heap' HQ2.out, ?_⟩
        have hob := own_ext HOB.out E2
        have hZE := Nat.le_trans HXD.out.size E2.size
        refine wpZ_l rfl rfl (owp_app (.tmp 55) (.tmp 66) rfl Tryz.elBnd rfl hob rfl hrn (by
          intro u hu
          simp at hu
          rcases hu with rfl | rfl <;> rfl) (by omega) (by unfold maxLen; omega) hZE ?_)
        intro a6 c6 w6 ho6 hg6
        have HO6 := Lib.hid ho6
        have hb6 := box_app (E2.heap' HQ2.out) hob (by decide) hg6
        have HOT6 := Lib.hid (own_app_other (own_ext HOW.out E2) hob (by decide) hg6)
        have HX6 := Lib.hid (below_app (HXD.out.trans' E2) hob hg6 hZE)
        clear ho6 hg6 hob hrn hal E2 E1 hZE
        refine ⟨fun _ => hb6, ?_⟩
        go_simp
        ((refine wpZ_q rfl rfl _ (fun w' hx' => by go_simp; try rfl) ?_; go_simp))
        refine wpZ_nil ?_
        go_wp2
        rw [HPO.out]
        have hcells : (I.map (fun i => (⟨some ⟨g, i, none⟩, 1, 1, ⟨[L.getD i []], false⟩⟩ : Pt)) ++ [(⟨A, y.n - k.n, y.n - k.n, ⟨y.P.parts.drop k.n, y.P.rest⟩⟩ : Pt)]).flatMap Pt.cells = I.flatMap (vw g) ++ [.slice A (y.n - k.n) (y.n - k.n), .bool y.P.rest] := by
          rw [List.flatMap_append, HCE.out]; rfl
        refine ⟨a6, c6, I.map (fun i => (⟨some ⟨g, i, none⟩, 1, 1, ⟨[L.getD i []], false⟩⟩ : Pt)) ++ [⟨A, y.n - k.n, y.n - k.n, ⟨y.P.parts.drop k.n, y.P.rest⟩⟩], by rw [List.length_append, List.length_map]; rfl, ?_, ?_, ?_, HX6.out⟩
        · unfold bindL
          rw [← HRR.out, if_pos rfl, ← HMF.out, List.map_append, List.map_map, List.map_map, HK.out.len]
          rfl
        · rw [List.length_append, List.length_map, hcells]
          exact Row.of_own HO6.out
        · intro q hq
          rcases List.mem_append.1 hq with hq | hq
          · exact HVS.out _ HOT6.out q hq
          · obtain rfl : q = ⟨A, y.n - k.n, y.n - k.n, ⟨y.P.parts.drop k.n, y.P.rest⟩⟩ := by simpa using hq
            exact ⟨HTL.out _ HOT6.out, fun p hp => HY.out.small p (List.mem_of_mem_drop hp)⟩
end Go.Proofs.YtejljmikammcdaaGreatDoor
/-
  Layer pattern: isBinding, Substitute.
-/
namespace Go.Proofs.YtejljmikammcdaaGreatDoor
open Go.RowKit

theorem put_new (w : World) (z cs : Array Value) (t : TypeId) : Ext w ((w.alloc (.cells z t)).setRow w.heap.size cs) ∧ ((w.alloc (.cells z t)).setRow w.heap.size cs).heap[w.heap.size]? = some (.cells cs t (0, 0)) :=
  ⟨(Ext.alloc' w _).setRow (Nat.le_refl _), setRow_heap _ _ _ _ _ _ (heap_alloc_new w _)⟩

theorem wpZ_sl_loA {P : Program} {ops : Array Oper} {R : World → Prop} {fr : List Nat} {Q : Act → World → Prop} {k : Nat} {L : XP} {f : Act} {w : World} {o : Oper} (ho : ops[k]? = some o) (hw : Region.wanted o (yielded ops f.tmps) = true) (xO lO : Operand) {t : TypeId}
    (hop : o.op = .slice t xO (some lO) none none) {e s b : Nat} {z : Value} (E : Elem P t e s b z) {a : Option Addr} {n c : Nat} (hx : f.eval xO = .slice a n c)
    (l : Nat) {kl : IntKind} {I : Int} (hl : f.eval lO = .int kl I) (hL : I = (l : Int)) (hlh : l ≤ n)
    (h : wpZ P ops R fr Q L (f.put o.dst (.slice (subA a l c s) (n - l) (c - l))) w) : wpZ P ops R fr Q (.q k L) f w := by
  subst hL
  refine wpZ_q ho hw (.slice (subA a l c s) (n - l) (c - l)) (fun w' _ => ?_) h
  simp [execOp, hop, hx, hl, Instr.sliceAt, run_underlying E.und, run_sl_lo E a n c kl l hlh, Result.andThen]
theorem flat_first {w : World} {b o : Nat} {q : Pt} {L : List Pt} (hc : ∀ j, j < 2 → w.cell? ⟨b, o + j, none⟩ = ((q :: L).flatMap Pt.cells)[0 * 2 + j]?) : w.cell? ⟨b, o, none⟩ = some (.slice q.a q.n q.c) ∧ w.cell? ⟨b, o + 1, none⟩ = some (.bool q.P.rest) := by
  have h := flat_range (L := q :: L) (i := 0) (x := q) pt_two rfl hc
  have h0 := h 0 _ rfl
  rw [Nat.add_zero] at h0
  exact ⟨h0, h 1 _ rfl⟩
theorem box_set {w : World} {b i : Nat} {cs : Array Value} {t : TypeId} (h : w.heap[b]? = some (.cells cs t (0, 0))) (v : Value) : (w.setCell ⟨b, i, none⟩ v).heap[b]? = some (.cells (cs.setIfInBounds i v) t (0, 0)) := by
  simp [World.setCell, Array.getElem?_modify, h]
theorem box_there {w : World} {b i : Nat} {cs : Array Value} {t : TypeId} (h : w.heap[b]? = some (.cells cs t (0, 0))) (hi : i < cs.size) : w.there b i 1 := fun j hj => by
  obtain rfl : j = 0 := by omega
  refine ⟨?_, frozen_none h _⟩
  rw [Nat.add_zero, cell_of_row w b i _ _ _ h]
  simp [hi]
/-- What isBinding lets by. -/
def GoodB (B : Pat) (rest : Bool) : Prop := (if rest then B.parts ≠ [] ∨ B.rest = true else B.parts.length = 1 ∧ B.rest = false) ∧ ∀ p ∈ B.parts, form p ≠ 0
def IbRel (n : Nat) (i : Value) : Prop := ∃ j : Nat, i = .int .i64 j ∧ j ≤ n
set_option maxRecDepth 100000 in
set_option maxHeartbeats 4000000 in
theorem isBinding_any (k : Pt) (rest : Bool) (S : Nat) (w : World) (hk : PtI w S k) (hS : S ≤ 1073741824) (hg : GoodB k.P rest) : Calls Tryz.prog 118 #[k.v, .bool rest] w (NewNone (.bool true) w) := by
  obtain ⟨a, n, c, ⟨ps, pr⟩⟩ := k
  have HN := Lib.hid (show ps.length = n from hk.len)
  have HROW := Lib.hid fun w' (h : Ext w w') => (show Row w' a n c 1 (ps.map sv) from hk.row.ext h)
  have HSM := Lib.hid (show ∀ p ∈ ps, p.length ≤ S from hk.small)
  have hmx : n ≤ 9223372036854775807 := by have h1 := hk.row.max; have h2 := hk.row.le; simp only [maxLen] at h1; simp only at h2; omega
  have HFO := Lib.hid (show ∀ p ∈ ps, form p ≠ 0 from hg.2)
  have HG := Lib.hid (show (if rest then ps ≠ [] ∨ pr = true else ps.length = 1 ∧ pr = false) from hg.1)
  have HX := Lib.hid (Ext.alloc' w (.cells #[.slice a n c, .bool pr] 195))
  have hh := heap_alloc_new w (.cells #[.slice a n c, .bool pr] 195)
  clear hk hg
  go_enter Tryz.func118, Tryz.ntmps118
  go_upto_region 1 with fail
  change Code.wp _ _ _ _ (w.alloc (.cells #[.slice a n c, .bool pr] 195))
  generalize w.alloc (.cells #[.slice a n c, .bool pr] 195) = w1 at HX hh ⊢
  generalize w.heap.size = b at hh ⊢
  obtain ⟨c0, c1, -⟩ := box2 hh
  clear hh
  go_cut [29] from 30 (fun s29 w' => s29 = .bool false ∧ w' = w1)
  case first =>
    cases rest with
    | true =>
      rcases HG.out with h | h
      · have hn0 : n ≠ 0 := fun e => h (List.eq_nil_of_length_eq_zero (by rw [HN.out]; exact e))
        obtain ⟨q1, q2⟩ := neI (x := (n : Int)) (y := 0) (by omega)
        clear h hn0
        go_wp2
        go_meet
        case rel => exact ⟨rfl, rfl⟩
      · subst h
        by_cases hn0 : n = 0
        · obtain ⟨q1, q2⟩ := eqI (x := (n : Int)) (y := 0) (by omega)
          clear hn0
          go_wp2
          go_meet
          case rel => exact ⟨rfl, rfl⟩
        · obtain ⟨q1, q2⟩ := neI (x := (n : Int)) (y := 0) (by omega)
          clear hn0
          go_wp2
          go_meet
          case rel => exact ⟨rfl, rfl⟩
    | false =>
      obtain ⟨h, rfl⟩ := (show ps.length = 1 ∧ pr = false from HG.out)
      have hn1 : n = 1 := by rw [← HN.out]; exact h
      obtain ⟨q1, q2⟩ := eqI (x := (n : Int)) (y := 1) (by omega)
      obtain ⟨q3, q4⟩ := neI (x := (n : Int)) (y := 0) (by omega)
      clear h hn1
      go_wp2
      go_meet
      case rel => exact ⟨rfl, rfl⟩
  obtain ⟨rfl, rfl⟩ := hcut
  go_upto_region 4 with fail
  go_loop [33] (IbRel n) (fun i => n - (intOf i).toNat)
  case atStart => exact ⟨0, rfl, Nat.zero_le _⟩
  case round =>
    obtain ⟨j, rfl, hj⟩ := hrel
    by_cases hjl : j < n
    · obtain ⟨p, hp⟩ : ∃ p, ps[j]? = some p := ⟨_, List.getElem?_eq_getElem (by rw [HN.out]; exact hjl)⟩
      have HP := Lib.hid hp
      have HF := Lib.hid (formOf_any p wc (by have := HSM.out p (List.mem_of_getElem? hp); omega))
      have hf0 := HFO.out p (List.mem_of_getElem? hp)
      have hrow := HROW.out wc HX.out
      obtain ⟨m, hm⟩ : ∃ m, m = form p := ⟨_, rfl⟩
      rw [← hm] at HF hf0
      obtain ⟨q1, q2⟩ := neI (x := (m : Int)) (y := 0) (by omega)
      clear hm hf0 hp
      go_wp2_with (first
        | ((with_reducible refine atSlot 35 ?_); refine wpList_of_wp rfl (owp_ix (o := ⟨some 35, _, _, _, _, _⟩) _ _ rfl Tryz.elStr rfl hrow j rfl rfl hjl ?_); intro b1 o1 hc2; have hd := sv_at HP.out hc2; clear hc2 hrow)
        | (go_at_call 99; (with_reducible refine HF.out.mono ?_); rintro en w' ⟨rfl, rfl⟩)
        | fail)
      go_round
      case rel => exact ⟨j + 1, by go_num, hjl⟩
      case measure => simp [intOf]; omega
    · go_wp2
      go_ret
      exact ⟨rfl, HX.out⟩

/-! ### Substitute -/
theorem subst_drop {ps bs : List Str} {j : Nat} {p : Str} (h : ps[j]? = some p) : subst (ps.drop j) bs = if star p then (match bs with | b :: bs' => (b ++ suf p) :: subst (ps.drop (j + 1)) bs' | [] => p :: subst (ps.drop (j + 1)) []) else p :: subst (ps.drop (j + 1)) bs := by
  obtain ⟨hlt, he⟩ := List.getElem?_eq_some_iff.1 h
  rw [List.drop_eq_getElem_cons hlt, he]
  rfl
/-- The bindings of parts with "*", and that of Rest. -/
def bndL (bs : List Str) (rest : Bool) (ds : List Str) (nr : Bool) : List Pat := bs.map (fun b => ⟨[b], false⟩) ++ if rest then [⟨ds, nr⟩] else []
theorem bndL_len (bs : List Str) (rest : Bool) (ds : List Str) (nr : Bool) : (bndL bs rest ds nr).length = bs.length + if rest then 1 else 0 := by
  unfold bndL; cases rest <;> simp
def subR (P : Pat) (bs ds : List Str) (nr : Bool) : Pat := ⟨subst P.parts bs ++ ds, if P.rest then nr else false⟩
/-- pattern.Substitute: what it answers. -/
def SubO (P : Pat) (bs ds : List Str) (nr : Bool) (S : Nat) (w : World) (en : Ending) (w' : World) : Prop :=
  ∃ (r : Pt) (e : Nat), en = .returned (.tuple #[r.v, .int .i64 (e : Nat)]) ∧ (e = 0 ↔ P.parts.length + ds.length ≤ 12) ∧ (e = 0 → r.P = subR P bs ds nr) ∧ PtO w' w.heap.size (S + S) r ∧ Ext w w'

/-- Between two looks at a binding. -/
def SbRel (w2 : World) (n : Nat) (i : Value) (wr : World) : Prop := ∃ j : Nat, i = .int .i64 j ∧ j ≤ n ∧ Ext w2 wr
/-- Between two parts. -/
def S2Rel (w3 : World) (P : Pat) (n : Nat) (rest : Bool) (bs ds : List Str) (nr : Bool) (S g ct bt : Nat) (v1 i : Value) (wr : World) : Prop :=
  ∃ (j : Nat) (D : List Str) (bs' : List Str) (Ls' : List Pt) (a' : Option Addr) (c' : Nat), i = .int .i64 j ∧ v1 = .slice a' Ls'.length c' ∧ j ≤ n ∧ D.length = j ∧ subst P.parts bs = D ++ subst (P.parts.drop j) bs' ∧ bs'.length = stars (P.parts.drop j) ∧
    Ls'.map Pt.P = bndL bs' rest ds nr ∧ (∀ k ∈ Ls', PtI w3 S k) ∧ Row w3 a' Ls'.length c' 2 (Ls'.flatMap Pt.cells) ∧ (∀ p ∈ D, p.length ≤ S + S) ∧
    wr.ownsRow w3.heap.size 9 1 (.slice (some ⟨g, 0, none⟩) n ct) n ((D ++ P.parts.drop j).map sv) ∧ wr.heap[bt]? = some (.cells #[.slice (some ⟨g, 0, none⟩) n ct, .bool false] 39) ∧ Ext w3 wr

set_option maxRecDepth 100000 in
set_option maxHeartbeats 8000000 in
theorem Substitute_any (k : Pt) (a1 : Option Addr) (c1 : Nat) (Ls : List Pt) (bs ds : List Str) (nr : Bool) (S : Nat) (w : World) (hk : PtI w S k) (hS : S ≤ 1073741824) (hok : OkP k.P)
    (hr : Row w a1 Ls.length c1 2 (Ls.flatMap Pt.cells)) (hls : ∀ q ∈ Ls, PtI w S q) (hm : Ls.map Pt.P = bndL bs k.P.rest ds nr) (hb : bs.length = stars k.P.parts) (hgs : ∀ b ∈ bs, form b ≠ 0) (hgd : ∀ d ∈ ds, form d ≠ 0) (htip : Tip k.P.rest ds nr) (hdl : ds.length ≤ 12) :
    Calls Tryz.prog 88 #[k.v, .slice a1 Ls.length c1] w (SubO k.P bs ds nr S w) := by
  obtain ⟨ka, kn, kc, ⟨ps, rest⟩⟩ := k
  replace hm : Ls.map Pt.P = bndL bs rest ds nr := hm
  replace hb : bs.length = stars ps := hb
  replace htip : Tip rest ds nr := htip
  show Calls _ _ #[.agg #[.slice ka kn kc, .bool rest], .slice a1 Ls.length c1] _ (SubO ⟨ps, rest⟩ bs ds nr S w)
  have HKN := Lib.hid fun w' (h : Ext w w') => (Kinds_any ⟨ka, kn, kc, ⟨ps, rest⟩⟩ S w' (hk.ext h) (by omega)).mono fun en w'' hh => (show ∃ (_ : True), en = .returned (.tuple #[.int .i64 (stars ps : Nat), .bool rest, .int .i64 0]) ∧ Ext w' w'' from by
    obtain ⟨⟨e, r, s, h1, h2, h3⟩, h4⟩ := hh
    obtain rfl : e = 0 := h2.2 hok
    obtain ⟨rfl, rfl⟩ := h3 rfl
    exact ⟨trivial, h1, h4⟩)
  have hlen : Ls.length = stars ps + if rest then 1 else 0 := by rw [← hb, ← bndL_len bs rest ds nr, ← hm, List.length_map]
  have hn12 : 0 < kn ∧ kn ≤ 12 := by
    rw [← (show ps.length = kn from hk.len)]
    obtain ⟨a, ps2, ha, -⟩ := hok.head
    have ha' : ps = a :: ps2 := ha
    exact ⟨by rw [ha']; simp, hok.le⟩
  obtain ⟨hn0, hn12⟩ := hn12
  have hst12 : stars ps ≤ 12 := Nat.le_trans (stars_le _) hok.le
  have HK := Lib.hid hk
  have HCL := Lib.hid fun w' (h : Ext w w') => CloneS_any ka kn kc (ps.map sv) w' ((hk.ext h).row) (sv_one _) (by omega)
  have hgood : ∀ i q, Ls[i]? = some q → GoodB q.P (decide (i = stars ps)) := fun i q hq => by
    have h1 : (bndL bs rest ds nr)[i]? = some q.P := by rw [← hm, List.getElem?_map, hq]; rfl
    unfold bndL at h1
    by_cases hi : i < bs.length
    · rw [List.getElem?_append_left (by rw [List.length_map]; exact hi), List.getElem?_map, List.getElem?_eq_getElem hi] at h1
      have h2 : q.P = ⟨[bs[i]], false⟩ := (Option.some.inj h1).symm
      rw [decide_eq_false (by omega), h2]
      exact ⟨⟨rfl, rfl⟩, fun p hp => by
        obtain rfl : p = bs[i] := by simpa using hp
        exact hgs _ (List.getElem_mem hi)⟩
    · rw [List.getElem?_append_right (by rw [List.length_map]; omega), List.length_map] at h1
      cases hr : rest with
      | false => rw [hr] at h1; simp at h1
      | true =>
        rw [hr, if_pos rfl] at h1
        have hi0 : i - bs.length = 0 := by
          have := (List.getElem?_eq_some_iff.1 h1).1
          simpa using this
        rw [hi0] at h1
        have h2 : q.P = ⟨ds, nr⟩ := (Option.some.inj h1).symm
        rw [decide_eq_true (by omega), h2]
        refine ⟨?_, hgd⟩
        unfold Tip at htip
        rw [hr] at htip
        exact htip
  have HIB := Lib.hid fun i q (hq : Ls[i]? = some q) w' (h : Ext w w') => isBinding_any q (decide (i = stars ps)) S w' ((hls q (List.mem_of_getElem? hq)).ext h) hS (hgood i q hq)
  have HLS := Lib.hid hls
  have HM := Lib.hid hm
  have HB := Lib.hid hb
  have HROW := Lib.hid hr
  have HDS := Lib.hid (show ∀ d ∈ ds, rest = true → d.length ≤ S from fun d hd hr => by
    have h1 : (⟨ds, nr⟩ : Pat) ∈ Ls.map Pt.P := by rw [hm]; unfold bndL; rw [hr, if_pos rfl]; simp
    obtain ⟨q, hq, hqe⟩ := List.mem_map.1 h1
    exact (hls q hq).small d (by rw [hqe]; exact hd))
  have HTIP := Lib.hid htip
  clear hk hok hr hls hm hgs hgd htip hgood hb
  obtain ⟨st, hst⟩ : ∃ st, st = stars ps := ⟨_, rfl⟩
  rw [← hst] at HKN hlen hst12 HIB HB
  have HST := Lib.hid hst
  have HLEN := Lib.hid hlen
  have hLs : Ls.length ≤ 13 := by rw [hlen]; cases rest <;> simp <;> omega
  obtain ⟨post, hpo⟩ : ∃ p : Ending → World → Prop, p = SubO ⟨ps, rest⟩ bs ds nr S w := ⟨_, rfl⟩
  rw [← hpo]
  have HPO := Lib.hid hpo
  clear hpo hst hlen
  have HX := Lib.hid (two_boxes w #[.slice ka kn kc, .bool rest] #[.slice none 0 0, .bool false] 39 39)
  go_enter Tryz.func88, Tryz.ntmps88
  go_upto_region 1 with fail
  generalize (w.alloc (.cells #[.slice ka kn kc, .bool rest] 39)).alloc (.cells #[.slice none 0 0, .bool false] 39) = w2 at HX ⊢
  obtain ⟨hx2, hh1, hh2⟩ := HX.out
  obtain ⟨b, hbb⟩ : ∃ b, b = w.heap.size := ⟨_, rfl⟩
  rw [← hbb] at hh1 hh2 ⊢
  have HBB := Lib.hid hbb
  have HX2 := Lib.hid hx2
  have HH1 := Lib.hid hh1
  have HH2 := Lib.hid hh2
  have hr15 := (box2 hh1).2.2
  clear hx2 hh1 hh2 hbb HX
  go_upto_region 4 with (first
    | ((with_reducible refine atSlot 15 ?_); refine wpList_of_wp rfl (wp_load_mid (op := ⟨some 15, _, _, _, _, _⟩) 39 _ rfl b 0 rfl [.slice ka kn kc, .bool rest] _ hr15 Tryz.underlying39 rfl (by kernel_rfl) ?_); clear hr15)
    | (go_at_call 74; (with_reducible refine (HKN.out _ HX2.out).mono ?_); rintro en w3 ⟨-, rfl, hx3⟩; have HX3 := Lib.hid (HX2.out.trans' hx3); have HE1 := Lib.hid (hx3.heap' HH1.out); have HE2 := Lib.hid (hx3.heap' HH2.out); clear hx3)
    | fail)
  go_cut [41] from 42 (fun s41 w' => s41 = .bool false ∧ w' = w3)
  case first =>
    cases rest with
    | true =>
      have hl : Ls.length = st + 1 := HLEN.out
      obtain ⟨q1, q2⟩ := eqI (x := (Ls.length : Int)) (y := (st : Int) + 1) (by omega)
      clear hl
      go_wp2
      go_meet
      case rel => exact ⟨rfl, rfl⟩
    | false =>
      have hl : Ls.length = st + 0 := HLEN.out
      obtain ⟨q1, q2⟩ := eqI (x := (Ls.length : Int)) (y := (st : Int)) (by omega)
      clear hl
      go_wp2
      go_meet
      case rel => exact ⟨rfl, rfl⟩
  obtain ⟨rfl, rfl⟩ := hcut
  have HRW := Lib.hid fun w' (h : Ext wc w') => HROW.out.ext (HX3.out.trans' h)
  go_upto_block 0 with fail
  go_cut [1] from 45 (fun s1 w' => s1 = .slice a1 Ls.length c1 ∧ Ext wc w')
  case first =>
    go_upto_region 7 with fail
    go_loopw [45] (SbRel wc Ls.length) (fun i _ => Ls.length - (intOf i).toNat)
    case atStart => exact ⟨0, rfl, Nat.zero_le _, Below.refl _ _⟩
    case round =>
      obtain ⟨j, rfl, hj, hx⟩ := hrel
      rename World => wd
      have HXD := Lib.hid (show Ext wc wd from hx)
      clear hx
      by_cases hjl : j < Ls.length
      · obtain ⟨q, hq⟩ : ∃ q, Ls[j]? = some q := ⟨_, List.getElem?_eq_getElem hjl⟩
        have HQ := Lib.hid hq
        have hrow := HRW.out wd HXD.out
        have HXW := Lib.hid (HX3.out.trans' HXD.out)
        obtain ⟨f, hf⟩ : ∃ f, f = ((j : Int) == (st : Int)) := ⟨_, rfl⟩
        have HI := Lib.hid fun w' (h : Ext w w') => (show Calls Tryz.prog 118 #[.agg #[.slice q.a q.n q.c, .bool q.P.rest], .bool f] w' (NewNone (.bool true) w') from by
          have h1 := HIB.out j q hq w' h
          rw [show decide (j = st) = f by rw [hf]; exact Bool.eq_iff_iff.2 (by rw [decide_eq_true_eq, beq_iff_eq]; omega)] at h1
          exact h1)
        have hf' := hf.symm
        have HPN := Lib.hid (put_new wd #[.slice none 0 0, .bool false] #[.slice q.a q.n q.c, .bool q.P.rest] 195)
        have HNN := Lib.hid (heap_alloc_new wd (.cells #[.slice none 0 0, .bool false] 195))
        have hr50 := (box2 HPN.out.2).2.2
        clear hf hq
        go_wp2_with (first
          | ((with_reducible refine atSlot 48 ?_); refine wpList_of_wp rfl (owp_ix (o := ⟨some 48, _, _, _, _, _⟩) _ _ rfl Tryz.elBnd rfl hrow j rfl rfl hjl ?_); intro b1 o1 hc2; have hd := flat_range pt_two HQ.out hc2; clear hc2 hrow)
          | ((with_reducible refine atSlot 49 ?_); refine wpList_of_wp rfl (wp_load_mid (op := ⟨some 49, _, _, _, _, _⟩) 195 _ rfl b1 o1 rfl [.slice q.a q.n q.c, .bool q.P.rest] _ hd Tryz.underlying195 rfl (by kernel_rfl) ?_); clear hd)
          | ((with_reducible refine atStore 10 ?_); refine wpList_of_wp rfl (wp_store_row (o := ⟨none, _, _, _, _, _⟩) _ _ _ rfl wd.heap.size #[.slice q.a q.n q.c, .bool q.P.rest] rfl rfl _ _ HNN.out (by kernel_rfl) rfl (by simp [Value.oneCell']) ?_))
          | ((with_reducible refine atSlot 50 ?_); refine wpList_of_wp rfl (wp_load_mid (op := ⟨some 50, _, _, _, _, _⟩) 195 _ rfl wd.heap.size 0 rfl [.slice q.a q.n q.c, .bool q.P.rest] _ hr50 Tryz.underlying195 rfl (by kernel_rfl) ?_); clear hr50)
          | (go_at_call 118; (with_reducible refine (HI.out _ (HXW.out.trans' HPN.out.1)).mono ?_); rintro en we ⟨rfl, hxe⟩; have HXE := Lib.hid (HXD.out.trans' (HPN.out.1.trans' hxe)); clear hxe)
          | fail)
        go_roundw
        case rel => exact ⟨j + 1, by go_num, hjl, HXE.out⟩
        case measure => simp [intOf]; omega
      · go_wp2
        go_meet
        case rel => exact ⟨rfl, HXD.out⟩
  obtain ⟨rfl, hx4⟩ := hcut
  have HX4 := Lib.hid (HX3.out.trans' hx4)
  have HF1 := Lib.hid (hx4.heap' HE1.out)
  have HF2 := Lib.hid (hx4.heap' HE2.out)
  have HRV := Lib.hid (HROW.out.ext HX4.out)
  have HLV := Lib.hid (fun q (hq : q ∈ Ls) => (HLS.out q hq).ext HX4.out)
  obtain ⟨c0, -, -⟩ := box2 HF1.out
  clear hx4 HE1 HE2 HX3 HX2 HH1 HH2 HRW HROW HLS HIB HKN
  go_upto_region 13 with (first
    | (go_at_call 54; (with_reducible refine (HCL.out _ HX4.out).mono ?_); rintro en w5 ⟨a3, ct, rfl, ho5, hx5⟩; have HO5 := Lib.hid ho5; have HX5 := Lib.hid hx5; have HPN := Lib.hid (put_new w5 #[.slice none 0 0, .bool false] #[.slice a3 kn ct, .bool false] 39); have HNN := Lib.hid (heap_alloc_new w5 (.cells #[.slice none 0 0, .bool false] 39)); clear ho5 hx5 c0)
    | ((with_reducible refine atStore 11 ?_); refine wpList_of_wp rfl (wp_store_row (o := ⟨none, _, _, _, _, _⟩) _ _ _ rfl w5.heap.size #[.slice a3 kn ct, .bool false] rfl rfl _ _ HNN.out (by kernel_rfl) rfl (by simp [Value.oneCell']) ?_))
    | fail)
  obtain ⟨g, rfl⟩ : ∃ g, a3 = some ⟨g, 0, none⟩ := by
    obtain ⟨g, cur, h, -⟩ := own_some HO5.out hn0
    exact ⟨g, h⟩
  obtain ⟨hx6, hbt⟩ := HPN.out
  have hgb : g < w5.heap.size := (own_block HO5.out g rfl).2
  obtain ⟨bt, hbte⟩ : ∃ bt, bt = w5.heap.size := ⟨_, rfl⟩
  have ho6 := own_ext HO5.out hx6
  have hx46 := HX5.out.trans' hx6
  have hwbt : wc.heap.size ≤ bt := by rw [hbte]; exact HX5.out.size
  generalize (w5.alloc (.cells #[.slice none 0 0, .bool false] 39)).setRow w5.heap.size #[.slice (some ⟨g, 0, none⟩) kn ct, .bool false] = w6 at hx6 hbt ho6 hx46 ⊢
  rw [← hbte] at hbt hgb ⊢
  have HO6 := Lib.hid ho6
  have HBT := Lib.hid hbt
  have HX6 := Lib.hid hx46
  obtain ⟨d0, -, -⟩ := box2 HBT.out
  clear hx6 hbt ho6 hx46 HPN HNN HO5 hbte HX5
  go_upto_region 14 with fail
  clear d0
  go_loopw [1, 65] (S2Rel wc ⟨ps, rest⟩ kn rest bs ds nr S g ct bt) (fun _ i _ => kn - (intOf i).toNat)
  case atStart => exact ⟨0, [], bs, Ls, a1, c1, rfl, rfl, Nat.zero_le _, rfl, rfl, by rw [HB.out]; exact HST.out, HM.out, HLV.out, HRV.out, (fun _ h => nomatch h), HO6.out, HBT.out, HX6.out⟩
  case round =>
    obtain ⟨j, D, bs', Ls', a', c', rfl, rfl, hj, hDj, hsub, hbl, hmm, hpi, hrow, hsm, hown, hbx, hx⟩ := hrel
    rename World => wd
    have HDJ := Lib.hid hDj
    have HSUB := Lib.hid (show subst ps bs = D ++ subst (ps.drop j) bs' from hsub)
    have HBL := Lib.hid (show bs'.length = stars (ps.drop j) from hbl)
    have HMM := Lib.hid hmm
    have HPI := Lib.hid hpi
    have HRO := Lib.hid hrow
    have HSM := Lib.hid hsm
    have HOW := Lib.hid (show wd.ownsRow wc.heap.size 9 1 (.slice (some ⟨g, 0, none⟩) kn ct) kn ((D ++ ps.drop j).map sv) from hown)
    have HBX := Lib.hid hbx
    have HXD := Lib.hid hx
    clear hDj hsub hbl hmm hpi hrow hsm hown hbx hx
    by_cases hjl : j < kn
    · obtain ⟨p, hp⟩ : ∃ p, ps[j]? = some p := ⟨_, List.getElem?_eq_getElem (by rw [show ps.length = kn from HK.out.len]; exact hjl)⟩
      have HP := Lib.hid hp
      have hLj : (D ++ ps.drop j)[j]? = some p := by
        rw [List.getElem?_append_right (by rw [HDJ.out]; exact Nat.le_refl _), HDJ.out, Nat.sub_self, List.getElem?_drop, Nat.add_zero]; exact hp
      have HLJ := Lib.hid hLj
      have HSD := Lib.hid (subst_drop (bs := bs') hp)
      have HSS := Lib.hid (stars_drop hp)
      have HDD := Lib.hid (show ps.drop j = p :: ps.drop (j + 1) by
        obtain ⟨h1, h2⟩ := List.getElem?_eq_some_iff.1 hp
        rw [List.drop_eq_getElem_cons h1, h2])
      have hpl : p.length ≤ S := HK.out.small p (List.mem_of_getElem? hp)
      have HST2 := Lib.hid (isStar_any p wd)
      have hrx := Row.of_own HOW.out
      clear hp hLj
      obtain ⟨t, ht⟩ : ∃ t, t = star p := ⟨_, rfl⟩
      rw [← ht] at HST2 HSD HSS
      have HTT := Lib.hid ht
      clear ht
      cases t with
      | false =>
        go_wp2_with (first
          | ((with_reducible refine atSlot 68 ?_); refine wpList_of_wp rfl (owp_ix (o := ⟨some 68, _, _, _, _, _⟩) _ _ rfl Tryz.elStr rfl hrx j rfl rfl hjl ?_); intro b1 o1 hc2; have hd := sv_at HLJ.out hc2; clear hc2 hrx)
          | (go_at_call 92; (with_reducible refine HST2.out.mono ?_); rintro en we ⟨rfl, rfl⟩)
          | fail)
        refine ⟨⟨j + 1, D ++ [p], bs', Ls', a', c', by go_num, rfl, hjl, by rw [List.length_append, HDJ.out]; rfl, ?_, ?_, HMM.out, HPI.out, HRO.out, ?_, ?_, HBX.out, HXD.out⟩, ?_⟩
        · show subst ps bs = _
          rw [HSUB.out, HSD.out]; simp
        · have h := HBL.out; rw [HSS.out] at h; simpa using h
        · intro q hq
          rcases List.mem_append.1 hq with hq | hq
          · exact HSM.out q hq
          · obtain rfl : q = p := by simpa using hq
            omega
        · have h := HOW.out; rw [HDD.out] at h; simpa using h
        · simp [intOf]; omega
      | true =>
        obtain ⟨β, bs2, rfl⟩ : ∃ β bs2, bs' = β :: bs2 := by
          cases hbs : bs' with
          | nil => have h := HBL.out; rw [hbs, HSS.out] at h; simp at h
          | cons β bs2 => exact ⟨β, bs2, rfl⟩
        obtain ⟨q, Ls2, rfl, hqP, hm2⟩ : ∃ q Ls2, Ls' = q :: Ls2 ∧ q.P = ⟨[β], false⟩ ∧ Ls2.map Pt.P = bndL bs2 rest ds nr := by
          have h := HMM.out
          cases hls : Ls' with
          | nil => rw [hls] at h; cases h
          | cons q Ls2 =>
            rw [hls] at h
            have h2 : q.P :: Ls2.map Pt.P = ⟨[β], false⟩ :: bndL bs2 rest ds nr := h
            injection h2 with h3 h4
            exact ⟨q, Ls2, rfl, h3, h4⟩
        have HM2 := Lib.hid hm2
        have hpq := HPI.out q (List.mem_cons_self ..)
        have HPQ := Lib.hid hpq
        have hqn : 0 < q.n := by have := hpq.len; rw [hqP] at this; simp at this; omega
        have hβl : β.length ≤ S := hpq.small β (by rw [hqP]; simp)
        have HQS := Lib.hid (show q.strs = ([β] : List Str).map sv by unfold Pt.strs; rw [hqP])
        have h1 : (1 : Int) ≤ (p.length : Int) := by have := star_pos HTT.out.symm; omega
        have hsl : (suf p).length ≤ p.length := by unfold suf; rw [List.length_drop]; omega
        have q9 : ¬ (9223372036854775807 < β.length + (suf p).length) := by omega
        have hm0 : 0 < (q :: Ls2).length := by simp
        have E3 := Ext.drew' wd
        have HOE := Lib.hid (own_ext HOW.out E3)
        clear hm2 hpq hqP
        go_upto_region 17 with (first
          | ((with_reducible refine atSlot 68 ?_); refine wpList_of_wp rfl (owp_ix (o := ⟨some 68, _, _, _, _, _⟩) _ _ rfl Tryz.elStr rfl hrx j rfl rfl hjl ?_); intro b1 o1 hc2; have hd := sv_at HLJ.out hc2; clear hc2 hrx)
          | (go_at_call 92; (with_reducible refine HST2.out.mono ?_); rintro en we ⟨rfl, rfl⟩)
          | fail)
        have hR0 : Ext wc wd.drew ∧ wd.drew.heap[bt]? = some (.cells #[.slice (some ⟨g, 0, none⟩) kn ct, .bool false] 39) := ⟨Ext.trans' HXD.out E3, E3.heap' HBX.out⟩
        have HR0 := Lib.hid hR0
        clear hR0
        refine wp_region_z (fun w' => Ext wc w' ∧ w'.heap[bt]? = some (.cells #[.slice (some ⟨g, 0, none⟩) kn ct, .bool false] 39)) HR0.out [] (.qs [0, 1, 2, 3, 4, 5, 6, 7, 8, 9, 10, 11, 12, 13, 14] (.l 15 (.qs [16] .nil))) (by kernel_rfl) (by kernel_rfl) ?_
        ((refine wpZ_q rfl rfl _ (fun w' hx' => by go_simp; try rfl) ?_; go_simp))
        refine wpZ_q rfl rfl (.slice (some ⟨g, 0, none⟩) kn ct) (fun w' hx' => by have hb' := (box2 hx'.2).1; go_simp; try rfl) ?_
        go_simp
        iterate 2 ((refine wpZ_q rfl rfl _ (fun w' hx' => by go_simp; try rfl) ?_; go_simp))
        refine wpZ_ix rfl rfl (.tmp 75) (.const (.int .i64 0)) rfl Tryz.elBnd rfl (fun w' h => HRO.out.ext h.1) HR0.out 0 rfl rfl hm0 ?_
        intro b3 o3 hc3
        have HC3 := Lib.hid hc3
        clear hc3
        go_simp
        ((refine wpZ_q rfl rfl _ (fun w' hx' => by go_simp; try rfl) ?_; go_simp))
        refine wpZ_q rfl rfl (.slice q.a q.n q.c) (fun w' hx' => by have hb' := (flat_first (fun i hi => HC3.out i hi w' hx')).1; go_simp; try rfl) ?_
        go_simp
        refine wpZ_ix rfl rfl (.tmp 78) (.const (.int .i64 0)) rfl Tryz.elStr rfl (fun w' h => by have hh := (HPQ.out.ext h.1).row; rw [HQS.out] at hh; exact hh) HR0.out 0 rfl rfl hqn ?_
        intro b4 o4 hc4
        have HC4 := Lib.hid hc4
        clear hc4
        go_simp
        refine wpZ_q rfl rfl (.string (Proofs.YtejljmikammcdaaGreatDoor.bs β)) (fun w' hx' => by have hb' := sv_at (L := [β]) (i := 0) rfl (fun i hi => HC4.out i hi w' hx'); go_simp; try rfl) ?_
        go_simp
        iterate 2 ((refine wpZ_q rfl rfl _ (fun w' hx' => by go_simp; try rfl) ?_; go_simp))
        refine wpZ_q rfl rfl (.string (Proofs.YtejljmikammcdaaGreatDoor.bs (β ++ suf p))) (fun w' hx' => by go_simp; try rfl) ?_
        go_simp
        ((refine wpZ_q rfl rfl _ (fun w' hx' => by go_simp; try rfl) ?_; go_simp))
        refine wpZ_sl_loA rfl rfl (.tmp 84) (.const (.int .i64 1)) rfl Tryz.elBnd rfl 1 rfl rfl hm0 ?_
        have HR5 := Lib.hid (show Row wc (subA a' 1 c' 2) Ls2.length (c' - 1) 2 (Ls2.flatMap Pt.cells) from by
          have h := HRO.out.tail 1 hm0
          rw [List.flatMap_cons, Nat.one_mul, List.drop_left' (pt_two q)] at h
          exact h)
        generalize subA a' 1 c' 2 = a5 at HR5 ⊢
        go_simp
        refine wpZ_ixp rfl rfl (.tmp 73) (.tmp 74) rfl Tryz.elStr rfl j rfl rfl hjl ?_
        rw [Nat.mul_one]
        refine wpZ_l rfl rfl (owp_st1 _ _ _ rfl g j (sv (β ++ suf p)) rfl rfl rfl (own_there HOE.out (by omega)) (by kernel_rfl) rfl ?_)
        have ho := own_setCell (v := sv (β ++ suf p)) HOE.out (j := j) (by omega)
        have hgr := grown_setCell' wd.drew g j (sv (β ++ suf p))
        have hge := (own_block HOE.out g rfl).1
        have hx6 := Ext.rd HR0.out.1 hgr hge
        have hb6 := heap_keep HR0.out.2 hgr (by omega)
        refine ⟨fun _ => ⟨hx6, hb6⟩, ?_⟩
        ((refine wpZ_q rfl rfl _ (fun w' hx' => by go_simp; try rfl) ?_; go_simp))
        refine wpZ_nil ?_
        have HX7 := Lib.hid hx6
        have HB7 := Lib.hid hb6
        have HO7 := Lib.hid ho
        clear ho hgr hge hx6 hb6 E3 HOE HR0
        go_wp2
        refine ⟨⟨j + 1, D ++ [β ++ suf p], bs2, Ls2, a5, c' - 1, by go_num, rfl, hjl, by rw [List.length_append, HDJ.out]; rfl, ?_, ?_, HM2.out, (fun k hk => HPI.out k (List.mem_cons_of_mem _ hk)), HR5.out, ?_, ?_, HB7.out, HX7.out⟩, ?_⟩
        · show subst ps bs = _
          rw [HSUB.out, HSD.out]; simp
        · have h := HBL.out; rw [HSS.out] at h; simpa using h
        · intro q' hq'
          rcases List.mem_append.1 hq' with hq' | hq'
          · exact HSM.out q' hq'
          · obtain rfl : q' = β ++ suf p := by simpa using hq'
            rw [List.length_append]; omega
        · have h := HO7.out
          have e1 : ((D ++ ps.drop j).map sv).set j (sv (β ++ suf p)) = (D ++ [β ++ suf p] ++ ps.drop (j + 1)).map sv := by
            rw [← List.map_set, HDD.out, List.set_append_right _ _ (by rw [HDJ.out]; exact Nat.le_refl _), HDJ.out, Nat.sub_self, List.set_cons_zero]
            simp
          rw [e1] at h
          exact h
        · simp [intOf]; omega
    · have hjn : j = kn := by omega
      have hdr : ps.drop j = [] := List.drop_of_length_le (by rw [show ps.length = kn from HK.out.len]; omega)
      have HDF := Lib.hid (show subst ps bs = D by rw [HSUB.out, hdr]; show D ++ [] = D; rw [List.append_nil])
      have hb0 : bs' = [] := by
        have h := HBL.out
        rw [hdr] at h
        exact List.eq_nil_of_length_eq_zero h
      have HTL := Lib.hid (show Ls'.map Pt.P = if rest then [⟨ds, nr⟩] else [] by
        have h := HMM.out
        rw [hb0] at h
        exact h)
      have HOF := Lib.hid (show wd.ownsRow wc.heap.size 9 1 (.slice (some ⟨g, 0, none⟩) kn ct) kn (D.map sv) by
        have h := HOW.out
        rw [hdr, List.append_nil] at h
        exact h)
      have HF2' := Lib.hid (Ext.heap' HXD.out HF2.out)
      have HPL := Lib.hid (show ps.length = kn from HK.out.len)
      have HSZ := Lib.hid HX4.out.size
      have hbsz : b + 1 < wc.heap.size := (Array.getElem?_eq_some_iff.1 HF2.out).1
      have hbt2 : b + 1 < bt := by omega
      clear hdr hb0 hjn hj HSUB HBL HMM HOW HLV HRV
      cases rest with
      | false =>
        have hds : ds = [] ∧ nr = false := HTIP.out
        have HDN := Lib.hid hds
        have hr113 := (box2 HBX.out).2.2
        clear hds
        go_wp2_with (first
          | ((with_reducible refine atSlot 113 ?_); refine wpList_of_wp rfl (wp_load_mid (op := ⟨some 113, _, _, _, _, _⟩) 39 _ rfl bt 0 rfl [.slice (some ⟨g, 0, none⟩) kn ct, .bool false] _ hr113 Tryz.underlying39 rfl (by kernel_rfl) ?_); clear hr113)
          | ((with_reducible refine atStore 4 ?_); refine wpList_of_wp rfl (wp_store_row (o := ⟨none, _, _, _, _, _⟩) _ _ _ rfl (b + 1) #[.slice (some ⟨g, 0, none⟩) kn ct, .bool false] rfl rfl _ _ HF2'.out (by kernel_rfl) rfl (by simp [Value.oneCell']) ?_))
          | fail)
        refine bodyPost_ret (results_c1 (ty := 39) rfl _ (b + 1) [.slice (some ⟨g, 0, none⟩) kn ct, .bool false] _ rfl (range_of_heap2 (setRow_heap _ _ _ _ _ _ HF2'.out)) Tryz.underlying39 rfl (by kernel_rfl)) rfl ?_
        rw [HPO.out]
        refine ⟨⟨some ⟨g, 0, none⟩, kn, ct, ⟨D, false⟩⟩, 0, rfl, ⟨fun _ => ?_, fun _ => rfl⟩, fun _ => ?_, ⟨?_, HSM.out⟩, ?_⟩
        · show ps.length + ds.length ≤ 12
          rw [HDN.out.1, HPL.out]; simpa using hn12
        · show (⟨D, false⟩ : Pat) = ⟨subst ps bs ++ ds, false⟩
          rw [HDF.out, HDN.out.1, List.append_nil]
        · exact own_base (own_other HOF.out (grown_setRow wd (b + 1) _) (fun e => own_apart HOF.out HF2'.out (by decide) e.symm)) HSZ.out
        · exact (Ext.trans' HX4.out HXD.out).setRow (by rw [HBB.out]; omega)
      | true =>
        obtain ⟨q, rfl, hqP⟩ : ∃ q, Ls' = [q] ∧ q.P = ⟨ds, nr⟩ := by
          have h := HTL.out
          rw [if_pos rfl] at h
          cases hls : Ls' with
          | nil => rw [hls] at h; cases h
          | cons q Ls2 =>
            rw [hls] at h
            have h2 : q.P :: Ls2.map Pt.P = [⟨ds, nr⟩] := h
            injection h2 with h3 h4
            exact ⟨q, by rw [List.map_eq_nil_iff.1 h4], h3⟩
        have hpq := HPI.out q (List.mem_cons_self ..)
        have HPQ := Lib.hid hpq
        have HQN := Lib.hid (show ds.length = q.n by have := hpq.len; rw [hqP] at this; exact this)
        have HQS := Lib.hid (show q.strs = ds.map sv by unfold Pt.strs; rw [hqP])
        have HQR := Lib.hid (show q.P.rest = nr by rw [hqP])
        have hqmx : q.n ≤ 12 := by rw [← HQN.out]; exact hdl
        have hm0 : 0 < [q].length := by simp
        have E3 := Ext.drew' wd
        have hR0 : Ext wc wd.drew ∧ wd.drew.heap[bt]? = some (.cells #[.slice (some ⟨g, 0, none⟩) kn ct, .bool false] 39) := ⟨Ext.trans' HXD.out E3, E3.heap' HBX.out⟩
        have HR0 := Lib.hid hR0
        have hwr : IntKind.i64.wrap ((kn : Int) + (q.n : Int)) = (kn : Int) + (q.n : Int) := by rw [IntKind.wrap_i64]; omega
        clear hR0 hpq hqP
        go_upto_region 20 with fail
        refine wp_region_z (fun w' => Ext wc w' ∧ w'.heap[bt]? = some (.cells #[.slice (some ⟨g, 0, none⟩) kn ct, .bool false] 39)) HR0.out [] (.qs [0, 1, 2, 3, 4, 5, 6, 7, 8, 9] .nil) (by kernel_rfl) (by kernel_rfl) ?_
        ((refine wpZ_q rfl rfl _ (fun w' hx' => by go_simp; try rfl) ?_; go_simp))
        refine wpZ_q rfl rfl (.slice (some ⟨g, 0, none⟩) kn ct) (fun w' hx' => by have hb' := (box2 hx'.2).1; go_simp; try rfl) ?_
        go_simp
        iterate 2 ((refine wpZ_q rfl rfl _ (fun w' hx' => by go_simp; try rfl) ?_; go_simp))
        refine wpZ_ix rfl rfl (.tmp 92) (.const (.int .i64 0)) rfl Tryz.elBnd rfl (fun w' h => HRO.out.ext h.1) HR0.out 0 rfl rfl hm0 ?_
        intro b3 o3 hc3
        have HC3 := Lib.hid hc3
        clear hc3
        go_simp
        ((refine wpZ_q rfl rfl _ (fun w' hx' => by go_simp; try rfl) ?_; go_simp))
        refine wpZ_q rfl rfl (.slice q.a q.n q.c) (fun w' hx' => by have hb' := (flat_first (fun i hi => HC3.out i hi w' hx')).1; go_simp; try rfl) ?_
        go_simp
        iterate 3 ((refine wpZ_q rfl rfl _ (fun w' hx' => by go_simp; try rfl) ?_; go_simp))
        refine wpZ_nil ?_
        have HXW := Lib.hid (Ext.trans' HX4.out HR0.out.1)
        have HF3' := Lib.hid (HR0.out.1.heap' HF2.out)
        have HOE := Lib.hid (own_ext HOF.out E3)
        have HRE := Lib.hid HR0.out
        generalize wd.drew = wE at HXW HF3' HOE HRE ⊢
        clear E3 HR0
        by_cases h12 : 12 < kn + q.n
        · have h12' : (12 : Int) < (kn : Int) + (q.n : Int) := by omega
          go_wp2_with (first
            | ((with_reducible refine atStore 4 ?_); refine wpList_of_wp rfl (wp_store_row (o := ⟨none, _, _, _, _, _⟩) _ _ _ rfl (b + 1) #[.slice none 0 0, .bool false] rfl rfl _ _ HF3'.out (by kernel_rfl) rfl (by simp [Value.oneCell']) ?_))
            | fail)
          refine bodyPost_ret (results_c1 (ty := 39) rfl _ (b + 1) [.slice none 0 0, .bool false] _ rfl (range_of_heap2 (setRow_heap _ _ _ _ _ _ HF3'.out)) Tryz.underlying39 rfl (by kernel_rfl)) rfl ?_
          rw [HPO.out]
          refine ⟨⟨none, 0, 0, ⟨[], false⟩⟩, 31, rfl, ⟨(fun h => by cases h), fun h => ?_⟩, (fun h => by cases h), PtO.nil _ _ _, HXW.out.setRow (by rw [HBB.out]; omega)⟩
          have h' : ps.length + ds.length ≤ 12 := h
          rw [HPL.out, HQN.out] at h'
          omega
        · have h12' : ¬ (12 : Int) < (kn : Int) + (q.n : Int) := by omega
          go_upto_region 22 with fail
          have E4 := Ext.drew' wE
          have hR1 : Ext wc wE.drew ∧ wE.drew.heap[bt]? = some (.cells #[.slice (some ⟨g, 0, none⟩) kn ct, .bool false] 39) := ⟨Ext.trans' HRE.out.1 E4, E4.heap' HRE.out.2⟩
          have HR1 := Lib.hid hR1
          have HOE2 := Lib.hid (own_ext HOE.out E4)
          clear hR1
          refine wp_region_z (fun w' => Ext wc w' ∧ w'.heap[bt]? = some (.cells #[.slice (some ⟨g, 0, none⟩) kn ct, .bool false] 39)) HR1.out [8] (.qs [0, 1, 2, 3, 4, 5] (.l 6 (.qs [7] (.l 8 .nil)))) (by kernel_rfl) (by kernel_rfl) ?_
          ((refine wpZ_q rfl rfl _ (fun w' hx' => by go_simp; try rfl) ?_; go_simp))
          refine wpZ_q rfl rfl (.slice (some ⟨g, 0, none⟩) kn ct) (fun w' hx' => by have hb' := (box2 hx'.2).1; go_simp; try rfl) ?_
          go_simp
          ((refine wpZ_q rfl rfl _ (fun w' hx' => by go_simp; try rfl) ?_; go_simp))
          refine wpZ_ix rfl rfl (.tmp 102) (.const (.int .i64 0)) rfl Tryz.elBnd rfl (fun w' h => HRO.out.ext h.1) HR1.out 0 rfl rfl hm0 ?_
          intro b4 o4 hc4
          have HC4 := Lib.hid hc4
          clear hc4
          go_simp
          ((refine wpZ_q rfl rfl _ (fun w' hx' => by go_simp; try rfl) ?_; go_simp))
          refine wpZ_q rfl rfl (.slice q.a q.n q.c) (fun w' hx' => by have hb' := (flat_first (fun i hi => HC4.out i hi w' hx')).1; go_simp; try rfl) ?_
          go_simp
          have hrq : Row wE.drew q.a q.n q.c 1 (ds.map sv) := by have h := (HPQ.out.ext HR1.out.1).row; rw [HQS.out] at h; exact h
          have hz : wc.heap.size ≤ wE.drew.heap.size := HR1.out.1.size
          refine wpZ_l rfl rfl (owp_app (.tmp 101) (.tmp 105) rfl Tryz.elStr rfl HOE2.out rfl hrq (sv_one ds) (by omega) (by unfold maxLen; omega) hz ?_)
          intro a6 c6 w6 ho6 hg6
          have hx6 := below_app HR1.out.1 HOE2.out hg6 hz
          have hb6 := box_app HR1.out.2 HOE2.out (by decide) hg6
          refine ⟨fun _ => ⟨hx6, hb6⟩, ?_⟩
          go_simp
          ((refine wpZ_q rfl rfl _ (fun w' hx' => by go_simp; try rfl) ?_; go_simp))
          refine wpZ_l rfl rfl (owp_st1 _ _ _ rfl bt 0 (.slice a6 (kn + q.n) c6) rfl rfl rfl (box_there hb6 (by simp)) (by kernel_rfl) rfl ?_)
          refine ⟨fun h => absurd h (by decide), wpZ_nil ?_⟩
          have HO7 := Lib.hid (own_other ho6 (grown_setCell' w6 bt 0 (.slice a6 (kn + q.n) c6)) (fun e => own_apart ho6 hb6 (by decide) e.symm))
          have HB7 := Lib.hid (box_set (i := 0) hb6 (.slice a6 (kn + q.n) c6))
          have HX7 := Lib.hid (Ext.rd hx6 (grown_setCell' w6 bt 0 (.slice a6 (kn + q.n) c6)) hwbt)
          have hb7 : (w6.setCell ⟨bt, 0, none⟩ (.slice a6 (kn + q.n) c6)).heap[bt]? = some (.cells #[.slice a6 (kn + q.n) c6, .bool false] 39) := HB7.out
          clear HB7 hx6 hb6 ho6 hg6 hrq hz E4 HR1
          generalize w6.setCell ⟨bt, 0, none⟩ (.slice a6 (kn + q.n) c6) = w7 at HO7 HX7 hb7 ⊢
          obtain ⟨d0, d1, -⟩ := box2 hb7
          have hf1 := frozen_none hb7 1
          have hr113 : (w7.setCell ⟨bt, 1, none⟩ (.bool q.P.rest)).rangeAt bt 0 [.slice a6 (kn + q.n) c6, .bool q.P.rest] := range_of_heap2 (box_set (i := 1) hb7 (.bool q.P.rest))
          have hgr8 := grown_setCell' w7 bt 1 (.bool q.P.rest)
          have HB8 := Lib.hid (box_set (i := 1) hb7 (.bool q.P.rest))
          have HO8 := Lib.hid (own_other HO7.out hgr8 (fun e => own_apart HO7.out hb7 (by decide) e.symm))
          have HX8 := Lib.hid (Ext.rd HX7.out hgr8 hwbt)
          have HC8 := Lib.hid (heap_keep (Ext.heap' HX7.out HF2.out) hgr8 (by omega))
          have hrow := HRO.out.ext HX7.out
          clear hgr8 hb7 d0
          go_wp2_with (first
            | ((with_reducible refine atSlot 109 ?_); refine wpList_of_wp rfl (owp_ix (o := ⟨some 109, _, _, _, _, _⟩) _ _ rfl Tryz.elBnd rfl hrow 0 rfl rfl hm0 ?_); intro b5 o5 hc5; have hd5 := (flat_first hc5).2; clear hc5 hrow)
            | ((with_reducible refine atSlot 113 ?_); refine wpList_of_wp rfl (wp_load_mid (op := ⟨some 113, _, _, _, _, _⟩) 39 _ rfl bt 0 rfl [.slice a6 (kn + q.n) c6, .bool q.P.rest] _ hr113 Tryz.underlying39 rfl (by kernel_rfl) ?_); clear hr113)
            | ((with_reducible refine atStore 4 ?_); refine wpList_of_wp rfl (wp_store_row (o := ⟨none, _, _, _, _, _⟩) _ _ _ rfl (b + 1) #[.slice a6 (kn + q.n) c6, .bool q.P.rest] rfl rfl _ _ HC8.out (by kernel_rfl) rfl (by simp [Value.oneCell']) ?_))
            | fail)
          refine bodyPost_ret (results_c1 (ty := 39) rfl _ (b + 1) [.slice a6 (kn + q.n) c6, .bool q.P.rest] _ rfl (range_of_heap2 (setRow_heap _ _ _ _ _ _ HC8.out)) Tryz.underlying39 rfl (by kernel_rfl)) rfl ?_
          rw [HPO.out]
          have e9 : D.map sv ++ ds.map sv = (D ++ ds).map sv := by rw [List.map_append]
          have ho9 := own_other HO8.out (grown_setRow (w7.setCell ⟨bt, 1, none⟩ (.bool q.P.rest)) (b + 1) #[.slice a6 (kn + q.n) c6, .bool q.P.rest]) (fun e => own_apart HO8.out HC8.out (by decide) e.symm)
          rw [e9] at ho9
          refine ⟨⟨a6, kn + q.n, c6, ⟨D ++ ds, q.P.rest⟩⟩, 0, rfl, ⟨fun _ => ?_, fun _ => rfl⟩, fun _ => ?_, ⟨own_base ho9 HSZ.out, ?_⟩, (Ext.trans' HX4.out HX8.out).setRow (by rw [HBB.out]; omega)⟩
          · show ps.length + ds.length ≤ 12
            rw [HPL.out, HQN.out]; omega
          · show (⟨D ++ ds, q.P.rest⟩ : Pat) = ⟨subst ps bs ++ ds, nr⟩
            rw [HDF.out, HQR.out]
          · intro p' hp'
            rcases List.mem_append.1 hp' with h | h
            · exact HSM.out p' h
            · have := HDS.out p' h (by first | rfl | trivial)
              omega
end Go.Proofs.YtejljmikammcdaaGreatDoor
