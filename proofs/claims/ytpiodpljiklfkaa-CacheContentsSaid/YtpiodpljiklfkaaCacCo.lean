/-
  The law CacheContents.
-/
import Derived.Test.YtpiodpljiklfkaaCacPl
import Derived.Test.YtpiodpljiklfkaaShort
namespace Go.Proofs.Ytpiodpljiklfkaa
open Go.RowKit

set_option maxRecDepth 100000 in
set_option maxHeartbeats 8000000 in
theorem CacheContents_walk (a1 : Option Addr) (n1 c1 : Nat) (L1 : List Int) (w : World)
    (hl : Row w a1 n1 c1 1 (L1.map (Value.int .i64))) (hli : ∀ x ∈ L1, -9223372036854775808 ≤ x ∧ x ≤ 9223372036854775807) (ha1 : ∀ p, a1 = some p → 0 < n1 → p.block < w.heap.size) :
    Calls Try.prog 7 #[.slice a1 n1 c1] w (LawPost w) := by
  have HSH := Lib.hid (Short_any w)
  go_enter Try.func7, Try.ntmps7
  go_upto_if 21 with (first
    | (go_at_call 28; (with_reducible refine HSH.out.mono ?_); rintro en ws ⟨bs, rfl, hxs⟩)
    | fail)
  cases bs with
  | false =>
    go_wp2
    go_ret
    exact ⟨rfl, hxs⟩
  | true =>
  go_upto_region 3 with fail
  have HXS := Lib.hid hxs
  have ht : Tape (ws.alloc (.cells #[.slice a1 n1 c1, .int .i64 0] 39)) ws.heap.size 0 :=
    ⟨a1, n1, c1, L1, heap_alloc_new ws _, (hl.ext hxs).ext (Ext.alloc' _ _), (fun p hp hn => Nat.lt_of_lt_of_le (ha1 p hp hn) hxs.size), hli⟩
  have hx1 : Ext ws (ws.alloc (.cells #[.slice a1 n1 c1, .int .i64 0] 39)) := Ext.alloc' _ _
  have HT := Lib.hid ht
  have HX1 := Lib.hid hx1
  clear ht hx1 hl hli ha1
  go_upto_region 4 with fail
  obtain ⟨g, hge⟩ : ∃ g, g = ws.heap.size := ⟨_, rfl⟩
  rw [← hge] at HT ⊢
  have HGE := Lib.hid hge
  generalize ws.alloc (.cells #[.slice a1 n1 c1, .int .i64 0] 39) = w1 at HT HX1 ⊢
  have hgz : ws.heap.size ≤ g := Nat.le_of_eq hge.symm
  clear hge
  have HLV := Lib.hid (show Calls Try.prog 27 #[.pointer (some ⟨g, 0, none⟩), .int .i64 12] w1 (LivO w1 g 0) from lived38_any g 0 12 w1 HT.out (by omega) (by omega))
  go_upto_region 5 with (first
    | (go_at_call 27; (with_reducible refine HLV.out.mono ?_); rintro en w2 ⟨c, room, a, n, cp, E, F, k2, rfl, hD2, hr1, hr14, hk2, hg2, hF2⟩; have HD2 := Lib.hid hD2; have HX2 := Lib.hid (show Ext ws w2 from HX1.out.grown hg2 HX1.out.size (fun q hq => by cases hq; exact hgz)); have HF2 := Lib.hid (show ∀ q ∈ F, ws.heap.size ≤ q from fun q hq => Nat.le_trans HX1.out.size (hF2 q hq)); clear hD2 hg2 hF2; have HP := Lib.hid (put_new w2 #[.int .i64 0, .slice none 0 0] #[.int .i64 room, .slice a n cp] 28); have HN := Lib.hid (heap_alloc_new w2 (.cells #[.int .i64 0, .slice none 0 0] 28)))
    | ((with_reducible refine atStore 5 ?_); refine wpList_of_wp rfl (wp_store_row (o := ⟨none, _, _, _, _, _⟩) _ _ _ rfl w2.heap.size #[.int .i64 room, .slice a n cp] rfl rfl _ _ HN.out (by kernel_rfl) rfl (by simp [Value.oneCell']) ?_))
    | fail)
  obtain ⟨hx3, hh3⟩ := HP.out
  obtain ⟨b5, hb5⟩ : ∃ b5, b5 = w2.heap.size := ⟨_, rfl⟩
  generalize (w2.alloc (.cells #[.int .i64 0, .slice none 0 0] 28)).setRow w2.heap.size #[.int .i64 room, .slice a n cp] = w3 at hx3 hh3 ⊢
  rw [← hb5] at hh3 ⊢
  have hgb : g < b5 := by rw [hb5]; exact HD2.out.tape.lt
  have HD3 := Lib.hid (HD2.out.ext hx3)
  have HX3 := Lib.hid (HX2.out.trans' hx3)
  have HB3 := Lib.hid (show RcB w3 b5 room a n cp from hh3)
  have HF3 := HF2
  clear hx3 hh3 hb5 HP HN HLV HD2 HX2 HX1 HT
  have HKN := Lib.hid (known38_any w3)
  go_upto_region 7 with (first
    | (go_at_call 14; (with_reducible refine HKN.out.mono ?_); rintro en w4 ⟨rfl, hx4'⟩; have hx4 : Ext w3 w4 := hx4'; clear hx4'; have HD4 := Lib.hid (HD3.out.ext hx4); have HX4 := Lib.hid (HX3.out.trans' hx4); have HB4 := Lib.hid (show RcB w4 b5 room a n cp from hx4.heap' HB3.out); clear hx4)
    | fail)
  obtain ⟨B1, B2, L, -, hbg, -, -, hC4, -, -, hS4⟩ := HD4.out
  have HCT := Lib.hid (show Calls Try.prog 29 #[.pointer (some ⟨g, 0, none⟩), .bool false] w4 (ContO w4 g k2 false) from content38_any g k2 false w4 HD4.out.tape (by omega))
  have HC4 := Lib.hid hC4
  have HS4 := Lib.hid hS4
  have HOK := Lib.hid hC4.ok
  clear hC4 hS4 HD3 HX3 HB3 HKN HF2
  go_upto_region 8 with (first
    | (go_at_call 29; (with_reducible refine HCT.out.mono ?_); rintro en w6 ⟨S, ka, kn, kc, la, ln, lc, H, ja, jn, jc, Ls, k6, rfl, hLl, hkn, hLs, -, hid6, hch6, hln6, hHs, hfu, hjo6, ht6, hk6, hg6⟩; have HC6 := Lib.hid (HC4.out.tick hg6 hbg); have HX6 := Lib.hid (show Ext ws w6 from HX4.out.grown hg6 HX4.out.size (fun q hq => by cases hq; exact hgz)); have HID6 := Lib.hid hid6; have HCH6 := Lib.hid hch6; have HLS := Lib.hid hLs; have HHS := Lib.hid hHs; have HLL := Lib.hid hLl; have HFU := Lib.hid (hfu rfl); have HJO6 := Lib.hid hjo6; clear hid6 hch6 hLs hHs hLl hjo6 ht6 hg6 hfu; have HP := Lib.hid (put_new w6 #[.int .i64 0, .slice none 0 0] #[.int .i64 S, .slice ka kn kc] 60); have HN := Lib.hid (heap_alloc_new w6 (.cells #[.int .i64 0, .slice none 0 0] 60)))
    | ((with_reducible refine atStore 7 ?_); refine wpList_of_wp rfl (wp_store_row (o := ⟨none, _, _, _, _, _⟩) _ _ _ rfl w6.heap.size #[.int .i64 S, .slice ka kn kc] rfl rfl _ _ HN.out (by kernel_rfl) rfl (by simp [Value.oneCell']) ?_))
    | fail)
  obtain ⟨hx7, hh7⟩ := HP.out
  obtain ⟨bm, hbm⟩ : ∃ bm, bm = w6.heap.size := ⟨_, rfl⟩
  generalize (w6.alloc (.cells #[.int .i64 0, .slice none 0 0] 60)).setRow w6.heap.size #[.int .i64 S, .slice ka kn kc] = w7 at hx7 hh7 ⊢
  rw [← hbm] at hh7 ⊢
  obtain ⟨K, hK⟩ : ∃ K, K = Ls.map idOf := ⟨_, rfl⟩
  have HKE := Lib.hid hK
  have HID7 := Lib.hid (show w7.ownsRow w4.heap.size 45 2 (.slice ka kn kc) kn (K.flatMap idCells) by rw [hK]; exact own_ext HID6.out hx7)
  have HCH7 := Lib.hid (HCH6.out.ext hx7)
  have HJO7 := Lib.hid (own_ext HJO6.out hx7)
  have HM7 := Lib.hid (show ManAt w7 bm S ka kn kc from hh7)
  have HX7 := Lib.hid (show Ext ws w7 from HX6.out.trans' hx7)
  have HC7 := Lib.hid (HC6.out.ext hx7)
  have HKI := Lib.hid (show Ids1 K by rw [hK]; exact texts_ids1 HLS.out)
  have HKL := Lib.hid (show K.length = kn by rw [hK, List.length_map, HLL.out])
  have hjl : jn = sizeL Ls := by have h := own_len HJO7.out; unfold sizeL; omega
  have hj16 : jn ≤ 16 := by
    have h1 : ∀ (M : List (List UInt8)), (∀ y ∈ M, Sh y) → M.flatten.length ≤ 4 * M.length := fun M => by
      induction M with
      | nil => intro _; simp
      | cons y M ih =>
        intro hM
        have h2 := (hM y (List.mem_cons_self ..)).2.1
        have h3 := ih fun z hz => hM z (List.mem_cons_of_mem _ hz)
        rw [List.flatten_cons, List.length_append, List.length_cons]
        omega
    have h2 := h1 Ls HLS.out
    have h3 := HLL.out
    unfold sizeL at hjl
    omega
  have HJL := Lib.hid hjl
  obtain ⟨E1, hE1, -⟩ := conC_full (room := room) (E := E) (S := S) HHS.out HLS.out HFU.out.2 HOK.out.1 HS4.out HFU.out.1
  have hrd := HM7.out.rd
  have HPU := Lib.hid (Content38_any B1 c room E F S ka kn kc K la ln lc H w7 HC7.out (Row.of_own HID7.out) HKL.out (by omega) HKI.out HCH7.out.chs (by omega))
  rw [hK, hE1] at HPU
  have HT7 := Lib.hid HC7.out.typed
  clear hx7 hh7 hbm hK hjl hE1 HP HN HCT HC6 HX6 HID6 HCH6 HJO6 HC4 HX4 HD4 HB4
  go_upto_region 9 with (first
    | ((with_reducible refine atSlot 45 ?_); refine wpList_of_wp rfl (wp_load_mid (op := ⟨some 45, _, _, _, _, _⟩) 60 _ rfl bm 0 rfl [.int .i64 S, .slice ka kn kc] _ hrd Try.underlying60 rfl (by kernel_rfl) ?_); clear hrd)
    | (go_at_call 30; (with_reducible refine HPU.out.mono ?_); rintro en w8 ⟨ya, yn, yc, rfl, hyo, F8, hC8, hc8, hF8⟩; have HYO := Lib.hid hyo; have HCC := Lib.hid hc8; clear hyo hC8 hc8 hF8)
    | fail)
  have HX8 := Lib.hid (show Ext ws w8 from ext_chg HX7.out HCC.out HF3.out)
  have HID8 := Lib.hid (own_chg HID7.out HCC.out HT7.out (by decide) (by decide))
  have HCH8 := Lib.hid (show OwnChs w8 w4.heap.size la ln lc H from ⟨HCH7.out.len, own_chg HCH7.out.own HCC.out HT7.out (by decide) (by decide), fun q hq => ⟨own_chg (HCH7.out.dat q hq).1 HCC.out HT7.out (by decide) (by decide), (HCH7.out.dat q hq).2⟩⟩)
  have HJO8 := Lib.hid (own_chg HJO7.out HCC.out HT7.out (by decide) (by decide))
  have HM8 := Lib.hid (show ManAt w8 bm S ka kn kc from HCC.out.heap HM7.out (fun hm => by rcases HT7.out _ hm _ _ _ HM7.out with e | e <;> exact absurd e (by decide)))
  obtain ⟨R2, hR2⟩ : ∃ R2, R2 = 1 + jn := ⟨_, rfl⟩
  have hri : (1 : Int) + (jn : Int) = R2 := by omega
  have hR1 : 1 ≤ R2 := by omega
  have hR16 : R2 ≤ 17 := by omega
  have HR2 := Lib.hid hR2
  have HNW := Lib.hid (New38_at R2 w8 hR1 (by omega))
  clear hR2 HPU HC7 HX7 HID7 HCH7 HJO7 HM7 HCC HT7
  go_upto_region 10 with (first
    | (go_at_call 12; (try rw [hri]); (refine HNW.out.mono ?_); rintro en w9 ⟨d, Fd, rfl, hCd, hx9⟩; have HCD := Lib.hid hCd; have HX89 := Lib.hid hx9; clear hCd hx9)
    | fail)
  have HX9 := Lib.hid (show Ext ws w9 from HX8.out.trans' HX89.out)
  have HID9 := Lib.hid (own_ext HID8.out HX89.out)
  have HCH9 := Lib.hid (HCH8.out.ext HX89.out)
  have HJO9 := Lib.hid (own_ext HJO8.out HX89.out)
  have HM9 := Lib.hid (show ManAt w9 bm S ka kn kc from HX89.out.heap' HM8.out)
  have HFD := Lib.hid (show ∀ q ∈ Fd, ws.heap.size ≤ q from fun q hq => Nat.le_trans HX8.out.size (HCD.out.base q hq))
  have HBY := Lib.hid (Bytes.of_own (own_ext HYO.out HX89.out))
  have HBJ := Lib.hid (Bytes.of_own HJO9.out)
  obtain ⟨E2, hE2, hE2a⟩ := conC_full (room := R2) (E := []) (S := S) HHS.out HLS.out HFU.out.2 (OkE.nil R2) (fun x hx => by cases hx) HFU.out.1
  have hk2 := conC_kept (room := R2) (K := Ls.map idOf) (S := S) HHS.out (OkE.nil R2) (fun x (hx : x ∈ []) => by cases hx)
  rw [hE2] at hk2
  have HE2 := Lib.hid (show OkE R2 E2 ∧ ShE E2 ∧ ∀ l ∈ Ls, idOf l ∈ E2.map En.id from ⟨hk2.1, hk2.2.1, hE2a (by have h1 := HJL.out; have h2 := HR2.out; simp only [sizeF]; omega)⟩)
  have hrd9 := HM9.out.rd
  have HPV := Lib.hid (Content38_any _ d R2 [] Fd S ka kn kc K la ln lc H w9 HCD.out (Row.of_own HID9.out) HKL.out (by omega) HKI.out HCH9.out.chs (by omega))
  rw [HKE.out, hE2] at HPV
  have HT9 := Lib.hid HCD.out.typed
  clear hE2 hE2a hk2 hri HNW HX8 HID8 HCH8 HJO8 HM8 HX89 HYO
  go_upto_region 15 with (first
    | ((with_reducible refine atSlot 61 ?_); refine wpList_of_wp rfl (owp_conv (o := ⟨some 61, _, _, _, _, _⟩) _ rfl rfl HBY.out Try.underlying42 Try.underlying5 Try.underlying9 ?_))
    | ((with_reducible refine atSlot 63 ?_); refine wpList_of_wp rfl (owp_conv (o := ⟨some 63, _, _, _, _, _⟩) _ rfl rfl HBJ.out Try.underlying42 Try.underlying5 Try.underlying9 ?_))
    | ((with_reducible refine atSlot 76 ?_); refine wpList_of_wp rfl (wp_load_mid (op := ⟨some 76, _, _, _, _, _⟩) 60 _ rfl bm 0 rfl [.int .i64 S, .slice ka kn kc] _ hrd9 Try.underlying60 rfl (by kernel_rfl) ?_); clear hrd9)
    | (go_at_call 30; (with_reducible refine HPV.out.mono ?_); rintro en wa ⟨za, zn, zc, rfl, -, Fa, hCa, hca, hFa⟩; have HCA := Lib.hid hCa; have HCC := Lib.hid hca; have HFA := Lib.hid (show ∀ q ∈ Fa, ws.heap.size ≤ q from fun q hq => by (rcases hFa q hq with h | h); (exact HFD.out q h); (exact Nat.le_trans HX9.out.size h)); clear hCa hca hFa)
    | fail)
  have HXA := Lib.hid (show Ext ws wa from ext_chg HX9.out HCC.out HFD.out)
  have HIDA := Lib.hid (own_chg HID9.out HCC.out HT9.out (by decide) (by decide))
  have HJOA := Lib.hid (own_chg HJO9.out HCC.out HT9.out (by decide) (by decide))
  have HMA := Lib.hid (show ManAt wa bm S ka kn kc from HCC.out.heap HM9.out (fun hm => by rcases HT9.out _ hm _ _ _ HM9.out with e | e <;> exact absurd e (by decide)))
  clear HPV HX9 HID9 HCH9 HJO9 HM9 HCC HT9 HCD HBY HBJ
  have HIC := Lib.hid fun w' (h : Ext wa w') => IDs_any _ d R2 E2 Fa w' (HCA.out.ext h)
  have HRM := Lib.hid fun w' (h : Ext wa w') => (show ManAt w' bm S ka kn kc from h.heap' HMA.out).rd
  have EA := Ext.drew' wa
  have hcnt := HE2.out.1.count
  refine wp_region_e [] (.qs [0, 1] (.l 2 (.l 3 (.qs [4, 5, 6, 7, 8] .nil)))) (by kernel_rfl) (by kernel_rfl) ?_
  refine wpY_ld rfl rfl (.tmp 7) rfl bm 0 rfl [.int .i64 S, .slice ka kn kc] _ HRM.out Try.underlying60 rfl (by kernel_rfl) ?_
  ((refine wpY_q rfl rfl _ (fun w' hx' => by go_simp; try rfl) ?_; go_simp))
  refine wpY_l rfl rfl ?_
  go_simp
  refine (HIC.out _ EA).mono ?_
  rintro en wb ⟨ia, im, ic, rfl, him, hio, hxb⟩
  have HIM := Lib.hid him
  clear him
  have EB := EA.trans' hxb
  refine ⟨EB, ?_⟩
  go_simp
  refine wpY_l rfl rfl ?_
  go_simp
  refine (Missing_any S ka kn kc K ia im ic (E2.map En.id) wb (Row.of_own (own_ext HIDA.out EB)) HKL.out (by omega) HKI.out (Row.of_own hio) HIM.out.symm (by have h1 := HIM.out; rw [List.length_map] at h1; omega) (fun q hq => by obtain ⟨x, hx, rfl⟩ := List.mem_map.1 hq; exact id_key HE2.out.1 (by omega) hx)).mono ?_
  rintro en wc ⟨hxc, hmi⟩
  have hck : chkV K S = 0 := by unfold chkV; rw [if_pos (by rw [HKE.out]; exact HFU.out.1)]
  obtain ⟨oa, oc, rfl⟩ : ∃ oa oc, en = .returned (.tuple #[.slice oa 0 oc, .int .i64 0]) := by
    rcases hmi with ⟨h, -⟩ | ⟨-, oa, on, oc, D, rfl, hDn, -, hD, -⟩
    · exact absurd hck h
    · have hD0 : D = [] := List.eq_nil_iff_forall_not_mem.2 fun q hq => by
        have h1 := (hD q).1 hq
        rw [HKE.out] at h1
        obtain ⟨l, hl, he⟩ := List.mem_map.1 h1.1
        exact h1.2 (he ▸ HE2.out.2.2 l hl)
      subst hD0
      simp only [List.length_nil] at hDn
      subst hDn
      exact ⟨oa, oc, rfl⟩
  have EC := EB.trans' hxc
  refine ⟨EC, ?_⟩
  go_simp
  iterate 5 ((refine wpY_q rfl rfl _ (fun w' hx' => by go_simp; try rfl) ?_; go_simp))
  refine wpY_nil ?_
  have HXC := Lib.hid (show Ext ws wc from HXA.out.trans' EC)
  have HCC := Lib.hid (HCA.out.ext EC)
  have HIDC := Lib.hid (own_ext HIDA.out EC)
  have HJOC := Lib.hid (own_ext HJOA.out EC)
  obtain ⟨E3, hE3⟩ := conC_again (room := R2) (H := []) (S := S) HLS.out HE2.out.2.2 HE2.out.1 HE2.out.2.1 HFU.out.1
  have hrdc := HRM.out wc EC
  have HPW := Lib.hid (Content38_any _ d R2 E2 Fa S ka kn kc K none 0 0 [] wc HCC.out (Row.of_own HIDC.out) HKL.out (by omega) HKI.out ⟨rfl, Row.empty _ _, (fun q hq => by cases hq)⟩ (by omega))
  rw [HKE.out, hE3] at HPW
  have HTC := Lib.hid HCC.out.typed
  clear hE3 hck hmi hxc hxb hio EA EB EC HIC HRM HXA HCA HIDA HJOA
  go_wp2_with (first
    | ((with_reducible refine atSlot 92 ?_); refine wpList_of_wp rfl (wp_load_mid (op := ⟨some 92, _, _, _, _, _⟩) 60 _ rfl bm 0 rfl [.int .i64 S, .slice ka kn kc] _ hrdc Try.underlying60 rfl (by kernel_rfl) ?_); clear hrdc)
    | (go_at_call 30; (with_reducible refine HPW.out.mono ?_); rintro en wd ⟨za, zn, zc, rfl, hzo, Fz, hCz, hcz, hFz⟩; have HBZ := Lib.hid (Bytes.of_own hzo); have HBW := Lib.hid (Bytes.of_own (own_chg HJOC.out hcz HTC.out (by decide) (by decide))); have HXD := Lib.hid (show Ext ws wd from ext_chg HXC.out hcz HFA.out); clear hzo hCz hcz hFz)
    | ((with_reducible refine atSlot 109 ?_); refine wpList_of_wp rfl (owp_conv (o := ⟨some 109, _, _, _, _, _⟩) _ rfl rfl HBZ.out Try.underlying42 Try.underlying5 Try.underlying9 ?_))
    | ((with_reducible refine atSlot 111 ?_); refine wpList_of_wp rfl (owp_conv (o := ⟨some 111, _, _, _, _, _⟩) _ rfl rfl HBW.out Try.underlying42 Try.underlying5 Try.underlying9 ?_))
    | fail)
  go_ret
  exact ⟨rfl, HXS.out.trans' HXD.out⟩
end Go.Proofs.Ytpiodpljiklfkaa
