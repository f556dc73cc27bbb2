/-
  Layer region: Reduce.
-/
import Derived.Test.YtejljmikammcdaaGreatDoorJoined9
import Derived.Test.YtejljmikammcdaaGreatDoorReS
namespace Go.Proofs.YtejljmikammcdaaGreatDoor
open Go.RowKit

/-- slices.SortFunc of any holes: what is kept. -/
def SrhO (H : List Pt) (B : Nat) (a : Option Addr) (c : Nat) (w : World) (en : Ending) (w' : World) : Prop :=
  en = .returned (.tuple #[]) ∧ ∃ M : List Pt, M.length = H.length ∧ (∀ q, q ∈ M ↔ q ∈ H) ∧ w'.ownsRow B 103 3 (.slice a H.length c) H.length (M.flatMap encH) ∧ w.grownBy w' (blockOf a)
theorem SortH_any (H : List Pt) (B c : Nat) (a : Option Addr) (w : World) (h : w.ownsRow B 103 3 (.slice a H.length c) H.length (H.flatMap encH)) (hl : H.length < 4611686018427387904) (hn : H = [] → a = none ∧ c = 0) :
    Calls Tryz.prog 45 #[.slice a H.length c, .func (.func 46) #[] #[]] w (SrhO H B a c w) := by
  cases H with
  | nil =>
    obtain ⟨rfl, rfl⟩ := hn rfl
    refine (SortNil_any _ w).mono ?_
    rintro en w' ⟨rfl, hx⟩
    exact ⟨rfl, [], rfl, fun _ => Iff.rfl, own_ext h hx, grown_ext hx⟩
  | cons q H =>
    obtain ⟨g, cur, hv, -⟩ := own_some h (by simp)
    obtain rfl : a = some ⟨g, 0, none⟩ := hv
    refine (SortHoles_any (q :: H) B g c w h hl).mono ?_
    rintro en w' ⟨rfl, M, hp, -, ho, hg⟩
    refine ⟨rfl, M, hp.length_eq, fun _ => hp.mem_iff, ?_, hg⟩
    rw [hp.length_eq] at ho
    exact ho

/-- region.Reduce: what it answers. -/
def RedO (base : Pat) (L : List Pat) (S : Nat) (w : World) (en : Ending) (w' : World) : Prop :=
  ∃ k : Rg, en = .returned k.v ∧ k.b.P = base ∧ RedOk base L (k.hs.map Pt.P) ∧ RgO w' w.heap.size S k ∧ Ext w w'
/-- Between two rounds of the first loop: the meets of the patterns ahead. -/
def RdRel (w2 : World) (B : Pat) (L : List Pt) (S : Nat) (v5 v16 : Value) (wr : World) : Prop :=
  ∃ (j : Nat) (H : List Pt) (a : Option Addr) (c : Nat), v16 = .int .i64 j ∧ v5 = .slice a H.length c ∧ j ≤ L.length ∧ H.length ≤ j ∧ (H = [] → a = none ∧ c = 0) ∧
    wr.ownsRow w2.heap.size 103 3 (.slice a H.length c) H.length (H.flatMap encH) ∧ (∀ q ∈ H, PtO wr w2.heap.size S q ∧ ∃ p ∈ L.take j, meetP B p.P = some q.P) ∧
    (∀ p ∈ L.take j, ∀ m, meetP B p.P = some m → ∃ q ∈ H, q.P = m) ∧ Ext w2 wr
/-- Between two rounds of the second loop: the holes that lie within no other one. -/
def RxRel (w2 : World) (k : Pt) (N : List Pt) (n : Nat) (a : Option Addr) (c g S : Nat) (v44 : Value) (wr : World) : Prop :=
  ∃ (j : Nat) (G : List Pt) (a' : Option Addr) (c' : Nat), v44 = .int .i64 j ∧ j ≤ n ∧ G.length ≤ j ∧ wr.heap[g]? = some (.cells #[.slice k.a k.n k.c, .bool k.P.rest, .slice a' G.length c'] 55) ∧
    wr.ownsRow w2.heap.size 39 2 (.slice a' G.length c') G.length (G.flatMap Pt.cells) ∧ wr.ownsRow w2.heap.size 103 3 (.slice a n c) n (N.flatMap encH) ∧
    (∀ q ∈ N, PtO wr w2.heap.size S q) ∧ PtO wr w2.heap.size S k ∧ (∀ q ∈ G, q ∈ N ∧ ¬ ∃ o ∈ N, WitT q o) ∧ (∀ i q, i < j → N[i]? = some q → (¬ ∃ o ∈ N, WitT q o) → q ∈ G) ∧ Ext w2 wr
theorem rgo_keep {w w' : World} {B S e s n c : Nat} {a : Option Addr} {xs : List Value} {k : Pt} (h : PtO w B S k) (h' : w.ownsRow B e s (.slice a n c) n xs) (ht : 9 ≠ e) (hg : w.grownBy w' (blockOf a)) : PtO w' B S k := ⟨own_app_other h.own h' ht hg, h.small⟩
theorem red_of {base : Pat} {L H N G : List Pt} (hb : OkP base) (hp : ∀ p ∈ L, OkP p.P) (h1 : ∀ q ∈ H, ∃ p ∈ L, meetP base p.P = some q.P) (h2 : ∀ p ∈ L, ∀ m, meetP base p.P = some m → ∃ q ∈ H, q.P = m)
    (h3 : ∀ q ∈ N, q ∈ H) (h4 : ∀ q ∈ H, ∃ r ∈ N, textP r.P = textP q.P) (h5 : ∀ q ∈ G, q ∈ N ∧ ¬ ∃ o ∈ N, WitT q o) (h6 : ∀ q ∈ N, (¬ ∃ o ∈ N, WitT q o) → q ∈ G) (hl : G.length ≤ L.length) : RedOk base (L.map Pt.P) (G.map Pt.P) := by
  have hok : ∀ q ∈ H, OkP q.P := fun q hq => by
    obtain ⟨p, -, hm⟩ := h1 q hq
    exact (meetP_some hm).1
  have key : ∀ q ∈ N, (¬ ∃ o ∈ N, WitT q o) ↔ ∀ o ∈ N, o.P ≠ q.P → insideL q.P.parts q.P.rest o.P.parts o.P.rest = false := fun q hq => by
    constructor
    · intro h o ho hne
      cases hi : insideL q.P.parts q.P.rest o.P.parts o.P.rest with
      | false => rfl
      | true => exact absurd ⟨o, ho, fun ht => hne (textP_inj (hok o (h3 o ho)) (hok q (h3 q hq)) ht), hi⟩ h
    · rintro h ⟨o, ho, h7, h8⟩
      rw [h o ho (fun e => h7 (by rw [e]))] at h8; cases h8
  refine red_ok (ms := N.map Pt.P) hb (fun p hp' => ?_) (fun h => ?_) (fun h => ?_) (by rw [List.length_map, List.length_map]; exact hl)
  · obtain ⟨q, hq, rfl⟩ := List.mem_map.1 hp'
    exact hp q hq
  · constructor
    · intro hh
      obtain ⟨q, hq, rfl⟩ := List.mem_map.1 hh
      obtain ⟨p, h7, h8⟩ := h1 q (h3 q hq)
      exact ⟨p.P, List.mem_map_of_mem h7, h8⟩
    · rintro ⟨p, hp', hm⟩
      obtain ⟨p, hpl, rfl⟩ := List.mem_map.1 hp'
      obtain ⟨q, hq, rfl⟩ := h2 p hpl h hm
      obtain ⟨r, hr, ht⟩ := h4 q hq
      rw [← textP_inj (hok r (h3 r hr)) (hok q hq) ht]
      exact List.mem_map_of_mem hr
  · constructor
    · intro hh
      obtain ⟨q, hq, rfl⟩ := List.mem_map.1 hh
      obtain ⟨h7, h8⟩ := h5 q hq
      refine ⟨List.mem_map_of_mem h7, fun o ho hne => ?_⟩
      obtain ⟨o, hol, rfl⟩ := List.mem_map.1 ho
      exact (key q h7).1 h8 o hol hne
    · rintro ⟨hh, h7⟩
      obtain ⟨q, hq, rfl⟩ := List.mem_map.1 hh
      exact List.mem_map_of_mem (h6 q hq ((key q hq).2 fun o ho hne => h7 o.P (List.mem_map_of_mem ho) hne))
set_option maxRecDepth 100000 in
set_option maxHeartbeats 8000000 in
theorem Reduce_any (k : Pt) (a0 : Option Addr) (c0 : Nat) (L : List Pt) (S : Nat) (w : World) (hk : PtI w S k) (hL : PtsI w S a0 c0 L) (hok : OkP k.P) (hol : ∀ q ∈ L, OkP q.P) (hS : S ≤ 1073741824) (hll : L.length ≤ 1073741824) :
    Calls Tryz.prog 18 #[k.v, .slice a0 L.length c0] w (RedO k.P (L.map Pt.P) S w) := by
  have HROW := Lib.hid fun w' (h : Ext w w') => hL.row.ext h
  have HME := Lib.hid fun (q : Pt) (hq : q ∈ L) w' (h : Ext w w') => Meet_any k q S w' (hk.ext h) ((hL.each q hq).ext h) hS
  have HTX := Lib.hid fun (q : Pt) w' (hq : PtI w' S q) (hn : q.n ≤ 12) => Text_any q S w' hq hn hS
  have HCO := Lib.hid fun w' (h : Ext w w') => Copy_any k S w' (hk.ext h) (by have := hok.le; have := hk.len; omega)
  have HKO := Lib.hid hok
  have HOL := Lib.hid hol
  have eg : ∀ args w, (callFunc 50 args).run Tryz.prog w = .ok (.enter 50 args) w := enters_of Tryz.func50 (by kernel_rfl) rfl
  have HEG := Lib.hid eg
  clear hk hL hok hol eg
  obtain ⟨ka, kn, kc, kP⟩ := k
  obtain ⟨post, hpo⟩ : ∃ p : Ending → World → Prop, p = RedO kP (L.map Pt.P) S w := ⟨_, rfl⟩
  show Calls _ _ _ _ (RedO kP (L.map Pt.P) S w)
  rw [← hpo]
  have HPO := Lib.hid hpo
  have HX := Lib.hid (two_boxes w #[.slice ka kn kc, .bool kP.rest] #[.slice none 0 0, .bool false, .slice none 0 0] 39 55)
  clear hpo
  go_enter Tryz.func18, Tryz.ntmps18
  go_upto_region 1 with fail
  generalize (w.alloc (.cells #[.slice ka kn kc, .bool kP.rest] 39)).alloc (.cells #[.slice none 0 0, .bool false, .slice none 0 0] 55) = w2 at HX ⊢
  obtain ⟨hx2, hh1, hh2⟩ := HX.out
  have HX2 := Lib.hid hx2
  have HB1 := Lib.hid hh1
  have HB2 := Lib.hid hh2
  obtain ⟨b, hb⟩ : ∃ b, b = w.heap.size := ⟨_, rfl⟩
  rw [← hb] at HB1 HB2 ⊢
  have HBB := Lib.hid hb
  have hb2 : b + 1 < w2.heap.size := (Array.getElem?_eq_some_iff.1 (by rw [hb]; exact hh2)).1
  clear hx2 hh1 hh2 HX hb
  go_upto_region 3 with fail
  go_loopw [5, 16] (RdRel w2 kP L S) (fun _ i _ => L.length - (intOf i).toNat)
  case atStart => exact ⟨0, [], none, 0, rfl, rfl, Nat.zero_le _, Nat.zero_le _, fun _ => ⟨rfl, rfl⟩, own_nil _ _ _ _, (fun _ h => nomatch h), (fun p h => by simp at h), Below.refl _ _⟩
  case round =>
    obtain ⟨j, H, a, c, rfl, rfl, hj, hHj, hnil, hown, hin, hall, hx⟩ := hrel
    rename World => wd
    have HXD := Lib.hid (show Ext w2 wd from hx)
    have HOW := Lib.hid hown
    have HIN := Lib.hid hin
    have HALL := Lib.hid hall
    have HNIL := Lib.hid hnil
    clear hx hown hin hall hnil
    by_cases hjl : j < L.length
    · obtain ⟨p, hp⟩ : ∃ p, L[j]? = some p := ⟨_, List.getElem?_eq_getElem hjl⟩
      have HP := Lib.hid hp
      have HPM := Lib.hid (List.mem_of_getElem? hp)
      have HTK := Lib.hid (show L.take (j + 1) = L.take j ++ [p] by rw [List.take_add_one, hp]; rfl)
      have HXW := Lib.hid (HX2.out.trans' HXD.out)
      have hrow := HROW.out wd HXW.out
      have HPN := Lib.hid (put_new wd #[.slice none 0 0, .bool false] #[.slice p.a p.n p.c, .bool p.P.rest] 39)
      have HNN := Lib.hid (heap_alloc_new wd (.cells #[.slice none 0 0, .bool false] 39))
      have hr21 := (box2 (HPN.out.1.heap' (HXD.out.heap' HB1.out))).2.2
      have hr22 := (box2 HPN.out.2).2.2
      obtain ⟨M, hM⟩ : ∃ M, M = meetP kP p.P := ⟨_, rfl⟩
      have HM := Lib.hid hM
      have HME' := Lib.hid (show ∀ w', Ext w w' → Calls Tryz.prog 43 #[.agg #[.slice ka kn kc, .bool kP.rest], .agg #[.slice p.a p.n p.c, .bool p.P.rest]] w' (fun en w'' => ∃ r : Pt, en = .returned (.tuple #[r.v, .bool M.isSome]) ∧ (∀ m, M = some m → r.P = m) ∧ PtO w'' w'.heap.size S r ∧ Ext w' w'') from by rw [hM]; exact HME.out p HPM.out)
      clear hp hM
      go_upto_region 6 with (first
        | ((with_reducible refine atSlot 18 ?_); refine wpList_of_wp rfl (owp_ix (o := ⟨some 18, _, _, _, _, _⟩) _ _ rfl Tryz.elPat rfl hrow j rfl rfl hjl ?_); intro b1 o1 hc2; have hd := flat_range pt_two HP.out hc2; clear hc2 hrow)
        | ((with_reducible refine atSlot 19 ?_); refine wpList_of_wp rfl (wp_load_mid (op := ⟨some 19, _, _, _, _, _⟩) 39 _ rfl b1 o1 rfl [.slice p.a p.n p.c, .bool p.P.rest] _ hd Tryz.underlying39 rfl (by kernel_rfl) ?_); clear hd)
        | ((with_reducible refine atStore 7 ?_); refine wpList_of_wp rfl (wp_store_row (o := ⟨none, _, _, _, _, _⟩) _ _ _ rfl wd.heap.size #[.slice p.a p.n p.c, .bool p.P.rest] rfl rfl _ _ HNN.out (by kernel_rfl) rfl (by simp [Value.oneCell']) ?_))
        | ((with_reducible refine atSlot 21 ?_); refine wpList_of_wp rfl (wp_load_mid (op := ⟨some 21, _, _, _, _, _⟩) 39 _ rfl b 0 rfl [.slice ka kn kc, .bool kP.rest] _ hr21 Tryz.underlying39 rfl (by kernel_rfl) ?_); clear hr21)
        | ((with_reducible refine atSlot 22 ?_); refine wpList_of_wp rfl (wp_load_mid (op := ⟨some 22, _, _, _, _, _⟩) 39 _ rfl wd.heap.size 0 rfl [.slice p.a p.n p.c, .bool p.P.rest] _ hr22 Tryz.underlying39 rfl (by kernel_rfl) ?_); clear hr22)
        | (go_at_call 43; (with_reducible refine (HME'.out _ (HXW.out.trans' HPN.out.1)).mono ?_); rintro en w5 ⟨⟨ma, mn, mc, mP⟩, rfl, h2, h3, hx5⟩; have HM2 := Lib.hid h2; have HMP := Lib.hid h3; have HX5 := Lib.hid (HPN.out.1.trans' hx5); have HP5 := Lib.hid (put_new w5 #[.slice none 0 0, .bool false] #[.slice ma mn mc, .bool mP.rest] 39); have hn5 := heap_alloc_new w5 (.cells #[.slice none 0 0, .bool false] 39); clear h2 h3 hx5)
        | ((with_reducible refine atStore 8 ?_); refine wpList_of_wp rfl (wp_store_row (o := ⟨none, _, _, _, _, _⟩) _ _ _ rfl w5.heap.size #[.slice ma mn mc, .bool mP.rest] rfl rfl _ _ hn5 (by kernel_rfl) rfl (by simp [Value.oneCell']) ?_); clear hn5)
        | fail)
      have HSZ := Lib.hid (show w2.heap.size ≤ ((wd.alloc (.cells #[.slice none 0 0, .bool false] 39)).setRow wd.heap.size #[.slice p.a p.n p.c, .bool p.P.rest]).heap.size from Nat.le_trans HXD.out.size HPN.out.1.size)
      generalize (w5.alloc (.cells #[.slice none 0 0, .bool false] 39)).setRow w5.heap.size #[.slice ma mn mc, .bool mP.rest] = w6 at HP5 ⊢
      obtain ⟨hx6, hb6⟩ := HP5.out
      have HX6 := Lib.hid (HX5.out.trans' hx6)
      have HF6 := Lib.hid hb6
      have HMQ := Lib.hid ((HMP.out.ext hx6).base HSZ.out)
      generalize w5.heap.size = g5 at HF6 ⊢
      clear hx6 hb6 HP5 HMP HX5 HPN HNN
      cases M with
      | none =>
        go_wp2
        refine ⟨⟨j + 1, H, a, c, by go_num, rfl, hjl, by omega, HNIL.out, own_ext HOW.out HX6.out, fun q hq => ?_, fun q hq m hm => ?_, HXD.out.trans' HX6.out⟩, by simp [intOf]; omega⟩
        · obtain ⟨h1, p', h2, h3⟩ := HIN.out q hq
          exact ⟨h1.ext HX6.out, p', by rw [HTK.out]; exact List.mem_append_left _ h2, h3⟩
        · rw [HTK.out] at hq
          rcases List.mem_append.1 hq with hq | hq
          · exact HALL.out q hq m hm
          · obtain rfl : q = p := by simpa using hq
            rw [← HM.out] at hm; cases hm
      | some m =>
        obtain rfl : mP = m := HM2.out m rfl
        have hmn : mn ≤ 12 := by have h1 := (meetP_some HM.out.symm).1.le; have h2 : mP.parts.length = mn := HMQ.out.i.len; omega
        have E6 := Ext.drew' w6
        have HF7 := Lib.hid (E6.heap' HF6.out)
        go_upto_region 7 with fail
        refine wp_region_z (fun w' => w'.heap[g5]? = some (.cells #[.slice ma mn mc, .bool mP.rest] 39)) HF7.out [] (.qs [0, 1, 2] (.l 3 (.qs [4] (.l 5 (.l 6 (.qs [7] .nil)))))) (by kernel_rfl) (by kernel_rfl) ?_
        ((refine wpZ_q rfl rfl _ (fun w' hx' => by go_simp; try rfl) ?_; go_simp))
        refine wpZ_q rfl rfl (.agg #[.slice ma mn mc, .bool mP.rest]) (fun w' hx' => by obtain ⟨d0, d1, -⟩ := box2 hx'; go_simp; try rfl) ?_
        go_simp
        refine wpZ_q rfl rfl (.agg #[.slice ma mn mc, .bool mP.rest]) (fun w' hx' => by obtain ⟨d0, d1, -⟩ := box2 hx'; go_simp; try rfl) ?_
        go_simp
        refine wpZ_l rfl rfl ?_
        go_simp
        refine (HTX.out ⟨ma, mn, mc, mP⟩ _ (HMQ.out.i.ext E6) hmn).mono ?_
        rintro en w7 ⟨rfl, hx7⟩
        have HX7 := Lib.hid (E6.trans' hx7)
        refine ⟨HX7.out.heap' HF6.out, ?_⟩
        clear hx7
        go_simp
        ((refine wpZ_q rfl rfl _ (fun w' hx' => by go_simp; try rfl) ?_; go_simp))
        go_simp
        refine wpZ_l rfl rfl ?_
        go_simp
        have hal := Ext.alloc' w7 (.cells #[.slice ma mn mc, .bool mP.rest, .string (bs (textP mP))] 103)
        have hrn := Row.new w7 #[.slice ma mn mc, .bool mP.rest, .string (bs (textP mP))] 103 1 3 rfl (by decide)
        generalize w7.alloc (.cells #[.slice ma mn mc, .bool mP.rest, .string (bs (textP mP))] 103) = w8 at hal hrn ⊢
        have hx8 := HX7.out.trans' hal
        refine ⟨hx8.heap' HF6.out, ?_⟩
        have hx28 := HXD.out.trans' (HX6.out.trans' hx8)
        have hob := own_ext HOW.out (HX6.out.trans' hx8)
        refine wpZ_l rfl rfl (owp_app (.tmp 27) (.tmp 32) rfl Tryz.elHole rfl hob rfl hrn (encH_one ⟨ma, mn, mc, mP⟩) (by omega) (by unfold maxLen; omega) hx28.size ?_)
        intro a9 c9 w9 ho9 hg9
        have hb9 := box_app (hx8.heap' HF6.out) hob (by decide) hg9
        have HO9 := Lib.hid ho9
        have HX9 := Lib.hid (below_app hx28 hob hg9 hx28.size)
        have HK9 := Lib.hid fun (q : Pt) (h : PtO w8 w2.heap.size S q) => rgo_keep h hob (by decide) hg9
        refine ⟨fun _ => hb9, ?_⟩
        have HX68 := Lib.hid hx8
        clear ho9 hg9 hb9 hob hrn hal hx28 hx8 E6
        go_simp
        ((refine wpZ_q rfl rfl _ (fun w' hx' => by go_simp; try rfl) ?_; go_simp))
        refine wpZ_nil ?_
        go_wp2
        refine ⟨⟨j + 1, H ++ [⟨ma, mn, mc, mP⟩], a9, c9, by go_num, by rw [List.length_append]; rfl, hjl, by rw [List.length_append]; show H.length + 1 ≤ j + 1; omega, (fun h => by simp at h), ?_, fun q hq => ?_, fun q hq m' hm => ?_, HX9.out⟩, by simp [intOf]; omega⟩
        · rw [List.length_append, List.flatMap_append]
          exact HO9.out
        · rcases List.mem_append.1 hq with hq | hq
          · obtain ⟨h1, p', h2, h3⟩ := HIN.out q hq
            exact ⟨HK9.out q (h1.ext (HX6.out.trans' HX68.out)), p', by rw [HTK.out]; exact List.mem_append_left _ h2, h3⟩
          · obtain rfl : q = ⟨ma, mn, mc, mP⟩ := by simpa using hq
            exact ⟨HK9.out _ (HMQ.out.ext HX68.out), p, by rw [HTK.out]; simp, HM.out.symm⟩
        · rw [HTK.out] at hq
          rcases List.mem_append.1 hq with hq | hq
          · obtain ⟨r, h1, h2⟩ := HALL.out q hq m' hm
            exact ⟨r, List.mem_append_left _ h1, h2⟩
          · obtain rfl : q = p := by simpa using hq
            rw [← HM.out] at hm; cases hm
            exact ⟨⟨ma, mn, mc, mP⟩, by simp, rfl⟩
    · obtain rfl : j = L.length := by omega
      have HMS := Lib.hid (show ∀ q ∈ H, ∃ p ∈ L, meetP kP p.P = some q.P from fun q hq => by
        obtain ⟨-, p, h1, h2⟩ := HIN.out q hq
        exact ⟨p, by rwa [List.take_length] at h1, h2⟩)
      have HPW := Lib.hid (show ∀ q ∈ H, PtO wd w2.heap.size S q from fun q hq => (HIN.out q hq).1)
      have HAL := Lib.hid (show ∀ p ∈ L, ∀ m, meetP kP p.P = some m → ∃ q ∈ H, q.P = m from fun p hp => HALL.out p (by rw [List.take_length]; exact hp))
      have HSO := Lib.hid (SortH_any H w2.heap.size c a wd HOW.out (by omega) HNIL.out)
      clear HIN HALL HNIL
      go_upto_region 10 with (first
        | (go_at_call 45; (with_reducible refine HSO.out.mono ?_); rintro en w3 ⟨rfl, N0, hlen, hmem, ho3, hg3⟩)
        | fail)
      have HLN := Lib.hid hlen
      have HMEM := Lib.hid hmem
      have HX3 := Lib.hid (show Ext w2 w3 from below_app HXD.out HOW.out hg3 HXD.out.size)
      have HK3 := Lib.hid fun (q : Pt) (hq : q ∈ H) => rgo_keep (HPW.out q hq) HOW.out (by decide) hg3
      have HO3 := Lib.hid ho3
      have HCC := Lib.hid (show Calls Tryz.prog 48 #[.slice a H.length c, .func (.func 49) #[] #[]] w3 (CmpcO N0 w2.heap.size c a w3) from by
        have := Compact_any N0 w2.heap.size c a w3 (by rw [hlen]; exact ho3) (by omega)
        rwa [hlen] at this)
      clear hlen hmem ho3 hg3
      go_upto_region 11 with (first
        | (go_at_call 48; (with_reducible refine HCC.out.mono ?_); rintro en w4 ⟨N, rfl, ho4, h4, h5, h6, hg4⟩)
        | fail)
      have HX4 := Lib.hid (show Ext w2 w4 from below_app HX3.out HO3.out hg4 HX3.out.size)
      have HNH := Lib.hid (show ∀ q ∈ N, q ∈ H from fun q hq => (HMEM.out q).1 (h4 q hq))
      have HNT := Lib.hid (show ∀ q ∈ H, ∃ r ∈ N, textP r.P = textP q.P from fun q hq => h5 q ((HMEM.out q).2 hq))
      have HK4 := Lib.hid (show ∀ q ∈ N, PtO w4 w2.heap.size S q from fun q hq => rgo_keep (HK3.out q (HNH.out q hq)) HO3.out (by decide) hg4)
      have HNL := Lib.hid (show N.length ≤ H.length by rw [← HLN.out]; exact h6)
      have HO4 := Lib.hid ho4
      have hr39 := (box2 (HX4.out.heap' HB1.out)).2.2
      clear ho4 h4 h5 h6 hg4
      go_upto_region 12 with (first
        | ((with_reducible refine atSlot 39 ?_); refine wpList_of_wp rfl (wp_load_mid (op := ⟨some 39, _, _, _, _, _⟩) 39 _ rfl b 0 rfl [.slice ka kn kc, .bool kP.rest] _ hr39 Tryz.underlying39 rfl (by kernel_rfl) ?_); clear hr39)
        | (go_at_call 20; (with_reducible refine (HCO.out _ (HX2.out.trans' HX4.out)).mono ?_); rintro en w5 ⟨⟨da, dn, dc, dP⟩, h7, rfl, h8, hx5⟩; have HD := Lib.hid h8; have HDP := Lib.hid h7; have HX5 := Lib.hid hx5; have HP5 := Lib.hid (put_new w5 #[.slice none 0 0, .bool false, .slice none 0 0] #[.slice da dn dc, .bool dP.rest, .slice none 0 0] 55); have hn5 := heap_alloc_new w5 (.cells #[.slice none 0 0, .bool false, .slice none 0 0] 55); clear h7 h8 hx5)
        | ((with_reducible refine atStore 10 ?_); refine wpList_of_wp rfl (wp_store_row (o := ⟨none, _, _, _, _, _⟩) _ _ _ rfl w5.heap.size #[.slice da dn dc, .bool dP.rest, .slice none 0 0] rfl rfl _ _ hn5 (by kernel_rfl) rfl (by simp [Value.oneCell']) ?_); clear hn5)
        | fail)
      have HG5 := Lib.hid (show w2.heap.size ≤ w5.heap.size from (HX4.out.trans' HX5.out).size)
      generalize (w5.alloc (.cells #[.slice none 0 0, .bool false, .slice none 0 0] 55)).setRow w5.heap.size #[.slice da dn dc, .bool dP.rest, .slice none 0 0] = w6 at HP5 ⊢
      obtain ⟨hx6, hb6⟩ := HP5.out
      have HX6 := Lib.hid (HX5.out.trans' hx6)
      have HX26 := Lib.hid (HX4.out.trans' HX6.out)
      have HD6 := Lib.hid ((HD.out.ext hx6).base HX4.out.size)
      have HF6 := Lib.hid hb6
      generalize w5.heap.size = g at HF6 HG5 ⊢
      clear hx6 hb6 HP5 HD HX5 HCC HSO
      have hNl : N.length ≤ 1073741824 := by have := HNL.out; omega
      go_upto_region 13 with fail
      go_loopw [44] (RxRel w2 ⟨da, dn, dc, dP⟩ N N.length a c g S) (fun i _ => N.length - (intOf i).toNat)
      case atStart => exact ⟨0, [], none, 0, rfl, Nat.zero_le _, Nat.le_refl _, HF6.out, own_nil _ _ _ _, own_ext HO4.out HX6.out, fun q hq => (HK4.out q hq).ext HX6.out, HD6.out, (fun _ h => nomatch h), fun i q h => by omega, HX26.out⟩
      case round =>
        obtain ⟨j, G, a', c', rfl, hj', hGj, hbox, hog, hon, hNP, hkO, hG1, hG2, hx⟩ := hrel
        rename World => wf
        have HXF := Lib.hid (show Ext w2 wf from hx)
        have HBX := Lib.hid hbox
        have HOG := Lib.hid hog
        have HON := Lib.hid hon
        have HNP := Lib.hid hNP
        have HKQ := Lib.hid hkO
        have HG1 := Lib.hid hG1
        have HG2 := Lib.hid hG2
        clear hx hbox hog hon hNP hkO hG1 hG2
        by_cases hjn : j < N.length
        · obtain ⟨q, hq⟩ : ∃ q, N[j]? = some q := ⟨_, List.getElem?_eq_getElem hjn⟩
          have HQ := Lib.hid hq
          have HQN := Lib.hid (List.mem_of_getElem? hq)
          clear hq
          have hrow := Row.of_own HON.out
          have HPN := Lib.hid (put_new wf #[.slice none 0 0, .bool false, .string ⟨#[]⟩] #[.slice q.a q.n q.c, .bool q.P.rest, .string (bs (textP q.P))] 103)
          have HNN := Lib.hid (heap_alloc_new wf (.cells #[.slice none 0 0, .bool false, .string ⟨#[]⟩] 103))
          have HCH := Lib.hid (ContainsH_any 50 #[.pointer (some ⟨wf.heap.size, 0, none⟩)] HEG.out (WitT q) a c N _ (hrow.ext HPN.out.1) (fun o ho W hW => Reduce3_any o q wf.heap.size S W
            (((HNP.out o ho).ext (HPN.out.1.trans' hW)).i) (((HNP.out q HQN.out).ext (HPN.out.1.trans' hW)).i) hS (hW.heap' HPN.out.2)))
          go_upto_if 53 with (first
            | ((with_reducible refine atSlot 47 ?_); refine wpList_of_wp rfl (owp_ix (o := ⟨some 47, _, _, _, _, _⟩) _ _ rfl Tryz.elHole rfl hrow j rfl rfl hjn ?_); intro b1 o1 hc2; have hd := flat_range encH_three HQ.out hc2; clear hc2 hrow)
            | ((with_reducible refine atSlot 48 ?_); refine wpList_of_wp rfl (wp_load_mid (op := ⟨some 48, _, _, _, _, _⟩) 103 _ rfl b1 o1 rfl [.slice q.a q.n q.c, .bool q.P.rest, .string (bs (textP q.P))] _ hd Tryz.underlying103 rfl (by kernel_rfl) ?_); clear hd)
            | ((with_reducible refine atStore 12 ?_); refine wpList_of_wp rfl (wp_store_row (o := ⟨none, _, _, _, _, _⟩) _ _ _ rfl wf.heap.size #[.slice q.a q.n q.c, .bool q.P.rest, .string (bs (textP q.P))] rfl rfl _ _ HNN.out (by kernel_rfl) rfl (by simp [Value.oneCell']) ?_))
            | (go_at_call 52; (with_reducible refine HCH.out.mono ?_); rintro en wg ⟨f, rfl, hf, hxg⟩; have HF := Lib.hid hf; have HXG := Lib.hid (HPN.out.1.trans' hxg); clear hf hxg)
            | fail)
          have HXR := Lib.hid (HXF.out.trans' HXG.out)
          cases f with
          | true =>
            have HW := Lib.hid (HF.out.1 (by first | rfl | trivial))
            go_wp2
            refine ⟨⟨j + 1, G, a', c', by go_num, hjn, by omega, HXG.out.heap' HBX.out, own_ext HOG.out HXG.out, own_ext HON.out HXG.out, fun o ho => (HNP.out o ho).ext HXG.out, HKQ.out.ext HXG.out, HG1.out, fun i r hi hr hn => ?_, HXR.out⟩, by simp [intOf]; omega⟩
            by_cases h : i < j
            · exact HG2.out i r h hr hn
            · obtain rfl : i = j := by omega
              rw [HQ.out] at hr; cases hr; exact absurd HW.out hn
          | false =>
            have HW := Lib.hid (show ¬ ∃ o ∈ N, WitT q o from fun h => by have := HF.out.2 h; cases this)
            have EG := Ext.drew' wg
            have HB3 := Lib.hid (EG.heap' (HXG.out.heap' HBX.out))
            have HN3 := Lib.hid (own_ext (own_ext HON.out HXG.out) EG)
            have HG3 := Lib.hid (own_ext (own_ext HOG.out HXG.out) EG)
            have HX3' := Lib.hid (HXR.out.trans' EG)
            go_upto_region 17 with fail
            refine wp_region_z (fun w' => w'.heap[g]? = some (.cells #[.slice da dn dc, .bool dP.rest, .slice a' G.length c'] 55) ∧ w'.ownsRow w2.heap.size 103 3 (.slice a N.length c) N.length (N.flatMap encH)) ⟨HB3.out, HN3.out⟩ [10] (.qs [0, 1, 2, 3, 4, 5, 6] (.l 7 (.l 8 (.qs [9] (.l 10 .nil))))) (by kernel_rfl) (by kernel_rfl) ?_
            ((refine wpZ_q rfl rfl _ (fun w' hx' => by go_simp; try rfl) ?_; go_simp))
            refine wpZ_q rfl rfl (.slice a' G.length c') (fun w' hx' => by have hb' := (box3 hx'.1).2.1; go_simp; try rfl) ?_
            go_simp
            ((refine wpZ_q rfl rfl _ (fun w' hx' => by go_simp; try rfl) ?_; go_simp))
            ((refine wpZ_q rfl rfl _ (fun w' hx' => by go_simp; try rfl) ?_; go_simp))
            refine wpZ_ix rfl rfl (.tmp 56) (.tmp 57) rfl Tryz.elHole rfl (fun w' h => Row.of_own h.2) ⟨HB3.out, HN3.out⟩ j rfl rfl hjn ?_
            intro b4 o4 hc4
            have HC4 := Lib.hid hc4
            clear hc4
            go_simp
            ((refine wpZ_q rfl rfl _ (fun w' hx' => by go_simp; try rfl) ?_; go_simp))
            refine wpZ_q rfl rfl (.agg #[.slice q.a q.n q.c, .bool q.P.rest]) (fun w' hx' => by obtain ⟨d0, d1, -⟩ := hole_at HQ.out (fun i hi => HC4.out i hi w' hx'); go_simp; try rfl) ?_
            go_simp
            refine wpZ_l rfl rfl ?_
            go_simp
            have hal := Ext.alloc' wg (.cells #[.slice q.a q.n q.c, .bool q.P.rest] 39)
            have hrn := (Row.new wg #[.slice q.a q.n q.c, .bool q.P.rest] 39 1 2 rfl (by decide)).ext (Ext.drew' _)
            have E8 := hal.trans' (Ext.drew' _)
            generalize (wg.alloc (.cells #[.slice q.a q.n q.c, .bool q.P.rest] 39)).drew = wh at E8 hrn ⊢
            have hx8 := HXG.out.trans' E8
            have hx28 := HXF.out.trans' hx8
            have hob := own_ext HOG.out hx8
            have hbx := hx8.heap' HBX.out
            have hon := own_ext HON.out hx8
            refine ⟨⟨hbx, hon⟩, ?_⟩
            refine wpZ_l rfl rfl (owp_app (.tmp 55) (.tmp 61) rfl Tryz.elPat rfl hob rfl hrn (pt_one q) (by omega) (by unfold maxLen; omega) hx28.size ?_)
            intro a9 c9 w9 ho9 hg9
            have hb9 := box_app hbx hob (by decide) hg9
            have hn9 := own_app_other hon hob (by decide) hg9
            have hx9 : Ext w2 w9 := below_app hx28 hob hg9 hx28.size
            have HK9 := Lib.hid fun (o : Pt) (h : PtO wh w2.heap.size S o) => rgo_keep h hob (by decide) hg9
            refine ⟨fun _ => ⟨hb9, hn9⟩, ?_⟩
            go_simp
            ((refine wpZ_q rfl rfl _ (fun w' hx' => by go_simp; try rfl) ?_; go_simp))
            refine wpZ_l rfl rfl (owp_st1 _ _ _ rfl g 2 (.slice a9 (G.length + 1) c9) rfl rfl rfl (box_there hb9 (by simp)) (by kernel_rfl) rfl ?_)
            refine ⟨fun h => absurd h (by decide), wpZ_nil ?_⟩
            have hgr := grown_setCell' w9 g 2 (.slice a9 (G.length + 1) c9)
            have HA := Lib.hid (box_set (i := 2) hb9 (.slice a9 (G.length + 1) c9))
            have HB := Lib.hid (own_other ho9 hgr (fun e => own_apart ho9 hb9 (by decide) e.symm))
            have HC := Lib.hid (own_other hn9 hgr (fun e => own_apart hn9 hb9 (by decide) e.symm))
            have HD := Lib.hid fun (o : Pt) (h : PtO w9 w2.heap.size S o) => (show PtO (w9.setCell ⟨g, 2, none⟩ (.slice a9 (G.length + 1) c9)) w2.heap.size S o from ⟨own_other h.own hgr (fun e => own_apart h.own hb9 (by decide) e.symm), h.small⟩)
            have HE := Lib.hid (show Ext w2 (w9.setCell ⟨g, 2, none⟩ (.slice a9 (G.length + 1) c9)) from Ext.rd hx9 hgr HG5.out)
            have HX8 := Lib.hid hx8
            clear hgr hb9 hn9 hx9 ho9 hg9 hob hbx hon hx28 hx8 E8 hrn hal EG
            generalize w9.setCell ⟨g, 2, none⟩ (.slice a9 (G.length + 1) c9) = w10 at HA HB HC HD HE ⊢
            go_wp2
            refine ⟨⟨j + 1, G ++ [q], a9, c9, by go_num, hjn, by rw [List.length_append]; show G.length + 1 ≤ j + 1; omega, ?_, ?_, HC.out, fun o ho => HD.out o (HK9.out o ((HNP.out o ho).ext HX8.out)), HD.out _ (HK9.out _ (HKQ.out.ext HX8.out)), fun o ho => ?_, fun i r hi hr hn => ?_, HE.out⟩, by simp [intOf]; omega⟩
            · rw [List.length_append]; exact HA.out
            · rw [List.length_append, List.flatMap_append]; exact HB.out
            · rcases List.mem_append.1 ho with ho | ho
              · exact HG1.out o ho
              · obtain rfl : o = q := by simpa using ho
                exact ⟨HQN.out, HW.out⟩
            · by_cases h : i < j
              · exact List.mem_append_left _ (HG2.out i r h hr hn)
              · obtain rfl : i = j := by omega
                rw [HQ.out] at hr; cases hr; simp
        · have hr65 := (box3 HBX.out).2.2
          have HH2 := Lib.hid (HXF.out.heap' HB2.out)
          have hjN : j = N.length := by omega
          go_wp2_with (first
            | ((with_reducible refine atSlot 65 ?_); refine wpList_of_wp rfl (wp_load_mid (op := ⟨some 65, _, _, _, _, _⟩) 55 _ rfl g 0 rfl [.slice da dn dc, .bool dP.rest, .slice a' G.length c'] _ hr65 Tryz.underlying55 rfl (by kernel_rfl) ?_); clear hr65)
            | ((with_reducible refine atStore 4 ?_); refine wpList_of_wp rfl (wp_store_row (o := ⟨none, _, _, _, _, _⟩) _ _ _ rfl (b + 1) #[.slice da dn dc, .bool dP.rest, .slice a' G.length c'] rfl rfl _ _ HH2.out (by kernel_rfl) rfl (by simp [Value.oneCell']) ?_))
            | fail)
          refine bodyPost_ret (results_cells rfl _ (b + 1) [.slice da dn dc, .bool dP.rest, .slice a' G.length c'] _ rfl (fun j v hj => by have h := (box3 (setRow_heap _ _ _ _ _ _ HH2.out)).2.2 j v hj; rwa [Nat.zero_add] at h) Tryz.underlying55 rfl (by kernel_rfl)) rfl ?_
          rw [HPO.out]
          have hgr := grown_setRow wf (b + 1) #[.slice da dn dc, .bool dP.rest, .slice a' G.length c']
          have hkp : ∀ o, PtO wf w2.heap.size S o → PtO (wf.setRow (b + 1) #[.slice da dn dc, .bool dP.rest, .slice a' G.length c']) w.heap.size S o := fun o h =>
            ⟨own_other (own_base h.own HX2.out.size) hgr (fun e => own_apart h.own HH2.out (by decide) e.symm), h.small⟩
          refine ⟨⟨⟨da, dn, dc, dP⟩, a', c', G⟩, rfl, HDP.out, red_of HKO.out HOL.out HMS.out HAL.out HNH.out HNT.out HG1.out (fun q hq hn => ?_) (by have := HNL.out; show G.length ≤ L.length; omega), ⟨hkp _ HKQ.out, ⟨own_other (own_base HOG.out HX2.out.size) hgr (fun e => own_apart HOG.out HH2.out (by decide) e.symm), fun q hq => hkp q (HNP.out q (HG1.out q hq).1)⟩⟩, (HX2.out.trans' HXF.out).setRow (by rw [HBB.out]; omega)⟩
          obtain ⟨i, hi⟩ := List.getElem?_of_mem hq
          exact HG2.out i q (by rw [hjN]; exact (List.getElem?_eq_some_iff.1 hi).1) hi hn
end Go.Proofs.YtejljmikammcdaaGreatDoor
