/-
  Caches: put, the program's.
-/
import Derived.Test.YtpiodpljiklfkaaCacI
import Derived.Deep.CutBlock
import Derived.Test.YtpiodpljiklfkaaTail
import Derived.Test.YtpiodpljiklfkaaOrdU
namespace Go.Proofs.Ytpiodpljiklfkaa
open Go.RowKit Go.WideMaps

theorem of_own {w : World} {B t s n c : Nat} {a : Option Addr} {xs : List Value} (h : w.ownsRow B t s (.slice a n c) n xs) : OfType w B t (blockOf a) := fun k hk => ⟨(own_block h k hk).1, own_heap h hk⟩
theorem grown_cells {w w' : World} {r : Option Nat} {B t k : Nat} {cs : Array Value} {t' : TypeId} (hg : w.grownBy w' r) (hr : OfType w B t r) (hk : w.heap[k]? = some (.cells cs t' (0, 0))) (ht : t' ≠ t) : w'.heap[k]? = some (.cells cs t' (0, 0)) :=
  (hg.block k (Array.getElem?_eq_some_iff.1 hk).1 (fun e => by
    obtain ⟨-, cur, hc⟩ := hr k e.symm
    rw [hc] at hk
    simp only [Option.some.injEq, Obj.cells.injEq] at hk
    exact ht hk.2.1.symm)).trans hk
theorem Ca.grownT {w w' : World} {r : Option Nat} {B c m e room t B' : Nat} {N : Nat → Nd} {L : List Nat} (h : Ca w B c m e room N L) (hg : w.grownBy w' r) (hr : OfType w B' t r) (h1 : t ≠ 81) (h2 : t ≠ 79) (h3 : t ≠ 5) : Ca w' B c m e room N L where
  box := grown_cells hg hr h.box (Ne.symm h2)
  nodes k hk := grown_cells hg hr (h.nodes k hk) (Ne.symm h1)
  ring := h.ring
  nodup := h.nodup
  map := by
    obtain ⟨es, cl, g1, g2⟩ := h.map
    refine ⟨es, cl, (hg.block m (Array.getElem?_eq_some_iff.1 g1).1 (fun e => ?_)).trans g1, g2⟩
    obtain ⟨-, cur, hc⟩ := hr m e.symm
    rw [hc] at g1
    cases g1
  data k hk := own_typed (h.data k hk) hg hr (Ne.symm h3)
  base := h.base
  ok := h.ok
  max := h.max
theorem Chg.of_grownO {w w' : World} {r : Option Nat} (h : w.grownBy w' r) : Chg r.toList w w' := ⟨h.os, h.tape, h.output, h.size, fun k hk hn => h.block k hk fun e => hn (by rw [← e]; simp)⟩
theorem one_cell {w : World} {b o j : Nat} {xs : List Value} {v : Value} (hk : xs[j]? = some v) (hc : ∀ i, i < 1 → w.cell? ⟨b, o + i, none⟩ = xs[j * 1 + i]?) : w.cell? ⟨b, o, none⟩ = some v := by
  have h := hc 0 (by decide)
  rw [Nat.add_zero, Nat.mul_one, Nat.add_zero, hk] at h
  exact h
def VRel (w : World) (room : Nat) (N : Nat → Nd) (e : Nat) (L : List Nat) (left0 q : Nat) (vic left p : Value) (wr : World) : Prop :=
  ∃ (P D V : List Nat) (a : Option Addr) (cp lf x : Nat), Vic room N L left0 P D V lf ∧ q = D.length ∧ x = (D ++ [e]).headD 0 ∧ p = .pointer (some ⟨x, 0, none⟩) ∧ vic = .slice a V.length cp ∧ left = .int .i64 lf ∧ wr.ownsRow w.heap.size 77 1 (.slice a V.length cp) V.length (V.map ptrV) ∧ Ext w wr
def VFin (w : World) (room : Nat) (N : Nat → Nd) (L : List Nat) (left0 : Nat) (vic left : Value) (wr : World) : Prop :=
  ∃ (V : List Nat) (a : Option Addr) (cp lf : Nat), vic = .slice a V.length cp ∧ left = .int .i64 lf ∧ ((evF room (ents N L) left0).2 = ents N V ∧ (evF room (ents N L) left0).1 = ents N (L.filter fun k => decide (k ∉ V)) ∧ V.Sublist L) ∧ lf + sizeF (ents N V) = left0 ∧ wr.ownsRow w.heap.size 77 1 (.slice a V.length cp) V.length (V.map ptrV) ∧ Ext w wr
def ERel (w : World) (B c m e room D0 : Nat) (N : Nat → Nd) (L V : List Nat) (va : Option Addr) (vc : Nat) (out i : Value) (wr : World) : Prop :=
  ∃ (j cp : Nat) (a : Option Addr) (N' : Nat → Nd), i = .int .i64 j ∧ j ≤ V.length ∧ out = .slice a j cp ∧ SameD N N' ∧ Ca wr B c m e room N' (L.filter fun k => decide (k ∉ V.take j)) ∧ wr.ownsRow w.heap.size 45 2 (.slice a j cp) j (((ents N (V.take j)).map En.id).flatMap idCells) ∧ wr.ownsRow D0 77 1 (.slice va V.length vc) V.length (V.map ptrV) ∧ Chg (c :: m :: e :: L) w wr

/-- Where the data of the chunks lie: where they lay, or in new memory. -/
def DatIn (w : World) (N : Nat → Nd) (L : List Nat) (N' : Nat → Nd) (L' : List Nat) : Prop := ∀ k ∈ L', (∃ k0 ∈ L, (N' k).a = (N k0).a) ∨ ∀ b, blockOf (N' k).a = some b → w.heap.size ≤ b
/-- What put answers, with the nodes. -/
def PutO2 (w : World) (B c m e room : Nat) (N : Nat → Nd) (L : List Nat) (r : List En × List (Nat × Int) × Int) (en : Ending) (w' : World) : Prop :=
  ∃ (a : Option Addr) (n cp : Nat), en = .returned (.tuple #[.slice a n cp, .int .i64 r.2.2]) ∧ n = r.2.1.length ∧ w'.ownsRow w.heap.size 45 2 (.slice a n cp) n (r.2.1.flatMap idCells) ∧
    ∃ N' L', Ca w' B c m e room N' L' ∧ r.1 = ents N' L' ∧ Chg (c :: m :: e :: L) w w' ∧ (∀ k ∈ c :: m :: e :: L', k ∈ c :: m :: e :: L ∨ w.heap.size ≤ k) ∧ DatIn w N L N' L'

set_option maxRecDepth 100000 in
set_option maxHeartbeats 8000000 in
theorem put38_all (B c m e room : Nat) (N : Nat → Nd) (L : List Nat) (s : Nat) (z : Int) (ba : Option Addr) (bn bc : Nat) (l : List UInt8) (w : World) (hC : Ca w B c m e room N L) (hb : StB (c :: m :: e :: L) w ba bn bc l) (hid : idOf l = (s, z)) (hl0 : 0 < bn) (hbn : bn ≤ 140737488355328) (hB : B ≤ w.heap.size) :
    Calls Try.prog 41 #[.pointer (some ⟨c, 0, none⟩), .agg #[.int .u64 s, .int .i64 z], .slice ba bn bc] w (PutO2 w B c m e room N L (putF room (ents N L) (s, z) l)) := by
  have hln := hb.now.len
  have hs : s ≤ 18446744073709551615 := by rw [show s = fp l from (congrArg Prod.fst hid).symm]; exact fp_key l
  have hz : -9223372036854775808 ≤ z ∧ z ≤ 9223372036854775807 := by rw [show z = (l.length : Int) from (congrArg Prod.snd hid).symm]; omega
  obtain ⟨k, hk, hkv⟩ := key_of hs hz
  have HKV := Lib.hid hkv
  have hx1 : Ext w (w.alloc (.cells #[.int .u64 s, .int .i64 z] 45)) := Ext.alloc' w _
  have HC1 := Lib.hid (hC.ext hx1)
  have HH1 := Lib.hid (heap_alloc_new w (.cells #[.int .u64 s, .int .i64 z] 45))
  have HBB := Lib.hid hb
  have hokp : OkE room (putF room (ents N L) (s, z) l).1 := by rw [← hid]; exact putF_ok hC.ok (by omega)
  have HOKP := Lib.hid hokp
  clear hC hs hz hkv hb hokp
  cases hat : atF (s, z) (ents N L) with
  | some i =>
    obtain ⟨A, x, D, rfl, rfl, hb, hid⟩ := blk_at hat
    have HV := Lib.hid (show mapOf N (A ++ x :: D) k = some (.pointer (some ⟨x, 0, none⟩)) by unfold mapOf; rw [hk, hb]; rfl)
    have hp : putF room (ents N (A ++ x :: D)) (s, z) l = (ents N (A ++ D ++ [x]), [], 0) := by unfold putF; rw [hat]; simp only; rw [ents_use]
    rw [hp]
    clear hat hp hk hb hid HBB HOKP
    go_enter Try.func41, Try.ntmps41
    go_wp2
    generalize w.alloc (.cells #[.int .u64 s, .int .i64 z] 45) = w1 at hx1 HC1 HH1 ⊢
    have HB := Lib.hid fun w' (h : Ext w1 w') => (HC1.out.ext h).box.map
    have HM := Lib.hid fun w' (h : Ext w1 w') => (HC1.out.ext h).map
    have HK := Lib.hid fun w' (h : Ext w1 w') => range_of_heap2 (h.heap' HH1.out)
    have E1 := Ext.drew' w1
    refine wp_region_e [] (.qs [0, 1, 2, 3, 4, 5, 6, 7, 8, 9, 10] .nil) (by kernel_rfl) (by kernel_rfl) ?_
    iterate 3 ((refine wpY_q rfl rfl _ (fun w' hx' => by go_simp; try rfl) ?_; go_simp))
    refine wpY_q rfl rfl (.map (some m)) (fun w' hx' => by have hb' := HB.out w' hx'; go_simp; try rfl) ?_
    go_simp
    refine wpY_ld rfl rfl (.tmp 4) rfl w.heap.size 0 rfl [.int .u64 s, .int .i64 z] _ HK.out Try.underlying45 rfl (by kernel_rfl) ?_
    refine wpY_look rfl rfl Try.kvI (.tmp 20) (.tmp 21) rfl Try.underlying76 (z := .pointer none) (fun w' => zero_of (by kernel_rfl) w') rfl HM.out k HKV.out.symm ?_
    rw [HV.out]
    iterate 5 ((refine wpY_q rfl rfl _ (fun w' hx' => by go_simp; try rfl) ?_; go_simp))
    refine wpY_nil ?_
    clear HB HM HK
    have HC2 := Lib.hid (HC1.out.ext E1)
    have HX2 := Lib.hid (hx1.trans' E1)
    clear HC1 HH1 E1 hx1
    go_wp2_with (first
      | (go_at_call 39; (with_reducible refine (use_any B c m e room x N A D _ HC2.out).mono ?_); rintro en w3 ⟨rfl, N', hS, hC3, hc3⟩)
      | fail)
    go_ret2
    refine ⟨none, 0, 0, rfl, rfl, own_nil _ _ _ _, N', _, hC3, ?_, ?_, fun k hk => .inl ?_, fun k hk => .inl ⟨k, ?_, (hS k).2.2.1⟩⟩
    · rw [hS.ents]
    · exact (Chg.of_ext HX2.out).trans' (hc3.mono fun k hk => by rw [List.mem_cons, List.mem_cons]; exact .inr (.inr hk))
    · simp only [List.mem_cons, List.mem_append, List.not_mem_nil, or_false] at hk ⊢
      rcases hk with h | h | h | (h | h) | h <;> simp [h]
    · simp only [List.mem_append, List.mem_cons, List.not_mem_nil, or_false] at hk ⊢
      rcases hk with (h | h) | h <;> simp [h]
  | none =>
    have HV := Lib.hid (show mapOf N L k = none by unfold mapOf; rw [hk, blk_none hat]; rfl)
    have HAT := Lib.hid hat
    clear hat hk
    go_enter Try.func41, Try.ntmps41
    go_wp2
    generalize w.alloc (.cells #[.int .u64 s, .int .i64 z] 45) = w1 at hx1 HC1 HH1 ⊢
    have HB := Lib.hid fun w' (h : Ext w1 w') => (HC1.out.ext h).box.map
    have HM := Lib.hid fun w' (h : Ext w1 w') => (HC1.out.ext h).map
    have HK := Lib.hid fun w' (h : Ext w1 w') => range_of_heap2 (h.heap' HH1.out)
    have E1 := Ext.drew' w1
    refine wp_region_e [] (.qs [0, 1, 2, 3, 4, 5, 6, 7, 8, 9, 10] .nil) (by kernel_rfl) (by kernel_rfl) ?_
    iterate 3 ((refine wpY_q rfl rfl _ (fun w' hx' => by go_simp; try rfl) ?_; go_simp))
    refine wpY_q rfl rfl (.map (some m)) (fun w' hx' => by have hb' := HB.out w' hx'; go_simp; try rfl) ?_
    go_simp
    refine wpY_ld rfl rfl (.tmp 4) rfl w.heap.size 0 rfl [.int .u64 s, .int .i64 z] _ HK.out Try.underlying45 rfl (by kernel_rfl) ?_
    refine wpY_look rfl rfl Try.kvI (.tmp 20) (.tmp 21) rfl Try.underlying76 (z := .pointer none) (fun w' => zero_of (by kernel_rfl) w') rfl HM.out k HKV.out.symm ?_
    rw [HV.out]
    iterate 5 ((refine wpY_q rfl rfl _ (fun w' hx' => by go_simp; try rfl) ?_; go_simp))
    refine wpY_nil ?_
    clear HB HM HK
    have HC2 := Lib.hid (HC1.out.ext E1)
    have HX2 := Lib.hid (hx1.trans' E1)
    have HID2 := Lib.hid (show w1.drew.heap[w.heap.size]? = _ from E1.heap' HH1.out)
    generalize w1.drew = w2 at HC2 HX2 HID2 ⊢
    have hbt := HC2.out.box.total
    have hbe := HC2.out.box.ends
    have he := (HC2.out.nodes e (by simp)).next
    rw [HC2.out.ring.head] at he
    obtain ⟨x0, hx0⟩ : ∃ x0, x0 = (L ++ [e]).headD 0 := ⟨_, rfl⟩
    rw [← hx0] at he
    have HX0 := Lib.hid hx0
    have hfit := HC2.out.ok.fits
    have hmax := HC2.out.max
    have hLn := HC2.out.count
    obtain ⟨SZ, hSZ⟩ : ∃ SZ, SZ = sizeF (ents N L) := ⟨_, rfl⟩
    rw [← hSZ] at hbt hfit
    have HSZ := Lib.hid hSZ
    have hwr : IntKind.i64.wrap ((SZ : Int) + (bn : Int)) = ((SZ + bn : Nat) : Int) := by rw [IntKind.wrap_i64]; omega
    clear HC1 HH1 E1 hx1 hx0 hSZ
    go_upto_block 0 with fail
    go_cut [10, 11, 12] from 43 to 76 (fun s10 s11 _ w' => VFin w2 room N L (SZ + bn) s10 s11 w')
    case first =>
      go_wp2
      go_loopg [10, 11, 12] L.length (VRel w2 room N e L (SZ + bn))
      case atStart => exact ⟨[], L, [], none, 0, SZ + bn, x0, Vic.start _ _ _ _, rfl, HX0.out, rfl, rfl, by simp, own_nil _ _ _ _, Below.refl _ _⟩
      case round =>
        obtain ⟨P, D, V, va, vc, lf, x, hvic, hq, hxe, rfl, rfl, rfl, ho, hx⟩ := hrel
        rename World => w3
        have HVC := Lib.hid hvic
        have HQ := Lib.hid hq
        have HO := Lib.hid ho
        have hC3 := HC2.out.ext hx
        have HC3 := Lib.hid hC3
        have hbe3 := hC3.box.ends
        have hbr3 := hC3.box.room
        have hLnd := (List.nodup_cons.1 hC3.nodup).2
        have hVs := hvic.sub
        have hVl : V.length ≤ 1048576 := by
          have h1 := hVs.length_le
          have h2 := hvic.all
          rw [h2, List.length_append] at hLn
          omega
        clear hq ho hvic hC3 hbt hbe he hwr
        cases D with
        | nil =>
          obtain rfl : x = e := by simpa using hxe
          clear hxe
          have hnn := HC3.out.nodes x (by simp)
          have hne := Try.neq_node hnn hnn
          rw [decide_eq_false (by simp)] at hne
          have hfin := HVC.out.fin hLnd (.inr rfl)
          have HFIN := Lib.hid hfin
          clear hnn hfin hVs
          go_wp2
          go_meet
          exact ⟨V, va, vc, lf, rfl, rfl, HFIN.out, HVC.out.left, HO.out, hx⟩
        | cons y D =>
          obtain rfl : x = y := by simpa using hxe
          clear hxe
          have hxL : x ∈ L := by rw [HVC.out.all]; simp
          have hxe : x ≠ e := by
            rintro rfl
            exact (List.nodup_cons.1 HC3.out.nodup).1 hxL
          have hnx := HC3.out.nodes x (List.mem_cons_of_mem _ hxL)
          have hne := Try.neq_node hnx (HC3.out.nodes e (by simp))
          rw [decide_eq_true hxe] at hne
          by_cases hlt : lf ≤ room
          · have hd : decide ((room : Int) < lf) = false := decide_eq_false (by omega)
            have hd' : decide (room < lf) = false := decide_eq_false (by omega)
            have hfin := HVC.out.fin hLnd (.inl hlt)
            have HFIN := Lib.hid hfin
            clear hnx hfin hVs hxe hxL hlt
            go_wp2
            go_meet
            exact ⟨V, va, vc, lf, rfl, rfl, HFIN.out, HVC.out.left, HO.out, hx⟩
          have hd : decide ((room : Int) < lf) = true := decide_eq_true (by omega)
          have hd' : decide (room < lf) = true := decide_eq_true (by omega)
          have hn1 : (N x).next = (D ++ [e]).headD 0 := by
            have h := HC3.out.ring
            rw [HVC.out.all] at h
            exact h.at_
          have hcn := hnx.next
          rw [hn1] at hcn
          obtain ⟨y, hy⟩ : ∃ y, y = (D ++ [e]).headD 0 := ⟨_, rfl⟩
          rw [← hy] at hcn
          have HN1 := Lib.hid (show (N x).next = y by rw [hn1, hy])
          have HY := Lib.hid hy
          have hpi := hnx.pins
          obtain ⟨pp, hpp⟩ : ∃ pp, pp = (N x).pins := ⟨_, rfl⟩
          rw [← hpp] at hpi
          have HPP := Lib.hid hpp
          have hLT := Lib.hid hlt
          clear hn1 hy hpp hxe hlt
          by_cases hp0 : pp = 0
          · have q1 : ((pp : Int) == 0) = true := by simp [hp0]
            have HP0 := Lib.hid hp0
            have hsm := HC3.out.small hxL
            have hby := hnx.bytes
            obtain ⟨nn, hnn⟩ : ∃ nn, nn = (N x).n := ⟨_, rfl⟩
            rw [← hnn] at hby hsm
            have HNN := Lib.hid (show (N x).l.length = nn by omega)
            have hnle : nn ≤ lf := by
              have h1 := HVC.out.left
              have h2 : sizeF (ents N L) = sizeF (ents N P) + (nn + sizeF (ents N D)) := by rw [HVC.out.all, ← HNN.out]; simp only [ents, List.map_append, List.map_cons, sizeF_app, sizeF, enOf]
              have h3 := sizeF_sub (hVs.map fun k => enOf (N k))
              have h4 : sizeF (List.map (fun k => enOf (N k)) V) = sizeF (ents N V) := rfl
              have h5 : sizeF (List.map (fun k => enOf (N k)) P) = sizeF (ents N P) := rfl
              have h6 := HSZ.out
              omega
            have hlf : lf ≤ SZ + bn := by have := HVC.out.left; omega
            have HNN2 := Lib.hid (show (N x).n = nn from hnn.symm)
            have hwr : IntKind.i64.wrap ((lf : Int) - (nn : Int)) = ((lf - nn : Nat) : Int) := by rw [IntKind.wrap_i64]; omega
            have hwr2 : (lf : Int) - (nn : Int) = ((lf - nn : Nat) : Int) := by omega
            have hal := Ext.alloc' w3 (.cells #[ptrV x] 77)
            have HNX := Lib.hid hnx
            clear hnx hsm hnn hp0
            have hsz3 := hx.size
            go_wp2_with (first
              | ((with_reducible refine atSlot 69 ?_); refine wpList_of_wp rfl (owp_app (o := ⟨some 69, _, _, _, _, _⟩) _ _ rfl Try.elNp rfl (own_ext HO.out hal) rfl (Row.new w3 #[ptrV x] 77 1 1 rfl (by decide)) (ptr_one [x]) (by omega) (by unfold maxLen; omega) (Nat.le_trans hsz3 hal.size) ?_); intro a4 c4 w4 ho4 hg4; have hx4 := below_app (hx.trans' hal) (own_ext HO.out hal) hg4 (Nat.le_trans hsz3 hal.size); have hnx4 := (HC2.out.ext hx4).nodes x (List.mem_cons_of_mem _ hxL); have hcn4 := hnx4.next; rw [HN1.out] at hcn4; have hby4 := hnx4.bytes; rw [HNN2.out] at hby4; have HO4 := Lib.hid ho4; clear ho4 hg4 hnx4)
              | fail)
            go_roundg D.length
            case measure => have := HQ.out; simp at this; omega
            case rel =>
              refine ⟨P ++ [x], D, V ++ [x], a4, c4, lf - nn, y, ?_, rfl, HY.out, rfl, by simp, rfl, by rw [List.length_append, List.map_append]; exact HO4.out, hx4⟩
              have h := HVC.out.go hLnd (by have := hLT.out; omega) (by rw [← HPP.out]; exact HP0.out) (by rw [HNN.out]; exact hnle)
              rwa [HNN.out] at h
          · have q1 : ((pp : Int) == 0) = false := by simpa using hp0
            have HP0 := Lib.hid hp0
            clear hp0 hnx
            go_wp2
            go_roundg D.length
            case measure => have := HQ.out; simp at this; omega
            case rel =>
              refine ⟨P ++ [x], D, V, va, vc, lf, y, ?_, rfl, HY.out, rfl, rfl, rfl, HO.out, hx⟩
              exact HVC.out.keep hLnd (by have := hLT.out; omega) (by rw [← HPP.out]; exact HP0.out)
    case rest =>
      obtain ⟨V, va, vc, lf, rfl, rfl, ⟨hg, hst, hVs⟩, hlf, ho3, hx3⟩ := hcut
      rename World => w3
      have hC3 := HC2.out.ext hx3
      have hbr3 := hC3.box.room
      have hsub := evF_sub room (ents N L) (SZ + bn)
      have hlfe : lf = sizeF (evF room (ents N L) (SZ + bn)).1 + bn := by
        have h1 := hsub.2.1
        rw [hg] at h1
        have h2 := HSZ.out
        omega
      have hSl : SZ + bn = sizeF (ents N L) + l.length := by rw [HSZ.out, hln]
      have HC3 := Lib.hid hC3
      have HG := Lib.hid hg
      have HST := Lib.hid hst
      have HVS := Lib.hid hVs
      have HO3 := Lib.hid ho3
      have HX3 := Lib.hid hx3
      have HBS := Lib.hid (fun w' (h : Ext w3 w') => ((HX2.out.trans' hx3).trans' h))
      have HID3 := Lib.hid (show w3.heap[w.heap.size]? = _ from hx3.heap' HID2.out)
      clear hsub hC3 ho3 hx3 hbt hbe he hwr
      by_cases hful : room < pinF (ents N L) + l.length
      · have hp : putF room (ents N L) (s, z) l = (ents N L, [], 382) := by unfold putF; rw [HAT.out]; simp only; rw [if_pos hful]
        have h1 := evF_full hful
        rw [← hSl] at h1
        have hd : decide ((room : Int) < lf) = true := decide_eq_true (by omega)
        have hd' : decide (room < lf) = true := decide_eq_true (by omega)
        have HP := Lib.hid hp
        clear hp h1 hlfe hSl hg hst hVs hful
        go_wp2
        go_ret2
        rw [HP.out]
        exact ⟨none, 0, 0, rfl, rfl, own_nil _ _ _ _, N, L, HC3.out, rfl, Chg.of_ext (HX2.out.trans' HX3.out), fun k hk => .inl hk, fun k hk => .inl ⟨k, hk, rfl⟩⟩
      have hp : putF room (ents N L) (s, z) l = (ents N (L.filter fun k => decide (k ∉ V)) ++ [⟨s, z, l, 0⟩], (ents N V).map En.id, 0) := by
        unfold putF
        rw [HAT.out]
        simp only
        rw [if_neg hful, ← hSl, hg, hst]
      have h1 := evF_room hful
      rw [← hSl] at h1
      have hlr : lf ≤ room := by omega
      have hd : decide ((room : Int) < lf) = false := decide_eq_false (by omega)
      have hd' : decide (room < lf) = false := decide_eq_false (by omega)
      have HOKP2 := Lib.hid (show OkE room (ents N (L.filter fun k => decide (k ∉ V)) ++ [⟨s, z, l, 0⟩]) by have h := HOKP.out; rw [hp] at h; exact h)
      have hLnd := (List.nodup_cons.1 HC3.out.nodup).2
      have hVl : V.length ≤ 1048576 := by
        have h2 := hVs.length_le
        omega
      have HP := Lib.hid hp
      clear hp h1 hlfe hSl hg hst hVs hful hlf
      go_wp2
      go_loopw [13, 85] (ERel w3 B c m e room w2.heap.size N L V va vc) (fun _ i _ => V.length - (intOf i).toNat)
      case atStart =>
        refine ⟨0, 0, none, N, rfl, Nat.zero_le _, rfl, fun k => ⟨rfl, rfl, rfl, rfl, rfl, rfl, rfl⟩, ?_, own_nil _ _ _ _, HO3.out, Chg.refl _ _⟩
        rw [List.take_zero, List.filter_eq_self.2 fun k _ => by simp]
        exact HC3.out
      case round =>
        obtain ⟨j, cp, ia, N', rfl, hj, rfl, hS, hC4, hid4, hv4, hc4⟩ := hrel
        rename World => w4
        by_cases hjn : j < V.length
        rotate_left
        · obtain rfl : j = V.length := by omega
          rw [List.take_length] at hC4 hid4
          have HC4 := Lib.hid hC4
          have HS := Lib.hid hS
          have HI4 := Lib.hid hid4
          have HCH4 := Lib.hid hc4
          have hcw4 : Chg (c :: m :: e :: L) w w4 := (Chg.of_ext (HX2.out.trans' HX3.out)).trans' hc4
          have HCW := Lib.hid hcw4
          have hid7 : w4.heap[w.heap.size]? = some (.cells #[.int .u64 s, .int .i64 z] 45 (0, 0)) := hc4.heap HID3.out fun hm => by
            rcases HC3.out.typed _ hm _ _ _ HID3.out with h | h
            · exact absurd h (by decide)
            · exact absurd h (by decide)
          have HID4 := Lib.hid hid7
          have hTw := HC4.out.typed
          have HE := Lib.hid (HS.out.ents (L.filter fun k => decide (k ∉ V)))
          have hb4 := HBB.out w4 hcw4
          have HB4 := Lib.hid hb4
          obtain ⟨L2, hL2⟩ : ∃ L2, L2 = L.filter fun k => decide (k ∉ V) := ⟨_, rfl⟩
          have hL2s : ∀ k ∈ L2, k ∈ L := fun k hk => by rw [hL2] at hk; exact (List.mem_filter.1 hk).1
          rw [← hL2] at HC4 HE HOKP2 HP
          have HL2 := Lib.hid hL2s
          have hsw4 := hc4.size
          have hsw3 := (HX2.out.trans' HX3.out).size
          clear hC4 hS hv4 hid4 hc4 hcw4 hb4 hL2 hL2s hid7
          go_wp2
          have E4 := Ext.drew' w4
          refine wp_region_u (fun w' => Ext w4 w') E4 [6] (.qs [0, 1, 2] (.l 3 (.qs [4] (.l 5 (.l 6 .nil))))) (by kernel_rfl) (by kernel_rfl) ?_
          ((refine wpZ_q rfl rfl _ (fun w' hx' => by go_simp; try rfl) ?_; go_simp))
          refine wpZ_ld rfl rfl (.tmp 4) rfl w.heap.size 0 rfl [.int .u64 s, .int .i64 z] _ (fun w' hh => range_of_heap2 (Ext.heap' hh HID4.out)) Try.underlying45 rfl (by kernel_rfl) ?_
          ((refine wpZ_q rfl rfl _ (fun w' hx' => by go_simp; try rfl) ?_; go_simp))
          refine wpZ_l rfl rfl ?_
          go_simp
          refine (Clone_any ba bn bc l _ (HB4.out.ext E4) hbn).mono ?_
          rintro en w5 ⟨a5, n5, c5, rfl, ho5, hx5⟩
          have E5 := E4.trans' hx5
          refine ⟨E5, ?_⟩
          go_simp
          ((refine wpZ_q rfl rfl _ (fun w' hx' => by go_simp; try rfl) ?_; go_simp))
          refine wpZ_l rfl rfl ?_
          go_simp
          have hal := Ext.alloc' w5 (.cells #[.pointer none, .pointer none, .int .u64 s, .int .i64 z, .slice a5 n5 c5, .int .i64 0] 81)
          have hx6 : RawAt (w5.alloc (.cells #[.pointer none, .pointer none, .int .u64 s, .int .i64 z, .slice a5 n5 c5, .int .i64 0] 81)) w5.heap.size (.pointer none) (.pointer none) ⟨0, 0, s, z, a5, n5, c5, l, 0⟩ := heap_alloc_new w5 _
          have E6 := E5.trans' hal
          refine ⟨E6, ?_⟩
          have ho6 := own_ext ho5 hal
          generalize w5.alloc (.cells #[.pointer none, .pointer none, .int .u64 s, .int .i64 z, .slice a5 n5 c5, .int .i64 0] 81) = w6 at hx6 E6 ho6 ⊢
          have hC6 := HC4.out.ext E6
          have hsz5 := E5.size
          have hxn : w5.heap.size ∉ e :: L2 := fun hm => by
            have := (Array.getElem?_eq_some_iff.1 ((HC4.out.ext E5).nodes _ hm)).1
            omega
          have hsd : w4.drew.heap.size = w4.heap.size := rfl
          refine wpZ_l rfl rfl ?_
          go_simp
          refine (add38_any B c m e room w5.heap.size N' L2 (.pointer none) (.pointer none) ⟨0, 0, s, z, a5, n5, c5, l, 0⟩ w6 hC6 hx6 hxn (by omega) (own_base ho6 (by omega)) (by rw [HE.out]; exact HOKP2.out)).mono ?_
          rintro en w7 ⟨rfl, N7, hC7, hE7, hc7, ha7, hb7⟩
          have hdat : DatIn w N L N7 (L2 ++ [w5.heap.size]) := fun k hk => by
            rcases List.mem_append.1 hk with hk | hk
            · exact .inl ⟨k, HL2.out k hk, (ha7 k hk).trans (HS.out k).2.2.1⟩
            · rw [List.mem_singleton.1 hk, hb7]
              exact .inr fun b hb => by have := (own_block ho5 b hb).1; omega
          have HDAT := Lib.hid hdat
          have hT6 : Typed w6 (w5.heap.size :: c :: m :: e :: L2) := fun k hk => by
            rcases List.mem_cons.1 hk with rfl | hk
            · intro cs t fr hh
              have h1 := Option.some.inj (hx6.symm.trans hh)
              simp only [Obj.cells.injEq] at h1
              exact .inl h1.2.1.symm
            · exact hC6.typed k hk
          have HI7 := Lib.hid (own_chg (own_ext HI4.out E6) hc7 hT6 (by decide) (by decide))
          have HC7 := Lib.hid hC7
          have HE7 := Lib.hid hE7
          have HCH7 := Lib.hid ((HCW.out.trans' (Chg.of_ext E6)).trans2 hc7 (fun k hk => by
            simp only [List.mem_cons] at hk ⊢
            rcases hk with h | h | h | h | h
            · right; omega
            · exact .inl (.inl h)
            · exact .inl (.inr (.inl h))
            · exact .inl (.inr (.inr (.inl h)))
            · exact .inl (.inr (.inr (.inr (HL2.out k h))))))
          have hfin : ∀ k ∈ c :: m :: e :: (L2 ++ [w5.heap.size]), k ∈ c :: m :: e :: L ∨ w.heap.size ≤ k := fun k hk => by
            simp only [List.mem_cons, List.mem_append, List.not_mem_nil, or_false] at hk ⊢
            rcases hk with h | h | h | h | h
            · exact .inl (.inl h)
            · exact .inl (.inr (.inl h))
            · exact .inl (.inr (.inr (.inl h)))
            · exact .inl (.inr (.inr (.inr (HL2.out k h))))
            · right; omega
          have HFN := Lib.hid hfin
          clear hC7 hE7 hc7 hT6 hC6 hx6 ho6 ho5 hfin hxn
          refine wpZ_nil ?_
          go_wp2
          go_ret2
          rw [HP.out]
          refine ⟨ia, V.length, cp, rfl, by simp [ents], own_base HI7.out (by omega), N7, _, HC7.out, ?_, HCH7.out, HFN.out, HDAT.out⟩
          rw [HE7.out, HE.out]
          rfl
        obtain ⟨x, hx⟩ : ∃ x, V[j]? = some x := ⟨_, List.getElem?_eq_getElem hjn⟩
        obtain ⟨A, D, hAD, hAD2⟩ := filter_take hx HVS.out hLnd
        rw [hAD] at hC4
        have HC4 := Lib.hid hC4
        have HS := Lib.hid hS
        have HV4 := Lib.hid hv4
        have HI4 := Lib.hid hid4
        have HCH4 := Lib.hid hc4
        have hrow := Row.of_own hv4
        have HX := Lib.hid (show (V.map ptrV)[j]? = some (.pointer (some ⟨x, 0, none⟩)) by rw [List.getElem?_map, hx]; rfl)
        have HAD := Lib.hid hAD
        have HAD2 := Lib.hid hAD2
        have HTK := Lib.hid (show V.take (j + 1) = V.take j ++ [x] by rw [List.take_add_one, hx]; rfl)
        clear hx hAD hAD2 hC4 hS hv4 hid4 hc4
        go_wp2_with (first
          | ((with_reducible refine atSlot 87 ?_); refine wpList_of_wp rfl (owp_ix (o := ⟨some 87, _, _, _, _, _⟩) _ _ rfl Try.elNp rfl hrow j rfl rfl hjn ?_); intro b8 o8 hc8; have hd9 := one_cell HX.out hc8; clear hc8)
          | (go_at_call 60; (with_reducible refine (evict38_any B c m e room x N' A D _ HC4.out).mono ?_); rintro en w5 ⟨rfl, N2, hS2, hnx, hC5, hc5⟩; refine Stop.of ?_)
          | fail)
        have hS3 := HS.out.trans hS2
        have hT4 := HC4.out.typed
        have HV5 := Lib.hid (own_chg HV4.out hc5 hT4 (by decide) (by decide))
        have HI5 := Lib.hid (own_chg HI4.out hc5 hT4 (by decide) (by decide))
        have hid5 := hnx.id
        have hal := Ext.alloc' w5 (.cells #[.int .u64 (N2 x).s, .int .i64 (N2 x).z] 45)
        have hsz := hc5.size
        have hsz4 := HCH4.out.size
        have hsF : ∀ k ∈ c :: m :: e :: (A ++ x :: D), k ∈ c :: m :: e :: L := fun k hk => by
          have hs1 : ∀ k, k ∈ A ++ x :: D → k ∈ L := fun k hk => by rw [← HAD.out] at hk; exact (List.mem_filter.1 hk).1
          simp only [List.mem_cons] at hk ⊢
          rcases hk with h | h | h | h
          · exact .inl h
          · exact .inr (.inl h)
          · exact .inr (.inr (.inl h))
          · exact .inr (.inr (.inr (hs1 k h)))
        have HC5 := Lib.hid hC5
        have HS3 := Lib.hid hS3
        have HCH5 := Lib.hid (HCH4.out.trans' (hc5.mono hsF))
        clear hS3 hC5 hc5 hT4 hnx hS2 hsF
        refine Stop.out ?_
        go_wp2_with (first
          | ((with_reducible refine atSlot 96 ?_); refine wpList_of_wp rfl (wp_load_mid (op := ⟨some 96, _, _, _, _, _⟩) 45 _ rfl x 2 rfl [.int .u64 (N2 x).s, .int .i64 (N2 x).z] _ hid5 Try.underlying45 rfl (by kernel_rfl) ?_); clear hid5)
          | ((with_reducible refine atSlot 98 ?_); refine wpList_of_wp rfl (owp_app (o := ⟨some 98, _, _, _, _, _⟩) _ _ rfl Try.elId rfl (own_ext HI5.out hal) rfl (Row.new w5 #[.int .u64 (N2 x).s, .int .i64 (N2 x).z] 45 1 2 rfl (by decide)) (id_one [((N2 x).s, (N2 x).z)]) (by omega) (by unfold maxLen; omega) (Nat.le_trans (Nat.le_trans hsz4 hsz) hal.size) ?_); intro a6 c6 w6 ho6 hg6; refine Stop.of ?_)
          | fail)
        have hI5 := own_ext HI5.out hal
        have hC6 := (HC5.out.ext hal).grownT hg6 (of_own hI5) (by decide) (by decide) (by decide)
        have hV6 := own_typed (own_ext HV5.out hal) hg6 (of_own hI5) (by decide)
        have hc6 := (HCH5.out.trans' (Chg.of_ext hal)).trans2 (Chg.of_grownO hg6) (fun k hk => .inr (own_block hI5 k (by simpa using hk)).1)
        rw [← HAD2.out] at hC6
        have hE6 : (N2 x).s = (N x).s ∧ (N2 x).z = (N x).z := ⟨(HS3.out x).1, (HS3.out x).2.1⟩
        have HC6 := Lib.hid hC6
        have HV6 := Lib.hid hV6
        have HCH6 := Lib.hid hc6
        have HO6 := Lib.hid ho6
        clear hI5 hC6 hV6 hc6 ho6 hg6 hal
        refine Stop.out ?_
        go_wp2
        go_roundw
        case measure => simp [intOf]; omega
        case rel =>
          refine ⟨j + 1, c6, a6, N2, by go_num, hjn, rfl, HS3.out, HC6.out, ?_, HV6.out, HCH6.out⟩
          have h := HO6.out
          rw [HTK.out]
          simp only [ents, List.map_append, List.flatMap_append, List.map_cons, List.map_nil, List.flatMap_cons, List.flatMap_nil, List.append_nil]
          rw [hE6.1, hE6.2] at h
          exact h

theorem put38_any (B c room : Nat) (E : List En) (F : List Nat) (s : Nat) (z : Int) (ba : Option Addr) (bn bc : Nat) (l : List UInt8) (w : World) (h : Cac w B c room E F) (hb : StB F w ba bn bc l) (hid : idOf l = (s, z)) (hl0 : 0 < bn) (hbn : bn ≤ 140737488355328) (hB : B ≤ w.heap.size) :
    Calls Try.prog 41 #[.pointer (some ⟨c, 0, none⟩), .agg #[.int .u64 s, .int .i64 z], .slice ba bn bc] w (PutO w B c room F (putF room E (s, z) l)) := by
  obtain ⟨m, e, N, L, hC, rfl, rfl⟩ := h
  refine (put38_all B c m e room N L s z ba bn bc l w hC hb hid hl0 hbn hB).mono ?_
  rintro en w' ⟨a, n, cp, h1, h2, h3, N', L', h4, h5, h6, h7, -⟩
  exact ⟨a, n, cp, h1, h2, h3, _, ⟨m, e, N', L', h4, h5, rfl⟩, h6, h7⟩
end Go.Proofs.Ytpiodpljiklfkaa
