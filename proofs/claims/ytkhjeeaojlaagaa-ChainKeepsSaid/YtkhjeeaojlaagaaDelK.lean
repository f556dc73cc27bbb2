/-
  Encode, the program's.
-/
import Derived.Test.YtkhjeeaojlaagaaDelC
import Derived.Test.YtkhjeeaojlaagaaDelE
import Derived.Test.YtkhjeeaojlaagaaMath1
namespace Go.Proofs.Ytkhjeeaojlaagaa
open Go.RowKit

def encDRes (base : Int) (os : List Dp) : List UInt8 × Int := if (ckRes base os).2 = 0 then (encD os, 0) else ([], (ckRes base os).2)
theorem encOps_append (A B : List Dp) : encOps (A ++ B) = encOps A ++ encOps B := by simp [encOps]
theorem encOps_one (o : Dp) : encOps [o] = o.enc := by simp [encOps]
theorem take_map_succ {L : List Od} {j : Nat} {k : Od} (h : L[j]? = some k) : (L.take (j + 1)).map Od.d = (L.take j).map Od.d ++ [k.d] := by
  rw [List.take_add_one, h, List.map_append]; rfl
/-- What is written by a round's end is no more than the whole. -/
theorem enc_room {L : List Od} {j : Nat} {k : Od} (h : L[j]? = some k) : (enc L.length ++ encOps ((L.take j).map Od.d)).length + k.d.enc.length ≤ (encD (L.map Od.d)).length := by
  have h1 : L.map Od.d = (L.take (j + 1)).map Od.d ++ (L.drop (j + 1)).map Od.d := by rw [← List.map_append, List.take_append_drop]
  unfold encD
  rw [List.length_map, h1, encOps_append, take_map_succ h, encOps_append, encOps_one]
  simp only [List.length_append]
  omega
theorem enc_size {n : Nat} (hn : n ≤ 1048576) {o : Dp} (ho : o.ok n) (hs : o.size ≤ 1048576) : o.enc.length ≤ 20 + o.size := by
  unfold Dp.enc
  rcases ho with ⟨hc, hf, hz⟩ | hl
  · rw [if_pos hc, List.length_append]
    have hz1 : 1 ≤ o.z := by simp only [Dp.copies, Bool.and_eq_true, decide_eq_true_eq] at hc; exact hc.1
    have h1 := enc_le10 (v := 2 * o.z.toNat + 1) (by omega)
    have h2 := enc_le10 (v := o.f.toNat) (by omega)
    omega
  · have hc : o.copies = false := by
      cases h : o.copies with
      | false => rfl
      | true => rw [Dp.copies_not_literal h] at hl; cases hl
    have hsz : o.size = o.l.length := by unfold Dp.size; rw [hc]; rfl
    rw [hc]
    simp only [Bool.false_eq_true, if_false, List.length_append]
    have h1 := enc_le10 (v := 2 * o.l.length) (by omega)
    omega
theorem encOps_size {n : Nat} (hn : n ≤ 1048576) : ∀ (os : List Dp), (∀ o ∈ os, o.ok n) → sizeD os ≤ 1048576 → (encOps os).length ≤ 20 * os.length + sizeD os
  | [], _, _ => by simp [encOps]
  | o :: os, h, hs => by
    have hs' : sizeD (o :: os) = o.size + sizeD os := by simp [sizeD]
    have he : (encOps (o :: os)).length = o.enc.length + (encOps os).length := by simp [encOps]
    have h1 := enc_size hn (h o (List.mem_cons_self ..)) (by omega)
    have h2 := encOps_size hn os (fun x hx => h x (List.mem_cons_of_mem _ hx)) (by omega)
    rw [he, hs', List.length_cons]
    omega
theorem encD_size {base : Int} {os : List Dp} {n : Int} (h : ckRes base os = (n, 0)) : (encD os).length ≤ 2000000 := by
  obtain ⟨h1, h2, h3, h4, h5, h6⟩ := ckRes_ok h
  obtain ⟨b, rfl⟩ := Int.eq_ofNat_of_zero_le h4
  unfold encD
  rw [List.length_append]
  have h7 := encOps_size (n := b) (by omega) os h1 h3
  have h8 := enc_le10 (v := os.length) (by omega)
  omega
/-- Bytes in new memory, and an error. -/
def BytesRes (w : World) (l : List UInt8) (er : Int) (e : Ending) (w' : World) : Prop :=
  ∃ a n c, e = .returned (.tuple #[.slice a n c, .int .i64 er]) ∧ w'.ownsRow w.heap.size 5 1 (.slice a n c) n (l.map u8) ∧ Ext w w'
def EnRel (w : World) (L : List Od) (out i : Value) (wr : World) : Prop :=
  ∃ (j m c : Nat) (a : Option Addr), i = .int .i64 j ∧ out = .slice a m c ∧ j ≤ L.length ∧ wr.ownsRow w.heap.size 5 1 (.slice a m c) m ((enc L.length ++ encOps ((L.take j).map Od.d)).map u8) ∧ Ext w wr
theorem EnRel.bound {w wr : World} {L : List Od} {j m c : Nat} {a : Option Addr} {k : Od} (h : wr.ownsRow w.heap.size 5 1 (.slice a m c) m ((enc L.length ++ encOps ((L.take j).map Od.d)).map u8)) (hk : L[j]? = some k) : m + k.d.enc.length ≤ (encD (L.map Od.d)).length := by
  have h1 := own_len h
  have h2 := enc_room hk
  omega
theorem owp_appB {P : Program} {w w0 : World} {o : Oper} {f : Act} {K : Act → World → Prop} {Q : Exit → Act → World → Prop} (sO xO : Operand) {t : TypeId}
    (ho : o.op = .call { callee := .builtin .append, args := #[sO, xO], argTypes := #[t, t] })
    {e : Nat} (E : Elem P t e 1 1 (.int .u8 0)) {a : Option Addr} {n c : Nat} {l : List UInt8} (hs : f.eval sO = .slice a n c) (hown : w.ownsRow w0.heap.size e 1 (.slice a n c) n (l.map u8))
    {xa : Option Addr} {m xc : Nat} {x : List UInt8} (hx : f.eval xO = .slice xa m xc) (hrow : Bytes w xa m xc x)
    (hb : n + m ≤ 140737488355328) (hE : Ext w0 w)
    (h : ∀ a' c' w', w'.ownsRow w0.heap.size e 1 (.slice a' (n + m) c') (n + m) ((l ++ x).map u8) → Ext w0 w' → (∀ (k : Nat) (cs : Array Value) (t : TypeId), w.heap[k]? = some (.cells cs t (0, 0)) → t ≠ e → w'.heap[k]? = some (.cells cs t (0, 0))) → K (f.put o.dst (.slice a' (n + m) c')) w') : o.wp P f w K Q :=
  owp_app sO xO ho E hs hown hx hrow.row (u8_oneCell _) (by omega) (by unfold maxLen; omega) hE.size fun a' c' w' h2 h3 =>
    h a' c' w' (by rw [List.map_append]; exact h2) (below_app hE hown h3 hE.size) fun k cs t hk ht => by
      rw [h3.block k (Array.getElem?_eq_some_iff.1 hk).1 (own_apart hown hk ht)]; exact hk

set_option maxRecDepth 100000 in
set_option maxHeartbeats 4000000 in
theorem Encode_any (base : Int) (a : Option Addr) (n c : Nat) (L : List Od) (w : World) (hL : Ops w a n c L) (hn : n ≤ 140737488355328) {l : List UInt8} {er : Int} (hr : encDRes base (L.map Od.d) = (l, er)) :
    Calls Try.prog 25 #[.int .i64 base, .slice a n c] w (BytesRes w l er) := by
  obtain ⟨n0, e0, hck⟩ : ∃ n0 e0, ckRes base (L.map Od.d) = (n0, e0) := ⟨_, _, rfl⟩
  unfold encDRes at hr
  rw [hck] at hr
  simp only at hr
  by_cases he : e0 = 0
  rotate_left
  · rw [if_neg he] at hr
    cases hr
    obtain ⟨q1, q2⟩ := neI he
    have HCK := Lib.hid hck
    clear hck he
    go_enter Try.func25, Try.ntmps25
    go_wp2_with (go_at_call 45; (with_reducible refine (Check_any base a n c L _ hL hn HCK.out).mono ?_); rintro e w1 ⟨rfl, hx1⟩)
    go_ret2
    exact ⟨none, 0, 0, rfl, own_nil _ _ _ _, hx1⟩
  subst he
  simp only [if_true, Prod.mk.injEq] at hr
  obtain ⟨rfl, rfl⟩ := hr
  obtain ⟨hok, hn0, hsz, hb0, hb1, hcnt⟩ := ckRes_ok hck
  have hsize := encD_size hck
  rw [List.length_map, hL.1] at hcnt
  have HCK := Lib.hid hck
  have HLN := Lib.hid hL.1
  have HOK := Lib.hid hok
  have HSZ := Lib.hid hsz
  have HN0 := Lib.hid hn0
  have hrow := hL.2.1
  clear hck hok hsz hn0
  have TC := Try.ta.cc
  have TL := Try.ta.lc
  have TT := Try.ta.ll
  go_enter Try.func25, Try.ntmps25
  go_wp2_with (first
    | (go_at_call 45; (with_reducible refine (Check_any base a n c L _ hL hn HCK.out).mono ?_); rintro e w1 ⟨rfl, hx1⟩)
    | (go_at_call 46; (with_reducible refine (PutUint_any none 0 0 [] n _ (Bytes.nil _) (by omega) (by omega)).mono ?_); rintro e w2 ⟨a2, m2, c2, rfl, ho2, hx2⟩; rw [List.nil_append] at ho2))
  go_loopw [8, 28] (EnRel w L) (fun _ i _ => n - (intOf i).toNat)
  case atStart =>
    refine ⟨0, m2, c2, a2, rfl, rfl, Nat.zero_le _, ?_, hx1.trans' hx2⟩
    have h := own_base ho2 hx1.size
    rw [HLN.out, List.take_zero]
    simpa [encOps] using h
  case round =>
    obtain ⟨j, m, oc, oa, rfl, rfl, hj, hown, hx3⟩ := hrel
    rename World => w3
    have hjn' : j ≤ n := by have := HLN.out; omega
    by_cases hjn : j < n
    rotate_left
    · obtain rfl : j = n := by omega
      have h := hown
      rw [List.take_of_length_le (by have := HLN.out; omega)] at h
      have he : enc L.length ++ encOps (L.map Od.d) = encD (L.map Od.d) := by unfold encD; rw [List.length_map]
      rw [he] at h
      have H := Lib.hid h
      clear h he hown
      go_wp2
      go_ret2
      exact ⟨oa, m, oc, rfl, H.out, hx3⟩
    obtain ⟨k, hk⟩ : ∃ k, L[j]? = some k := ⟨_, List.getElem?_eq_getElem (by have := HLN.out; omega)⟩
    have hkI := (hL.2.2 k (List.mem_of_getElem? hk)).ext hx3
    have hkd : ∀ w', Ext w w' → Bytes w' k.a k.n k.c k.l := fun w' h => (hL.2.2 k (List.mem_of_getElem? hk)).1.ext h
    have HKD := Lib.hid hkd
    clear hkd
    have hkok := HOK.out k.d (List.mem_map_of_mem (List.mem_of_getElem? hk))
    have hksz := sizeD_mem (List.mem_map_of_mem (f := Od.d) (List.mem_of_getElem? hk))
    have hbd := EnRel.bound hown hk
    have hkl := hkI.1.len
    obtain ⟨hkI1, hkI2, hkf, hkz⟩ := hkI
    have hr1 := hrow.ext hx3
    have hts := take_map_succ hk
    have HK := Lib.hid hk
    have HKL := Lib.hid hkl
    have HTS := Lib.hid hts
    have HBD := Lib.hid hbd
    clear hk hts hbd hkf hkz
    obtain ⟨pv, hpv⟩ : ∃ pv, pv = partV k := ⟨_, rfl⟩
    have hpc := partOf_any k
    rw [← hpv] at hpc
    unfold partV at hpv
    have HPC := Lib.hid hpc
    clear hpc
    by_cases c1 : k.d.copies = true
    · rw [if_pos c1] at hpv
      subst hpv
      have hcf : 0 ≤ k.f ∧ k.f + k.z ≤ base ∧ 1 ≤ k.z := by
        rcases hkok with ⟨_, h1, h2⟩ | h
        · simp only [Dp.copies, Bool.and_eq_true, decide_eq_true_eq] at c1
          exact ⟨h1, h2, c1.1⟩
        · rw [Dp.copies_not_literal c1] at h; cases h
      obtain ⟨hcf1, hcf2, hcf3⟩ := hcf
      have hen : k.d.enc = enc (2 * k.z.toNat + 1) ++ enc k.f.toNat := by unfold Dp.enc; rw [if_pos c1]; rfl
      obtain ⟨fn, hfn⟩ := Int.eq_ofNat_of_zero_le hcf1
      obtain ⟨zn, hzn⟩ := Int.eq_ofNat_of_zero_le (show 0 ≤ k.z by omega)
      rw [hfn, hzn, Int.toNat_natCast, Int.toNat_natCast] at hen
      rw [hfn] at hcf1 hcf2
      rw [hzn] at hcf2 hcf3
      have hpu1 : ∀ w', Calls Try.prog 46 #[.slice none 0 0, .int .u64 (2 * (zn : Int) + 1)] w' (NewBytes w' (enc (2 * zn + 1))) := fun w' => by
        have h := PutUint_any none 0 0 [] (2 * zn + 1) w' (Bytes.nil _) (by omega) (by omega)
        rwa [List.nil_append, show ((2 * zn + 1 : Nat) : Int) = 2 * (zn : Int) + 1 by omega] at h
      have hpu2 : ∀ w', Calls Try.prog 46 #[.slice none 0 0, .int .u64 (fn : Int)] w' (NewBytes w' (enc fn)) := fun w' => by
        have h := PutUint_any none 0 0 [] fn w' (Bytes.nil _) (by omega) (by omega)
        rwa [List.nil_append] at h
      have hl1 := enc_le10 (v := 2 * zn + 1) (by omega)
      have hl2 := enc_le10 (v := fn) (by omega)
      have HEN := Lib.hid hen
      rw [hfn, hzn] at HPC
      clear hen c1 hkok hkl hksz
      go_wp2_with (first
          | ((with_reducible refine atSlot 30 ?_); refine wpList_of_wp rfl (owp_ix (o := ⟨some 30, _, _, _, _, _⟩) _ _ rfl Try.elO rfl hr1 j rfl rfl hjn ?_); intro b3 o3 hc3; have hrg3 := od_range HK.out hc3; clear hc3)
          | ((with_reducible refine atSlot 31 ?_); refine wpList_of_wp rfl (wp_load_mid (op := ⟨some 31, _, _, _, _, _⟩) 83 _ rfl b3 o3 rfl k.cells _ hrg3 Try.underlying83 rfl (by kernel_rfl) ?_); simp only [Od.cells])
          | (go_at_call 47; (with_reducible refine (HPC.out _ HKL.out).mono ?_); rintro e w4 ⟨rfl, hx4⟩; clear hrg3)
          | (go_at_call 46; (with_reducible refine (hpu1 _).mono ?_); rintro e w5 ⟨a5, m5, c5, rfl, ho5, hx5⟩; have hbx4 := heap_alloc_new w4 (.cells #[.int .i64 (fn : Int), .int .i64 (zn : Int)] 73); have E4 := (Ext.alloc' w3 (.cells #[.int .i64 (fn : Int), .int .i64 (zn : Int), .slice k.a k.n k.c] 83)).trans' (hx4.trans' (Ext.alloc' w4 (.cells #[.int .i64 (fn : Int), .int .i64 (zn : Int)] 73))); have hbx5 := hx5.heap' hbx4; have E5 := E4.trans' hx5)
          | ((with_reducible refine atSlot 44 ?_); have hm5 := own_len ho5; refine wpList_of_wp rfl (owp_appB (w0 := w) (o := ⟨some 44, _, _, _, _, _⟩) _ _ rfl Try.elB rfl (own_ext hown E5) rfl (Bytes.of_own ho5) (by have := HBD.out; omega) (hx3.trans' E5) ?_); intro a6 c6 w6 ho6 hx6 hk6; have hbx6 := hk6 _ _ _ hbx5 (by decide); have hbk6 := fun j => cell_of_row w6 w4.heap.size j _ _ _ hbx6; have HM5 := Lib.hid hm5; have HBX := Lib.hid hbx6; clear hm5 hbx4 hbx5 hbx6 hk6)
          | (go_at_call 46; (with_reducible refine (hpu2 _).mono ?_); rintro e w7 ⟨a7, m7, c7, rfl, ho7, hx7⟩)
          | ((with_reducible refine atSlot 50 ?_); have hm7 := own_len ho7; refine wpList_of_wp rfl (owp_appB (w0 := w) (o := ⟨some 50, _, _, _, _, _⟩) _ _ rfl Try.elB rfl (own_ext ho6 hx7) rfl (Bytes.of_own ho7) (by have := HBD.out; have := HM5.out; omega) (hx6.trans' hx7) ?_); intro a8 c8 w8 ho8 hx8 hk8; clear hm7 hk8 hbk6)
          | fail)
      go_roundw
      case rel =>
        refine ⟨j + 1, _, _, _, by go_num, rfl, by have := HLN.out; omega, ?_, hx8⟩
        rw [HTS.out, encOps_append, encOps_one, HEN.out, ← List.append_assoc, ← List.append_assoc]
        exact ho8
      case measure => simp [intOf]; omega
    · have c2' : k.d.copies = false := by simpa using c1
      have hlit : k.d.literal = true := by
        rcases hkok with ⟨h, _⟩ | h
        · exact absurd h c1
        · exact h
      rw [if_neg c1, if_pos hlit] at hpv
      subst hpv
      have hen : k.d.enc = enc (2 * k.n) ++ k.l := by unfold Dp.enc; rw [c2']; simp only [Bool.false_eq_true, if_false]; rw [← hkl]; rfl
      have hkn : k.n ≤ 1048576 := by
        have h1 : k.d.size = k.n := by unfold Dp.size; rw [c2']; exact hkl
        have := HSZ.out; omega
      have hpu1 : ∀ w', Calls Try.prog 46 #[.slice none 0 0, .int .u64 (2 * (k.n : Int))] w' (NewBytes w' (enc (2 * k.n))) := fun w' => by
        have h := PutUint_any none 0 0 [] (2 * k.n) w' (Bytes.nil _) (by omega) (by omega)
        rwa [List.nil_append, show ((2 * k.n : Nat) : Int) = 2 * (k.n : Int) by omega] at h
      have hl1 := enc_le10 (v := 2 * k.n) (by omega)
      have HEN := Lib.hid hen
      clear hen c1 c2' hlit hkok hkl hksz
      go_wp2_with (first
          | ((with_reducible refine atSlot 30 ?_); refine wpList_of_wp rfl (owp_ix (o := ⟨some 30, _, _, _, _, _⟩) _ _ rfl Try.elO rfl hr1 j rfl rfl hjn ?_); intro b3 o3 hc3; have hrg3 := od_range HK.out hc3; clear hc3)
          | ((with_reducible refine atSlot 31 ?_); refine wpList_of_wp rfl (wp_load_mid (op := ⟨some 31, _, _, _, _, _⟩) 83 _ rfl b3 o3 rfl k.cells _ hrg3 Try.underlying83 rfl (by kernel_rfl) ?_); simp only [Od.cells])
          | (go_at_call 47; (with_reducible refine (HPC.out _ HKL.out).mono ?_); rintro e w4 ⟨rfl, hx4⟩; clear hrg3)
          | (go_at_call 46; (with_reducible refine (hpu1 _).mono ?_); rintro e w5 ⟨a5, m5, c5, rfl, ho5, hx5⟩; have hbx4 := heap_alloc_new w4 (.cells #[.slice k.a k.n k.c] 77); have E4 := (Ext.alloc' w3 (.cells #[.int .i64 k.f, .int .i64 k.z, .slice k.a k.n k.c] 83)).trans' (hx4.trans' (Ext.alloc' w4 (.cells #[.slice k.a k.n k.c] 77))); have hbx5 := hx5.heap' hbx4; have E5 := E4.trans' hx5)
          | ((with_reducible refine atSlot 61 ?_); have hm5 := own_len ho5; refine wpList_of_wp rfl (owp_appB (w0 := w) (o := ⟨some 61, _, _, _, _, _⟩) _ _ rfl Try.elB rfl (own_ext hown E5) rfl (Bytes.of_own ho5) (by have := HBD.out; omega) (hx3.trans' E5) ?_); intro a6 c6 w6 ho6 hx6 hk6; have hbx6 := hk6 _ _ _ hbx5 (by decide); have hbk6 := fun j => cell_of_row w6 w4.heap.size j _ _ _ hbx6; have HM5 := Lib.hid hm5; clear hm5 hbx4 hbx5 hbx6 hk6)
          | ((with_reducible refine atSlot 65 ?_); refine wpList_of_wp rfl (owp_appB (w0 := w) (o := ⟨some 65, _, _, _, _, _⟩) _ _ rfl Try.elB rfl ho6 rfl (HKD.out _ hx6) (by have := HBD.out; have := HM5.out; omega) hx6 ?_); intro a8 c8 w8 ho8 hx8 hk8; clear hk8 hbk6)
          | fail)
      go_roundw
      case rel =>
        refine ⟨j + 1, _, _, _, by go_num, rfl, by have := HLN.out; omega, ?_, hx8⟩
        rw [HTS.out, encOps_append, encOps_one, HEN.out, ← List.append_assoc, ← List.append_assoc]
        exact ho8
      case measure => simp [intOf]; omega
end Go.Proofs.Ytkhjeeaojlaagaa
