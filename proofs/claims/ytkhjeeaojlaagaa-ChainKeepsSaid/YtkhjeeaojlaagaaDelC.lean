/-
  The program's Check.
-/
import Derived.Test.YtkhjeeaojlaagaaDelB
namespace Go.Proofs.Ytkhjeeaojlaagaa
open Go.RowKit

/-! ### The program's -/
def isStruct (P : Program) (t : TypeId) : Bool := match P.underlying t with | some (.struct _) => true | _ => false
theorem isStruct_is {P : Program} {t : TypeId} (h : isStruct P t = true) : ∃ fs, P.underlying t = some (.struct fs) := by
  unfold isStruct at h
  split at h
  · rename_i fs h'; exact ⟨fs, h'⟩
  · cases h
theorem run_ta_yes {P : Program} {w : World} {t xT : TypeId} {v : Value} (hu : isStruct P t = true) : (Instr.typeAssert (.iface t v) xT t true).run P w = .ok (.tuple #[v, .bool true]) w := by
  obtain ⟨fs, h⟩ := isStruct_is hu
  simp [Instr.typeAssert, run_underlying h]
theorem run_ta_no {P : Program} {w : World} {t t' xT : TypeId} {v z : Value} (hne : (t == t') = false) (hu : isStruct P t' = true) (hz : (zeroValue t').run P w = .ok z w) :
    (Instr.typeAssert (.iface t v) xT t' true).run P w = .ok (.tuple #[z, .bool false]) w := by
  have hn : ¬ t = t' := by simpa using hne
  obtain ⟨fs, h⟩ := isStruct_is hu
  simp [Instr.typeAssert, run_underlying h, hn, hz, Result.andThen]
theorem zero_of {P : Program} {t : TypeId} {z : Value} (h : (P.info? t).map (·.zero) = some (some z)) (w : World) : (zeroValue t).run P w = .ok z w := by
  cases hi : P.info? t with
  | none => rw [hi] at h; cases h
  | some i =>
    rw [hi] at h
    have hz : i.zero = some z := by simpa using h
    simp [zeroValue, typeInfo, hi, hz]
theorem Try.zero_wrong (w : World) : (zeroValue 97).run Try.prog w = .ok (.agg #[]) w := zero_of (by kernel_rfl) w
theorem Try.zero_copied (w : World) : (zeroValue 73).run Try.prog w = .ok (.agg #[.int .i64 0, .int .i64 0]) w := zero_of (by kernel_rfl) w
theorem run_method_val {P : Program} {w : World} {t : TypeId} {f : FuncId} {name : String} (hs : isStruct P t = true)
    (h : ((P.info? t).bind fun i => (i.methods.find? (·.name == name)).map fun m => (m.path.size, m.func)) = some (0, some (f, false))) (n : Nat) (hn : 0 < n) (v : Value) : (method n t v name).run P w = .ok (f, v) w := by
  obtain ⟨k, rfl⟩ : ∃ k, n = k + 1 := ⟨n - 1, by omega⟩
  obtain ⟨fs, hu⟩ := isStruct_is hs
  cases hi : P.info? t with
  | none => rw [hi] at h; cases h
  | some i =>
    rw [hi] at h
    cases hm : i.methods.find? (·.name == name) with
    | none => simp [hm] at h
    | some m =>
      simp only [Option.bind_some, hm, Option.map_some, Option.some.injEq, Prod.mk.injEq] at h
      have hp : m.path.toList = [] := List.eq_nil_of_length_eq_zero (by simpa using h.1)
      simp [method, typeInfo, hi, hm, hp, h.2, follow, receiverAt, run_underlying hu, Place.get]
/-- What the type switches on parts answer. -/
structure Try.TA : Prop where
  cc : ∀ v w, (Instr.typeAssert (.iface 73 v) 85 73 true).run Try.prog w = .ok (.tuple #[v, .bool true]) w
  ll : ∀ v w, (Instr.typeAssert (.iface 77 v) 85 77 true).run Try.prog w = .ok (.tuple #[v, .bool true]) w
  ww : ∀ v w, (Instr.typeAssert (.iface 97 v) 85 97 true).run Try.prog w = .ok (.tuple #[v, .bool true]) w
  cw : ∀ v w, (Instr.typeAssert (.iface 73 v) 85 97 true).run Try.prog w = .ok (.tuple #[.agg #[], .bool false]) w
  lw : ∀ v w, (Instr.typeAssert (.iface 77 v) 85 97 true).run Try.prog w = .ok (.tuple #[.agg #[], .bool false]) w
  lc : ∀ v w, (Instr.typeAssert (.iface 77 v) 85 73 true).run Try.prog w = .ok (.tuple #[.agg #[.int .i64 0, .int .i64 0], .bool false]) w
theorem Try.mc : ∀ (n : Nat) (v : Value) (w : World), 0 < n → (method n 73 v "stockyard/delta.size").run Try.prog w = .ok (84, v) w := fun n v _ hn => run_method_val (by kernel_rfl) (by kernel_rfl) n hn v
theorem Try.ml : ∀ (n : Nat) (v : Value) (w : World), 0 < n → (method n 77 v "stockyard/delta.size").run Try.prog w = .ok (85, v) w := fun n v _ hn => run_method_val (by kernel_rfl) (by kernel_rfl) n hn v
theorem Try.ta : Try.TA where
  cc _ _ := run_ta_yes (by kernel_rfl)
  ll _ _ := run_ta_yes (by kernel_rfl)
  ww _ _ := run_ta_yes (by kernel_rfl)
  cw _ w := run_ta_no (by kernel_rfl) (by kernel_rfl) (Try.zero_wrong w)
  lw _ w := run_ta_no (by kernel_rfl) (by kernel_rfl) (Try.zero_wrong w)
  lc _ w := run_ta_no (by kernel_rfl) (by kernel_rfl) (Try.zero_copied w)
set_option maxRecDepth 100000 in
theorem copiedSize_any (f z : Int) (w : World) : Calls Try.prog 84 #[.agg #[.int .i64 f, .int .i64 z]] w (NewNone (.int .i64 z) w) := by
  go_enter Try.func84, Try.ntmps84
  go_wp2
  go_ret
  exact ⟨rfl, Ext.alloc' _ _⟩
set_option maxRecDepth 100000 in
theorem literalSize_any (a : Option Addr) (n c : Nat) (w : World) : Calls Try.prog 85 #[.agg #[.slice a n c]] w (NewNone (.int .i64 n) w) := by
  go_enter Try.func85, Try.ntmps85
  go_wp2
  go_ret
  exact ⟨rfl, Ext.alloc' _ _⟩
def CkRel2 (w : World) (L : List Od) (base : Int) (r : Int × Int) (n i : Value) (wr : World) : Prop := CkRel w L base r i n wr

set_option maxRecDepth 100000 in
set_option maxHeartbeats 4000000 in
theorem Check_any (base : Int) (a : Option Addr) (n c : Nat) (L : List Od) (w : World) (hL : Ops w a n c L) (hn : n ≤ 140737488355328) {n0 e0 : Int} (hr : ckRes base (L.map Od.d) = (n0, e0)) :
    Calls Try.prog 45 #[.int .i64 base, .slice a n c] w (NewNone (.tuple #[.int .i64 n0, .int .i64 e0]) w) := by
  have hlen := hL.1
  unfold ckRes at hr
  rw [List.length_map, hlen] at hr
  by_cases hb : base < 0
  · rw [if_pos (.inl hb)] at hr
    cases hr
    have hd : decide (base < 0) = true := decide_eq_true hb
    go_enter Try.func45, Try.ntmps45
    go_wp2
    go_ret2
    exact ⟨rfl, Below.refl _ _⟩
  have hd0 : decide (base < 0) = false := decide_eq_false hb
  by_cases hb2 : 1048576 < base
  · rw [if_pos (.inr hb2)] at hr
    cases hr
    have hd : decide (1048576 < base) = true := decide_eq_true hb2
    clear hb
    go_enter Try.func45, Try.ntmps45
    go_wp2
    go_ret2
    exact ⟨rfl, Below.refl _ _⟩
  have hd1 : decide (1048576 < base) = false := decide_eq_false hb2
  rw [if_neg (by omega)] at hr
  by_cases hn4 : 4096 < n
  · rw [if_pos hn4] at hr
    cases hr
    have hd : decide ((4096 : Int) < n) = true := by simp; omega
    go_enter Try.func45, Try.ntmps45
    go_wp2
    go_ret2
    exact ⟨rfl, Below.refl _ _⟩
  rw [if_neg hn4] at hr
  have hd2 : decide ((4096 : Int) < n) = false := by simp; omega
  have HL := Lib.hid hlen
  have HR := Lib.hid hr
  have hrow := hL.2.1
  have hb0 : 0 ≤ base := by omega
  have hb1 : base ≤ 1048576 := by omega
  have hn5 : n ≤ 4096 := by omega
  clear hlen hr hb hb2 hn4
  have tcc := Try.ta.cc
  have tww := Try.ta.ww
  have tcw := Try.ta.cw
  have tlw := Try.ta.lw
  have tlc := Try.ta.lc
  have mc := Try.mc
  have ml := Try.ml
  go_enter Try.func45, Try.ntmps45
  go_wp2
  clear hd0 hd1 hd2
  go_loopw [6, 23] (CkRel2 w L base (n0, e0)) (fun _ i _ => n - (intOf i).toNat)
  case atStart => exact ⟨0, 0, rfl, rfl, by omega, by omega, by simpa using HR.out, Below.refl _ _⟩
  case round =>
    obtain ⟨j, m, rfl, rfl, hj, hm, hinv, hx⟩ := hrel
    rename World => w1
    have hjn' : j ≤ n := by have := HL.out; omega
    have HI := Lib.hid hinv
    clear hinv
    by_cases hjn : j < n
    · obtain ⟨k, hk⟩ : ∃ k, L[j]? = some k := ⟨_, List.getElem?_eq_getElem (by have := HL.out; omega)⟩
      have hkI := (hL.2.2 k (List.mem_of_getElem? hk)).ext hx
      have hst := ckF_step hk HI.out
      have hkl := hkI.1.len
      obtain ⟨hkI1, hkI2, hkf, hkz⟩ := hkI
      unfold i64B at hkf hkz
      have hr1 := hrow.ext hx
      have HK := Lib.hid hk
      have HKL := Lib.hid hkl
      clear hk
      obtain ⟨pv, hpv⟩ : ∃ pv, pv = partV k := ⟨_, rfl⟩
      have hpc := partOf_any k
      rw [← hpv] at hpc
      unfold partV at hpv
      have HPC := Lib.hid hpc
      clear hpc
      rcases od_cases k hkl with ⟨c1, c2, h1, h2⟩ | ⟨c1, c2, h1, h2, h3⟩ | ⟨c1, c2, -, -⟩
      · rw [if_pos c1] at hpv
        subst hpv
        rw [if_neg (by rw [c1]; simp)] at hst
        have hsz : k.d.size = k.z.toNat := by unfold Dp.size; rw [c1]; rfl
        rw [hsz] at hst
        have t1 : True := trivial
        by_cases hf0 : k.f < 0 ∨ base < k.f ∨ base - k.f < k.z
        · rw [if_pos ⟨c1, hf0⟩] at hst
          cases hst
          clear c1 c2 hsz hkl h2
          by_cases hg : k.f < 0
          · have hd : decide (k.f < 0) = true := decide_eq_true hg
            clear hf0
            go_wp2_with (first
              | ((with_reducible refine atSlot 25 ?_); refine wpList_of_wp rfl (owp_ix (o := ⟨some 25, _, _, _, _, _⟩) _ _ rfl Try.elO rfl hr1 j rfl rfl hjn ?_); intro b3 o3 hc3; have hrg3 := od_range HK.out hc3; clear hc3)
              | ((with_reducible refine atSlot 26 ?_); refine wpList_of_wp rfl (wp_load_mid (op := ⟨some 26, _, _, _, _, _⟩) 83 _ rfl b3 o3 rfl k.cells _ hrg3 Try.underlying83 rfl (by kernel_rfl) ?_); simp only [Od.cells])
              | (go_at_call 47; (with_reducible refine (HPC.out _ HKL.out).mono ?_); rintro e w3 ⟨rfl, hx3⟩))
            go_ret2
            exact ⟨rfl, ((hx.trans' (Ext.alloc' w1 _)).trans' hx3).trans' (Ext.alloc' w3 _)⟩
          · have hd : decide (k.f < 0) = false := decide_eq_false hg
            by_cases hg2 : base < k.f
            · have hd' : decide (base < k.f) = true := decide_eq_true hg2
              clear hf0 hg
              go_wp2_with (first
                | ((with_reducible refine atSlot 25 ?_); refine wpList_of_wp rfl (owp_ix (o := ⟨some 25, _, _, _, _, _⟩) _ _ rfl Try.elO rfl hr1 j rfl rfl hjn ?_); intro b3 o3 hc3; have hrg3 := od_range HK.out hc3; clear hc3)
                | ((with_reducible refine atSlot 26 ?_); refine wpList_of_wp rfl (wp_load_mid (op := ⟨some 26, _, _, _, _, _⟩) 83 _ rfl b3 o3 rfl k.cells _ hrg3 Try.underlying83 rfl (by kernel_rfl) ?_); simp only [Od.cells])
                | (go_at_call 47; (with_reducible refine (HPC.out _ HKL.out).mono ?_); rintro e w3 ⟨rfl, hx3⟩))
              go_ret2
              exact ⟨rfl, ((hx.trans' (Ext.alloc' w1 _)).trans' hx3).trans' (Ext.alloc' w3 _)⟩
            · have hd' : decide (base < k.f) = false := decide_eq_false hg2
              have hd'' : decide (base - k.f < k.z) = true := decide_eq_true (by omega)
              have hg3 : 0 ≤ k.f := by omega
              have hg4 : k.f ≤ base := by omega
              clear hf0 hg hg2
              go_wp2_with (first
                | ((with_reducible refine atSlot 25 ?_); refine wpList_of_wp rfl (owp_ix (o := ⟨some 25, _, _, _, _, _⟩) _ _ rfl Try.elO rfl hr1 j rfl rfl hjn ?_); intro b3 o3 hc3; have hrg3 := od_range HK.out hc3; clear hc3)
                | ((with_reducible refine atSlot 26 ?_); refine wpList_of_wp rfl (wp_load_mid (op := ⟨some 26, _, _, _, _, _⟩) 83 _ rfl b3 o3 rfl k.cells _ hrg3 Try.underlying83 rfl (by kernel_rfl) ?_); simp only [Od.cells])
                | (go_at_call 47; (with_reducible refine (HPC.out _ HKL.out).mono ?_); rintro e w3 ⟨rfl, hx3⟩))
              go_ret2
              exact ⟨rfl, ((hx.trans' (Ext.alloc' w1 _)).trans' hx3).trans' (Ext.alloc' w3 _)⟩
        · rw [if_neg (fun h => hf0 h.2)] at hst
          have hg1 : 0 ≤ k.f := by omega
          have hg2 : k.f ≤ base := by omega
          have hg3 : k.z ≤ base := by omega
          have hd : decide (k.f < 0) = false := decide_eq_false (by omega)
          have hd' : decide (base < k.f) = false := decide_eq_false (by omega)
          have hd'' : decide (base - k.f < k.z) = false := decide_eq_false (by omega)
          clear c1 c2 hsz hkl hf0 h2
          by_cases hbig : 1048576 < m + k.z.toNat
          · rw [if_pos hbig] at hst
            cases hst
            have hd3 : decide ((1048576 : Int) - (m : Int) < k.z) = true := decide_eq_true (by omega)
            clear hbig
            go_wp2_with (first
              | ((with_reducible refine atSlot 25 ?_); refine wpList_of_wp rfl (owp_ix (o := ⟨some 25, _, _, _, _, _⟩) _ _ rfl Try.elO rfl hr1 j rfl rfl hjn ?_); intro b3 o3 hc3; have hrg3 := od_range HK.out hc3; clear hc3)
              | ((with_reducible refine atSlot 26 ?_); refine wpList_of_wp rfl (wp_load_mid (op := ⟨some 26, _, _, _, _, _⟩) 83 _ rfl b3 o3 rfl k.cells _ hrg3 Try.underlying83 rfl (by kernel_rfl) ?_); simp only [Od.cells])
              | (go_at_call 47; (with_reducible refine (HPC.out _ HKL.out).mono ?_); rintro e w3 ⟨rfl, hx3⟩)
              | (go_at_call 84; have _t := t1; (with_reducible refine (copiedSize_any k.f k.z _).mono ?_); rintro e w4 ⟨rfl, hx4⟩; clear t1))
            go_ret2
            exact ⟨rfl, (((hx.trans' (Ext.alloc' w1 _)).trans' hx3).trans' (Ext.alloc' w3 _)).trans' hx4⟩
          · rw [if_neg hbig] at hst
            have HST := Lib.hid hst
            have hd3 : decide ((1048576 : Int) - (m : Int) < k.z) = false := decide_eq_false (by omega)
            have hmz : m + k.z.toNat ≤ 1048576 := by omega
            clear hst hbig
            go_wp2_with (first
              | ((with_reducible refine atSlot 25 ?_); refine wpList_of_wp rfl (owp_ix (o := ⟨some 25, _, _, _, _, _⟩) _ _ rfl Try.elO rfl hr1 j rfl rfl hjn ?_); intro b3 o3 hc3; have hrg3 := od_range HK.out hc3; clear hc3)
              | ((with_reducible refine atSlot 26 ?_); refine wpList_of_wp rfl (wp_load_mid (op := ⟨some 26, _, _, _, _, _⟩) 83 _ rfl b3 o3 rfl k.cells _ hrg3 Try.underlying83 rfl (by kernel_rfl) ?_); simp only [Od.cells])
              | (go_at_call 47; (with_reducible refine (HPC.out _ HKL.out).mono ?_); rintro e w3 ⟨rfl, hx3⟩)
              | (go_at_call 84; have _t := t1; (with_reducible refine (copiedSize_any k.f k.z _).mono ?_); rintro e w4 ⟨rfl, hx4⟩; clear t1)
              | (go_at_call 84; (with_reducible refine (copiedSize_any k.f k.z _).mono ?_); rintro e w5 ⟨rfl, hx5⟩))
            go_roundw
            case rel => exact ⟨j + 1, m + k.z.toNat, by go_num, by congr 1; omega, by have := HL.out; omega, hmz, HST.out, ((((hx.trans' (Ext.alloc' w1 _)).trans' hx3).trans' (Ext.alloc' w3 _)).trans' hx4).trans' hx5⟩
            case measure => simp [intOf]; omega
      · rw [if_neg (by rw [c1]; decide), if_pos c2] at hpv
        subst hpv
        rw [if_neg (by rw [c2]; simp), if_neg (by rw [c1]; simp)] at hst
        have hsz : k.d.size = k.n := by unfold Dp.size; rw [c1]; exact hkl
        rw [hsz] at hst
        have t1 : True := trivial
        clear c1 c2 hsz hkl h1 h2
        by_cases hbig : 1048576 < m + k.n
        · rw [if_pos hbig] at hst
          cases hst
          have hd3 : decide ((1048576 : Int) - (m : Int) < k.n) = true := decide_eq_true (by omega)
          clear hbig
          go_wp2_with (first
            | ((with_reducible refine atSlot 25 ?_); refine wpList_of_wp rfl (owp_ix (o := ⟨some 25, _, _, _, _, _⟩) _ _ rfl Try.elO rfl hr1 j rfl rfl hjn ?_); intro b3 o3 hc3; have hrg3 := od_range HK.out hc3; clear hc3)
            | ((with_reducible refine atSlot 26 ?_); refine wpList_of_wp rfl (wp_load_mid (op := ⟨some 26, _, _, _, _, _⟩) 83 _ rfl b3 o3 rfl k.cells _ hrg3 Try.underlying83 rfl (by kernel_rfl) ?_); simp only [Od.cells])
            | (go_at_call 47; (with_reducible refine (HPC.out _ HKL.out).mono ?_); rintro e w3 ⟨rfl, hx3⟩)
            | (go_at_call 85; have _t := t1; (with_reducible refine (literalSize_any k.a k.n k.c _).mono ?_); rintro e w4 ⟨rfl, hx4⟩; clear t1))
          go_ret2
          exact ⟨rfl, ((hx.trans' (Ext.alloc' w1 _)).trans' hx3).trans' hx4⟩
        · rw [if_neg hbig] at hst
          have HST := Lib.hid hst
          have hd3 : decide ((1048576 : Int) - (m : Int) < k.n) = false := decide_eq_false (by omega)
          have hmz : m + k.n ≤ 1048576 := by omega
          clear hst hbig
          go_wp2_with (first
            | ((with_reducible refine atSlot 25 ?_); refine wpList_of_wp rfl (owp_ix (o := ⟨some 25, _, _, _, _, _⟩) _ _ rfl Try.elO rfl hr1 j rfl rfl hjn ?_); intro b3 o3 hc3; have hrg3 := od_range HK.out hc3; clear hc3)
            | ((with_reducible refine atSlot 26 ?_); refine wpList_of_wp rfl (wp_load_mid (op := ⟨some 26, _, _, _, _, _⟩) 83 _ rfl b3 o3 rfl k.cells _ hrg3 Try.underlying83 rfl (by kernel_rfl) ?_); simp only [Od.cells])
            | (go_at_call 47; (with_reducible refine (HPC.out _ HKL.out).mono ?_); rintro e w3 ⟨rfl, hx3⟩)
            | (go_at_call 85; have _t := t1; (with_reducible refine (literalSize_any k.a k.n k.c _).mono ?_); rintro e w4 ⟨rfl, hx4⟩; clear t1)
            | (go_at_call 85; (with_reducible refine (literalSize_any k.a k.n k.c _).mono ?_); rintro e w5 ⟨rfl, hx5⟩))
          go_roundw
          case rel => exact ⟨j + 1, m + k.n, by go_num, by first | rfl | (congr 1; omega), by have := HL.out; omega, hmz, HST.out, (((hx.trans' (Ext.alloc' w1 _)).trans' hx3).trans' hx4).trans' hx5⟩
          case measure => simp [intOf]; omega
      · rw [if_neg (by rw [c1]; decide), if_neg (by rw [c2]; decide)] at hpv
        subst hpv
        rw [if_pos ⟨c1, c2⟩] at hst
        cases hst
        clear c1 c2 hkl
        go_wp2_with (first
          | ((with_reducible refine atSlot 25 ?_); refine wpList_of_wp rfl (owp_ix (o := ⟨some 25, _, _, _, _, _⟩) _ _ rfl Try.elO rfl hr1 j rfl rfl hjn ?_); intro b3 o3 hc3; have hrg3 := od_range HK.out hc3; clear hc3)
          | ((with_reducible refine atSlot 26 ?_); refine wpList_of_wp rfl (wp_load_mid (op := ⟨some 26, _, _, _, _, _⟩) 83 _ rfl b3 o3 rfl k.cells _ hrg3 Try.underlying83 rfl (by kernel_rfl) ?_); simp only [Od.cells])
          | (go_at_call 47; (with_reducible refine (HPC.out _ HKL.out).mono ?_); rintro e w3 ⟨rfl, hx3⟩))
        go_ret2
        exact ⟨rfl, ((hx.trans' (Ext.alloc' w1 _)).trans' hx3).trans' (Ext.alloc' w3 _)⟩
    · obtain rfl : j = n := by omega
      have hend := HI.out
      rw [List.drop_of_length_le (by have := HL.out; omega), List.map_nil] at hend
      simp only [ckF, Prod.mk.injEq] at hend
      obtain ⟨rfl, rfl⟩ := hend
      go_wp2
      go_ret2
      exact ⟨rfl, hx⟩
end Go.Proofs.Ytkhjeeaojlaagaa
