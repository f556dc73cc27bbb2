/-
  manifest.Missing.
-/
import Derived.Test.YtpiodpljiklfkaaCacS
import Derived.Test.YtpiodpljiklfkaaCacR
import Derived.Test.YtpiodpljiklfkaaRefH
namespace Go.Proofs.Ytpiodpljiklfkaa
open Go.RowKit Go.WideMaps
theorem run_makeMapH {P : Program} {t kt et : TypeId} (ht : P.underlying t = some (.map kt et)) (kd : IntKind) (n : Int) (w : World) : (Instr.makeMap t (some (.int kd n))).run P w = .ok (.map (some w.heap.size)) (w.alloc (.map #[] 0)) := by
  simp [Instr.makeMap, run_underlying ht, asInt, asIntOf]
/-- The operation at hand stores into the map in slot k. -/
theorem atPut {P : Program} {ops : Array Oper} {Q : Exit → Act → World → Prop} {rest : List Oper} {a : Act} {w : World} (k : Nat) {mt : TypeId} {x v : Operand} {ty : TypeId} {pos : String} {af : Array Edge} {gd : Option (Nat × Bool)}
    (h : wpList P ops Q (⟨none, .mapUpdate mt (.tmp k) x v, ty, pos, af, gd⟩ :: rest) a w) : wpList P ops Q (⟨none, .mapUpdate mt (.tmp k) x v, ty, pos, af, gd⟩ :: rest) a w := h
/-- The keys of T. -/
def inF (T : List (Nat × Int)) (k : KI) : Option Value := if k.1 ∈ T then some (.bool true) else none
theorem inF_getD (T : List (Nat × Int)) (k : KI) : (inF T k).getD (.bool false) = .bool (decide (k.1 ∈ T)) := by
  unfold inF
  by_cases h : k.1 ∈ T
  · rw [if_pos h, decide_eq_true h]; rfl
  · rw [if_neg h, decide_eq_false h]; rfl
open Classical in
theorem inF_put {T T' : List (Nat × Int)} {k : KI} (h : ∀ x, x ∈ T' ↔ x = k.1 ∨ x ∈ T) (y : KI) : inF T' y = if y = k then some (.bool true) else inF T y := by
  unfold inF
  by_cases hy : y = k
  · rw [if_pos hy, if_pos ((h y.1).2 (.inl (by rw [hy])))]
  · rw [if_neg hy]
    have : (y.1 ∈ T') ↔ (y.1 ∈ T) := by
      rw [h]
      exact ⟨fun h => h.resolve_left fun e => hy (Subtype.ext e), .inr⟩
    by_cases h2 : y.1 ∈ T
    · rw [if_pos h2, if_pos (this.2 h2)]
    · rw [if_neg h2, if_neg (fun h => h2 (this.1 h))]
theorem inF_same {T T' : List (Nat × Int)} (h : ∀ x, x ∈ T' ↔ x ∈ T) (y : KI) : inF T' y = inF T y := by
  unfold inF
  by_cases h2 : y.1 ∈ T
  · rw [if_pos h2, if_pos ((h _).2 h2)]
  · rw [if_neg h2, if_neg (fun h' => h2 ((h _).1 h'))]
/-- IDs that are keys. -/
def IdsK (K : List (Nat × Int)) : Prop := ∀ k ∈ K, k.1 ≤ 18446744073709551615 ∧ -9223372036854775808 ≤ k.2 ∧ k.2 ≤ 9223372036854775807
theorem Ids1.keys {K : List (Nat × Int)} (h : Ids1 K) : IdsK K := fun k hk => by
  obtain ⟨h1, h2, h3⟩ := h k hk
  exact ⟨by omega, by omega, by omega⟩
theorem take_mem {K : List (Nat × Int)} {j : Nat} {k : Nat × Int} (h : K[j]? = some k) (x : Nat × Int) : x ∈ K.take (j + 1) ↔ x = k ∨ x ∈ K.take j := by
  rw [List.take_add_one, h]
  simp only [Option.toList_some, List.mem_append, List.mem_singleton]
  exact or_comm
/-- What Missing answers. -/
def MissO (w : World) (K H : List (Nat × Int)) (S : Int) (en : Ending) (w' : World) : Prop :=
  Ext w w' ∧ (chkV K S ≠ 0 ∧ en = .returned (.tuple #[.slice none 0 0, .int .i64 (chkV K S)]) ∨
    chkV K S = 0 ∧ ∃ (a : Option Addr) (n c : Nat) (D : List (Nat × Int)), en = .returned (.tuple #[.slice a n c, .int .i64 0]) ∧ D.length = n ∧ n ≤ K.length ∧ (∀ k, k ∈ D ↔ k ∈ K ∧ k ∉ H) ∧ w'.ownsRow w.heap.size 45 2 (.slice a n c) n (D.flatMap idCells))
def M1Rel (w : World) (b n : Nat) (H : List (Nat × Int)) (i : Value) (wr : World) : Prop := ∃ j : Nat, i = .int .i64 j ∧ j ≤ n ∧ MapF kvI wr b (inF (H.take j)) ∧ Chg [b] w wr
def M2Rel (w : World) (b n : Nat) (H K : List (Nat × Int)) (out i : Value) (wr : World) : Prop :=
  ∃ (j m cp : Nat) (a : Option Addr) (D : List (Nat × Int)), i = .int .i64 j ∧ j ≤ n ∧ out = .slice a m cp ∧ D.length = m ∧ m ≤ j ∧ (∀ k, k ∈ D ↔ k ∈ K.take j ∧ k ∉ H) ∧ MapF kvI wr b (inF (H ++ K.take j)) ∧ wr.ownsRow w.heap.size 45 2 (.slice a m cp) m (D.flatMap idCells) ∧ Ext w wr
theorem map_apart {κ : Type} {kv : κ → Value} {w w' : World} {b : Nat} {f : κ → Option Value} {B e s n c : Nat} {a : Option Addr} {xs : List Value} (h : MapF kv w b f) (ho : w.ownsRow B e s (.slice a n c) n xs) (hg : w.grownBy w' (blockOf a)) : MapF kv w' b f := by
  obtain ⟨es, cl, h1, h2⟩ := h
  refine ⟨es, cl, (hg.block b (Array.getElem?_eq_some_iff.1 h1).1 fun e => ?_).trans h1, h2⟩
  cases ha : blockOf a with
  | none => rw [ha] at e; cases e
  | some k =>
    rw [ha] at e
    obtain rfl : b = k := by simpa using e
    obtain ⟨cur, hc⟩ := own_heap ho ha
    rw [h1] at hc
    cases hc

set_option maxRecDepth 100000 in
set_option maxHeartbeats 8000000 in
theorem Missing_any (S : Int) (a : Option Addr) (n c : Nat) (K : List (Nat × Int)) (ha : Option Addr) (hn hc : Nat) (H : List (Nat × Int)) (w : World) (hr : Row w a n c 2 (K.flatMap idCells)) (hln : K.length = n) (hn5 : n ≤ 100) (hK : Ids1 K)
    (hh : Row w ha hn hc 2 (H.flatMap idCells)) (hhl : H.length = hn) (hhn : hn ≤ 1000000000) (hHk : IdsK H) :
    Calls Try.prog 31 #[.agg #[.int .i64 S, .slice a n c], .slice ha hn hc] w (MissO w K H S) := by
  have hx1 := Ext.alloc' w (.cells #[.int .i64 S, .slice a n c] 60)
  have hh1 := heap_alloc_new w (.cells #[.int .i64 S, .slice a n c] 60)
  have HR := Lib.hid hr
  have HH := Lib.hid hh
  have HL := Lib.hid hln
  have HHL := Lib.hid hhl
  have HK := Lib.hid hK
  have HHK := Lib.hid hHk
  have hmm := run_makeMapH Try.underlying95 .i64
  clear hr hh hln hhl hK hHk
  go_enter Try.func31, Try.ntmps31
  go_upto_region 1 with fail
  generalize w.alloc (.cells #[.int .i64 S, .slice a n c] 60) = w1 at hx1 hh1 ⊢
  have r1 := range_of_heap2 hh1
  go_upto_region 2 with (first
    | ((with_reducible refine atSlot 13 ?_); refine wpList_of_wp rfl (wp_load_mid (op := ⟨some 13, _, _, _, _, _⟩) 60 _ rfl w.heap.size 0 rfl [.int .i64 S, .slice a n c] _ r1 Try.underlying60 rfl (by kernel_rfl) ?_); clear r1)
    | (go_at_call 46; (with_reducible refine (mCheck_any S a n c K _ (HR.out.ext hx1) HL.out hn5 HK.out).mono ?_); rintro en w2 ⟨rfl, hx2⟩)
    | fail)
  have HX2 := Lib.hid (hx1.trans' hx2)
  have hc1 := cell_of_row w2 w.heap.size 1 _ _ _ (hx2.heap' hh1)
  have HH1 := Lib.hid (hx2.heap' hh1)
  clear hx1 hx2 hh1
  by_cases hck : chkV K S = 0
  rotate_left
  · obtain ⟨q1, q2⟩ := ne0 hck
    have HCK := Lib.hid hck
    clear hck
    go_wp2
    go_ret2
    exact ⟨HX2.out, .inl ⟨HCK.out, rfl⟩⟩
  have HCK := Lib.hid hck
  rw [hck]
  clear hck
  go_wp2
  have hmp : MapF kvI (w2.alloc (.map #[] 0)) w2.heap.size (inF (H.take 0)) := (MapF.new w2).congr fun y => by simp [inF]
  have hx3 := Ext.alloc' w2 (.map #[] 0)
  obtain ⟨b, hb⟩ : ∃ b, b = w2.heap.size := ⟨_, rfl⟩
  have hzb : w.heap.size ≤ b := by rw [hb]; exact HX2.out.size
  have hbw : w.heap.size ∉ [b] := fun h => by
    have h1 := List.mem_singleton.1 h
    have h2 := (Array.getElem?_eq_some_iff.1 HH1.out).1
    omega
  rw [← hb] at hmp ⊢
  generalize w2.alloc (.map #[] 0) = w3 at hmp hx3 ⊢
  have HX3 := Lib.hid (HX2.out.trans' hx3)
  have HH3 := Lib.hid (hx3.heap' HH1.out)
  have HMP := Lib.hid hmp
  clear hb hmp hx3 hc1 HH1 hmm
  go_loopw [23] (M1Rel w3 b hn H) (fun i _ => hn - (intOf i).toNat)
  case atStart => exact ⟨0, rfl, Nat.zero_le _, HMP.out, Chg.refl _ _⟩
  case round =>
    obtain ⟨j, rfl, hj, hm, hc3⟩ := hrel
    rename World => w4
    have hx : Ext w w4 := ext_of_chg HX3.out hc3 (fun k hk => by rw [List.mem_singleton.1 hk]; exact hzb)
    have HC3 := Lib.hid hc3
    clear hc3
    by_cases hjn : j < hn
    · obtain ⟨k, hk⟩ : ∃ k, H[j]? = some k := ⟨_, List.getElem?_eq_getElem (by have := HHL.out; omega)⟩
      have hkk := HHK.out k (List.mem_of_getElem? hk)
      obtain ⟨kk, hk1, hkv⟩ := key_of hkk.1 hkk.2
      have HK2 := Lib.hid hk
      have HK1 := Lib.hid hk1
      have HKV := Lib.hid hkv
      have HM := Lib.hid hm
      have hrow := HH.out.ext hx
      have HP := Lib.hid (put_new w4 #[.int .u64 0, .int .i64 0] #[.int .u64 k.1, .int .i64 k.2] 45)
      have HN := Lib.hid (heap_alloc_new w4 (.cells #[.int .u64 0, .int .i64 0] 45))
      clear hk hkk hk1 hkv hm
      go_upto_region 8 with (first
        | ((with_reducible refine atSlot 25 ?_); refine wpList_of_wp rfl (owp_ix (o := ⟨some 25, _, _, _, _, _⟩) _ _ rfl Try.elId rfl hrow j rfl rfl hjn ?_); intro b3 o3 hc3; have hid3 := id_range HK2.out hc3; clear hc3)
        | ((with_reducible refine atSlot 26 ?_); refine wpList_of_wp rfl (wp_load_mid (op := ⟨some 26, _, _, _, _, _⟩) 45 _ rfl b3 o3 rfl [.int .u64 k.1, .int .i64 k.2] _ hid3 Try.underlying45 rfl (by kernel_rfl) ?_); clear hid3)
        | ((with_reducible refine atStore 9 ?_); refine wpList_of_wp rfl (wp_store_row (o := ⟨none, _, _, _, _, _⟩) _ _ _ rfl w4.heap.size #[.int .u64 k.1, .int .i64 k.2] rfl rfl _ _ HN.out (by kernel_rfl) rfl (by simp [Value.oneCell']) ?_))
        | fail)
      obtain ⟨hx5, hh5⟩ := HP.out
      clear HP HN hrow
      generalize (w4.alloc (.cells #[.int .u64 0, .int .i64 0] 45)).setRow w4.heap.size #[.int .u64 k.1, .int .i64 k.2] = w5 at hx5 hh5 ⊢
      have hr5 := range_of_heap2 hh5
      have hm5 := HM.out.ext hx5
      go_wp2_with (first
        | ((with_reducible refine atSlot 28 ?_); refine wpList_of_wp rfl (wp_load_mid (op := ⟨some 28, _, _, _, _, _⟩) 45 _ rfl w4.heap.size 0 rfl [.int .u64 k.1, .int .i64 k.2] _ hr5 Try.underlying45 rfl (by kernel_rfl) ?_); clear hr5)
        | ((with_reducible refine atPut 27 ?_); refine wpList_of_wp rfl (owp_put (o := ⟨none, _, _, _, _, _⟩) Try.kvI _ _ _ rfl Try.underlying95 rfl hm5 kk HKV.out.symm (val := .bool true) rfl ?_); intro w6 hm6 hg6; have hx6 := (HC3.out.trans' (Chg.of_ext hx5)).trans' (Chg.of_grown hg6 (List.mem_singleton.2 rfl)); have HM6 := Lib.hid hm6; clear hm6 hg6)
        | fail)
      go_roundw
      case rel =>
        refine ⟨j + 1, by go_num, hjn, HM6.out.congr fun y => ?_, hx6⟩
        exact inF_put (fun x => by rw [HK1.out]; exact take_mem HK2.out x) y
      case measure => simp [intOf]; omega
    · obtain rfl : j = hn := by omega
      have HM := Lib.hid (show MapF kvI w4 b (inF (H ++ K.take 0)) from by rw [List.take_of_length_le (by have := HHL.out; omega)] at hm; simpa using hm)
      have hcb := cell_of_row w4 w.heap.size 1 _ _ _ (HC3.out.heap HH3.out hbw)
      clear hm hj hjn
      go_wp2
      go_loopw [10, 33] (M2Rel w b n H K) (fun _ i _ => n - (intOf i).toNat)
      case atStart => exact ⟨0, 0, 0, none, [], rfl, Nat.zero_le _, rfl, rfl, Nat.zero_le _, (fun k => by simp), HM.out, own_nil _ _ _ _, hx⟩
      case round =>
        obtain ⟨i, m, cp, a1, D, rfl, hi, rfl, hD, hmi, hDm, hm, ho, hx5⟩ := hrel
        rename World => w5
        by_cases hin : i < n
        · obtain ⟨k, hk⟩ : ∃ k, K[i]? = some k := ⟨_, List.getElem?_eq_getElem (by have := HL.out; omega)⟩
          have hkk := HK.out.keys k (List.mem_of_getElem? hk)
          obtain ⟨kk, hk1, hkv⟩ := key_of hkk.1 hkk.2
          have HK2 := Lib.hid hk
          have HK1 := Lib.hid hk1
          have HKV := Lib.hid hkv
          have HM5 := Lib.hid hm
          have HO5 := Lib.hid ho
          have HDL := Lib.hid hD
          have HDM := Lib.hid hDm
          have hrow := HR.out.ext hx5
          have HP := Lib.hid (put_new w5 #[.int .u64 0, .int .i64 0] #[.int .u64 k.1, .int .i64 k.2] 45)
          have HN := Lib.hid (heap_alloc_new w5 (.cells #[.int .u64 0, .int .i64 0] 45))
          clear hk hkk hk1 hkv hm ho hD hDm
          go_upto_region 14 with (first
            | ((with_reducible refine atSlot 35 ?_); refine wpList_of_wp rfl (owp_ix (o := ⟨some 35, _, _, _, _, _⟩) _ _ rfl Try.elId rfl hrow i rfl rfl hin ?_); intro b3 o3 hc3; have hid3 := id_range HK2.out hc3; clear hc3)
            | ((with_reducible refine atSlot 36 ?_); refine wpList_of_wp rfl (wp_load_mid (op := ⟨some 36, _, _, _, _, _⟩) 45 _ rfl b3 o3 rfl [.int .u64 k.1, .int .i64 k.2] _ hid3 Try.underlying45 rfl (by kernel_rfl) ?_); clear hid3)
            | ((with_reducible refine atStore 12 ?_); refine wpList_of_wp rfl (wp_store_row (o := ⟨none, _, _, _, _, _⟩) _ _ _ rfl w5.heap.size #[.int .u64 k.1, .int .i64 k.2] rfl rfl _ _ HN.out (by kernel_rfl) rfl (by simp [Value.oneCell']) ?_))
            | fail)
          obtain ⟨hx6, hh6⟩ := HP.out
          clear HP HN hrow
          generalize (w5.alloc (.cells #[.int .u64 0, .int .i64 0] 45)).setRow w5.heap.size #[.int .u64 k.1, .int .i64 k.2] = w6 at hx6 hh6 ⊢
          have hr6 := range_of_heap2 hh6
          have hm6 := HM5.out.ext hx6
          have hlk := inF_getD (H ++ K.take i) kk
          rw [HK1.out] at hlk
          have hbz : w6.heap.size ≠ b ∧ w5.heap.size ≠ b := by
            have h1 := HM5.out.lt
            have h2 := hx6.size
            omega
          by_cases hin2 : k ∈ H ++ K.take i
          · rw [decide_eq_true hin2] at hlk
            have HLK := Lib.hid hlk
            have HIN := Lib.hid hin2
            clear hlk hin2
            go_wp2_with (first
              | ((with_reducible refine atSlot 38 ?_); refine wpList_of_wp rfl (wp_load_mid (op := ⟨some 38, _, _, _, _, _⟩) 45 _ rfl w5.heap.size 0 rfl [.int .u64 k.1, .int .i64 k.2] _ hr6 Try.underlying45 rfl (by kernel_rfl) ?_); clear hr6)
              | ((with_reducible refine atSlot 39 ?_); refine wpList_of_wp rfl (owp_look (z := .bool false) (o := ⟨some 39, _, _, _, _, _⟩) Try.kvI _ _ rfl Try.underlying95 (zero_of (by kernel_rfl) _) rfl hm6 kk HKV.out.symm ?_); simp only [Bool.false_eq_true, if_false]; rw [HLK.out])
              | fail)
            go_roundw
            case rel =>
              refine ⟨i + 1, m, cp, a1, D, by go_num, hin, rfl, HDL.out, by omega, fun x => ?_, hm6.congr fun y => ?_, own_ext HO5.out hx6, hx5.trans' hx6⟩
              · rw [HDM.out, take_mem HK2.out]
                have h := HIN.out
                rw [List.mem_append] at h
                constructor
                · exact fun hh => ⟨.inr hh.1, hh.2⟩
                · rintro ⟨h1 | h1, h2⟩
                  · subst h1; exact ⟨h.resolve_left h2, h2⟩
                  · exact ⟨h1, h2⟩
              · refine inF_same (fun x => ?_) y
                rw [List.mem_append, List.mem_append, take_mem HK2.out]
                have h := HIN.out
                rw [List.mem_append] at h
                constructor
                · rintro (h1 | h1 | h1)
                  · exact .inl h1
                  · subst h1; exact h
                  · exact .inr h1
                · rintro (h1 | h1)
                  · exact .inl h1
                  · exact .inr (.inr h1)
            case measure => simp [intOf]; omega
          · rw [decide_eq_false hin2] at hlk
            have HLK := Lib.hid hlk
            have HIN := Lib.hid hin2
            have HH6 := Lib.hid hh6
            have hmz : m ≤ 100 := by omega
            have hone := id_one [(k.1, k.2)]
            have hx56 := hx5.trans' hx6
            clear hlk hin2
            go_wp2_with (first
              | ((with_reducible refine atSlot 38 ?_); refine wpList_of_wp rfl (wp_load_mid (op := ⟨some 38, _, _, _, _, _⟩) 45 _ rfl w5.heap.size 0 rfl [.int .u64 k.1, .int .i64 k.2] _ hr6 Try.underlying45 rfl (by kernel_rfl) ?_))
              | ((with_reducible refine atSlot 39 ?_); refine wpList_of_wp rfl (owp_look (z := .bool false) (o := ⟨some 39, _, _, _, _, _⟩) Try.kvI _ _ rfl Try.underlying95 (zero_of (by kernel_rfl) _) rfl hm6 kk HKV.out.symm ?_); simp only [Bool.false_eq_true, if_false]; rw [HLK.out])
              | ((with_reducible refine atSlot 42 ?_); refine wpList_of_wp rfl (wp_load_mid (op := ⟨some 42, _, _, _, _, _⟩) 45 _ rfl w5.heap.size 0 rfl [.int .u64 k.1, .int .i64 k.2] _ hr6 Try.underlying45 rfl (by kernel_rfl) ?_); clear hr6)
              | ((with_reducible refine atPut 41 ?_); refine wpList_of_wp rfl (owp_put (o := ⟨none, _, _, _, _, _⟩) Try.kvI _ _ _ rfl Try.underlying95 rfl hm6 kk HKV.out.symm (val := .bool true) rfl ?_); intro w7 hm7 hg7; have hx7 : Ext w w7 := hx56.grown hg7 hx56.size (fun k hk => by cases hk; exact hzb); have hh7 := (hg7.block _ (Array.getElem?_eq_some_iff.1 HH6.out).1 (fun e => hbz.2 (by simpa using e))).trans HH6.out; have hr7 := range_of_heap2 hh7; have HM7 := Lib.hid hm7; have HG7 := Lib.hid hg7; clear hm7 hg7 hh7; refine Stop.of ?_)
              | fail)
            have ho7 := own_other (own_ext HO5.out hx6) HG7.out (fun e => by
              obtain ⟨es, cl, h1, -⟩ := hm6
              obtain ⟨cur, h2⟩ := own_heap (own_ext HO5.out hx6) e
              rw [h1] at h2
              cases h2)
            have hal := Ext.alloc' w7 (.cells #[.int .u64 k.1, .int .i64 k.2] 45)
            have HO8 := Lib.hid (own_ext ho7 hal)
            have HX8 := Lib.hid (hx7.trans' hal)
            have hz8 : w.heap.size ≤ (w7.alloc (.cells #[.int .u64 k.1, .int .i64 k.2] 45)).heap.size := (hx7.trans' hal).size
            have HM8 := Lib.hid (HM7.out.ext hal)
            clear ho7 hal hm6 hh6 hbz
            refine Stop.out ?_
            go_wp2_with (first
              | ((with_reducible refine atSlot 44 ?_); refine wpList_of_wp rfl (wp_load_mid (op := ⟨some 44, _, _, _, _, _⟩) 45 _ rfl w5.heap.size 0 rfl [.int .u64 k.1, .int .i64 k.2] _ hr7 Try.underlying45 rfl (by kernel_rfl) ?_); clear hr7)
              | ((with_reducible refine atSlot 46 ?_); refine wpList_of_wp rfl (owp_app (o := ⟨some 46, _, _, _, _, _⟩) _ _ rfl Try.elId rfl HO8.out rfl (Row.new w7 #[.int .u64 k.1, .int .i64 k.2] 45 1 2 rfl (by decide)) hone (by omega) (by unfold maxLen; omega) hz8 ?_); intro a9 c9 w9 ho9 hg9; have HX9 := Lib.hid (below_app HX8.out HO8.out hg9 hz8); have HM9 := Lib.hid (map_apart HM8.out HO8.out hg9); have HO9 := Lib.hid ho9; clear ho9 hg9)
              | fail)
            go_roundw
            case rel =>
              refine ⟨i + 1, m + 1, c9, a9, D ++ [k], by go_num, hin, rfl, by rw [List.length_append, HDL.out]; rfl, by omega, fun x => ?_, HM9.out.congr fun y => ?_, by rw [List.flatMap_append]; exact HO9.out, HX9.out⟩
              · have h := HIN.out
                rw [List.mem_append] at h
                rw [List.mem_append, HDM.out, take_mem HK2.out, List.mem_singleton]
                constructor
                · rintro (h1 | h1)
                  · exact ⟨.inr h1.1, h1.2⟩
                  · subst h1; exact ⟨.inl rfl, fun h2 => h (.inl h2)⟩
                · rintro ⟨h1 | h1, h2⟩
                  · exact .inr h1
                  · exact .inl ⟨h1, h2⟩
              · refine inF_put (fun x => ?_) y
                rw [List.mem_append, List.mem_append, take_mem HK2.out, HK1.out]
                constructor
                · rintro (h1 | h1 | h1)
                  · exact .inr (.inl h1)
                  · exact .inl h1
                  · exact .inr (.inr h1)
                · rintro (h1 | h1 | h1)
                  · exact .inr (.inl h1)
                  · exact .inl h1
                  · exact .inr (.inr h1)
            case measure => simp [intOf]; omega
        · obtain rfl : i = n := by omega
          have HDM := Lib.hid hDm
          have HDL := Lib.hid hD
          have HO5 := Lib.hid ho
          clear hi hin hm hDm hD ho
          go_wp2
          go_ret2
          refine ⟨hx5, .inr ⟨HCK.out, a1, m, cp, D, rfl, HDL.out, by rw [HL.out]; exact hmi, fun k => ?_, HO5.out⟩⟩
          have h := HDM.out k
          rw [List.take_of_length_le (by rw [HL.out]; exact Nat.le_refl _)] at h
          exact h
end Go.Proofs.Ytpiodpljiklfkaa
