/-
  The reference's begins, Salvage, Same.
-/
import Derived.Test.YtncdcpaelecikaaPackP
import Derived.Test.YtncdcpaelecikaaPackO
import Derived.Test.YtncdcpaelecikaaPackI
namespace Go.Proofs.Ytncdcpaelecikaa
open Go.RowKit

section
variable {P : Program}
theorem owp_ix {w : World} {o : Oper} {f : Act} {K : Act → World → Prop} {Q : Exit → Act → World → Prop} (xO iO : Operand) {t : TypeId}
    (ho : o.op = .indexAddr t xO iO) {e s b : Nat} {z : Value} (E : Elem P t e s b z) {a : Option Addr} {n c : Nat} {xs : List Value} (hx : f.eval xO = .slice a n c) (hr : Row w a n c s xs)
    (i : Nat) {k : IntKind} {I : Int} (hi : f.eval iO = .int k I) (hI : I = (i : Int)) (hin : i < n)
    (hk : ∀ b o', (∀ j, j < s → w.cell? ⟨b, o' + j, none⟩ = xs[i * s + j]?) → K (f.put o.dst (.pointer (some ⟨b, o', none⟩))) w) : o.wp P f w K Q := by
  have hle := hr.le
  cases ha : a with
  | none => have := hr.nil ha; omega
  | some p =>
    subst ha
    rcases hr.at_ p rfl with h0 | ⟨bb, oo, rfl⟩
    · omega
    subst hI
    have hrun := run_indexAt_slice (P := P) (w := w) t ⟨bb, oo, none⟩ n c k (i : Int) E.und'
    rw [if_pos (by omega), E.size] at hrun
    simp only [Result.andThen, Int.toNat_natCast, Addr.add_lit] at hrun
    unfold Oper.wp
    simp [execOp, ho, hx, hi, hrun, Result.andThen]
    refine hk _ _ fun j hj => ?_
    have hlt : i * s + j < xs.length := by
      rw [hr.len]
      have h1 : (i + 1) * s ≤ n * s := Nat.mul_le_mul_right s hin
      rw [Nat.add_mul, Nat.one_mul] at h1
      omega
    have := hr.cell _ rfl (i * s + j) _ (List.getElem?_eq_getElem hlt)
    rw [Addr.add_lit, ← Nat.add_assoc] at this
    rw [this, List.getElem?_eq_getElem hlt]
theorem owp_ixB {w : World} {o : Oper} {f : Act} {K : Act → World → Prop} {Q : Exit → Act → World → Prop} (xO iO : Operand) {t : TypeId}
    (ho : o.op = .indexAddr t xO iO) {e b : Nat} {z : Value} (E : Elem P t e 1 b z) {a : Option Addr} {n c : Nat} {l : List UInt8} (hx : f.eval xO = .slice a n c) (hr : Bytes w a n c l)
    (i : Nat) {k : IntKind} {I : Int} (hi : f.eval iO = .int k I) (hI : I = (i : Int)) (x : UInt8) (hin : l[i]? = some x)
    (hk : ∀ p, w.cell? p = some (.int .u8 (x.toNat : Int)) → K (f.put o.dst (.pointer (some p))) w) : o.wp P f w K Q := by
  obtain ⟨hil, hix⟩ := List.getElem?_eq_some_iff.1 hin
  refine owp_ix xO iO ho E hx hr.row i hi hI (by have := hr.len; omega) fun b' o' hc => hk _ ?_
  have := hc 0 (by decide)
  rw [Nat.add_zero] at this
  rw [this, Nat.mul_one, Nat.add_zero, List.getElem?_map, hin]
  rfl
end

set_option maxRecDepth 100000 in
set_option maxHeartbeats 2000000 in
theorem begins_any (a : Option Addr) (n c : Nat) (l : List UInt8) (w : World) (hb : Bytes w a n c l) (hn : n ≤ 140737488355328) :
    Calls Try.prog 41 #[.slice a n c] w (Ret (.bool (isPack l)) w) := by
  have hl := hb.len
  by_cases h4 : 4 ≤ n
  · obtain ⟨s, hs⟩ : ∃ s : ByteArray, s = ⟨(l.take 4).toArray⟩ := ⟨_, rfl⟩
    have HS := Lib.hid hs
    have e : isPack l = (s.toList == (ByteArray.mk #[83, 89, 80, 75]).toList) := by
      rw [hs, ByteArray.toList_mk]
      have e : (ByteArray.mk #[83, 89, 80, 75]).toList = magicB := ByteArray.toList_mk [83, 89, 80, 75]
      rw [e]; rfl
    obtain ⟨v, hv⟩ : ∃ v, (s.toList == (ByteArray.mk #[83, 89, 80, 75]).toList) = v := ⟨_, rfl⟩
    rw [e, hv]
    have HV := Lib.hid hv
    clear hs hl e hv
    go_enter Try.func41, Try.ntmps41
    go_wp2_with (first
      | ((with_reducible refine atSlot 8 ?_); refine wpList_of_wp rfl (owp_sl_hi (o := ⟨some 8, _, _, _, _, _⟩) _ _ rfl Try.elB rfl hb.row 4 rfl rfl (by omega) ?_); intro a2 hr2; have hb2 := Bytes.take hr2)
      | ((with_reducible refine atSlot 9 ?_); refine wpList_of_wp rfl (owp_conv (o := ⟨some 9, _, _, _, _, _⟩) _ rfl rfl hb2 Try.underlying28 Try.underlying5 Try.underlying9 ?_); rw [← HS.out]))
    go_ret
    have e2 : (ByteArray.mk #[83, 89, 80, 75]).toList = [83, 89, 80, 75] := ByteArray.toList_mk [83, 89, 80, 75]
    exact ⟨ret_bool (by rw [← HV.out, e2]), rfl⟩
  · have hd : decide (4 ≤ n) = false := by simpa using h4
    have hf : isPack l = false := by
      rw [Bool.eq_false_iff]
      intro h
      have := isPack_len h
      omega
    rw [hf]
    clear hf hl
    go_enter Try.func41, Try.ntmps41
    go_wp2
    go_ret
    exact ⟨rfl, rfl⟩

def RSRel (w : World) (l : List UInt8) (out i : Value) (wr : World) : Prop :=
  ∃ (at_ cn cc : Nat) (ca : Option Addr) (L : List Ck), i = .int .i64 at_ ∧ out = .slice ca cn cc ∧ OwnCks wr w.heap.size ca cn cc L ∧ Ext w wr ∧ cn ≤ at_ ∧ at_ ≤ l.length ∧ salv l = salvF l (l.length - at_) at_ (L.map Ck.d)

set_option maxRecDepth 100000 in
set_option maxHeartbeats 4000000 in
theorem refSalvage_any (a : Option Addr) (n c : Nat) (l : List UInt8) (w : World) (hb : Bytes w a n c l) (hn : n ≤ 100000000) :
    Calls Try.prog 17 #[.slice a n c] w (SalvPost w l) := by
  by_cases hp : isPack l = true
  rotate_left
  · have hp' := Bool.eq_false_iff.2 hp
    have es : pkSalv l = ([], 0) := by unfold pkSalv; rw [if_neg hp]
    have ES := Lib.hid es
    clear es hp
    go_enter Try.func17, Try.ntmps17
    go_wp2_with (go_at_call 41; (with_reducible refine (begins_any a n c l _ hb (by omega)).mono ?_); rw [hp']; rintro e w1 ⟨rfl, rfl⟩)
    go_ret2
    exact ⟨0, 0, none, [], by rw [ES.out]; rfl, OwnCks.nil _ _, by rw [ES.out]; rfl, Below.refl _ _, by omega⟩
  have h4 := isPack_len hp
  have HBL := Lib.hid hb.len
  have es : pkSalv l = salv l := by unfold pkSalv; rw [if_pos hp]
  have ES := Lib.hid es
  have HP := Lib.hid hp
  clear es hp
  go_enter Try.func17, Try.ntmps17
  go_wp2_with (go_at_call 41; (with_reducible refine (begins_any a n c l _ hb (by omega)).mono ?_); rw [HP.out]; rintro e w1 ⟨rfl, rfl⟩)
  go_loopw [4, 5] (RSRel w l) (fun _ i _ => n - (intOf i).toNat)
  case atStart => exact ⟨4, 0, 0, none, [], rfl, rfl, OwnCks.nil _ _, Below.refl _ _, by omega, h4, salv_start l⟩
  case round =>
    obtain ⟨at_, cn, cc, ca, L, rfl, rfl, hO, hx, hcn, hat, hsv⟩ := hrel
    rename World => w1
    have HSV := Lib.hid hsv
    have hatn : at_ ≤ n := by have := HBL.out; omega
    clear hsv
    have hbx := hb.ext hx
    by_cases hlt : at_ < n
    · obtain ⟨x, hget⟩ : ∃ x, l[at_]? = some x := ⟨_, List.getElem?_eq_getElem (by have := HBL.out; omega)⟩
      have HG := Lib.hid hget
      clear hget
      by_cases hx1 : x = 1
      · subst hx1
        obtain ⟨r, hr⟩ : ∃ r, frameAt l (at_ + 1) (L.map Ck.d).getLast? = r := ⟨_, rfl⟩
        have HR := Lib.hid hr
        clear hr
        cases r with
        | error er =>
          have he := frame_errs HR.out
          have he0 : (er == 0) = false := by rcases he with rfl | rfl | rfl <;> decide
          have hen : (er != 0) = true := by rcases he with rfl | rfl | rfl <;> decide
          clear he
          go_wp2_with (first
            | ((with_reducible refine atSlot 19 ?_); refine wpList_of_wp rfl (owp_ixB (o := ⟨some 19, _, _, _, _, _⟩) _ _ rfl Try.elB rfl hbx at_ rfl rfl 1 HG.out ?_); intro p hp)
            | (go_at_call 42; (with_reducible refine (refFrame_any a n c ca cn cc at_ l L _ hbx (by omega) hO.chunks (by omega) hatn).mono ?_); rw [HR.out]; rintro e w3 ⟨rfl, hx3⟩))
          go_ret2
          have es2 : (pkSalv l).2 = at_ := by rw [ES.out, stop_of HSV.out (.inr ⟨_, HR.out⟩)]
          exact ⟨cn, cc, ca, L, by rw [es2]; rfl, (hO.ext hx3).ext (Ext.alloc' _ _), by rw [ES.out, stop_of HSV.out (.inr ⟨_, HR.out⟩)], (hx.trans' hx3).trans' (Ext.alloc' _ _), by omega⟩
        | ok r =>
          obtain ⟨k, nx⟩ := r
          have hnx := frame_next HR.out
          go_wp2_with (first
            | ((with_reducible refine atSlot 19 ?_); refine wpList_of_wp rfl (owp_ixB (o := ⟨some 19, _, _, _, _, _⟩) _ _ rfl Try.elB rfl hbx at_ rfl rfl 1 HG.out ?_); intro p hp)
            | (go_at_call 42; (with_reducible refine (refFrame_any a n c ca cn cc at_ l L _ hbx (by omega) hO.chunks (by omega) hatn).mono ?_); rw [HR.out]; rintro e w3 ⟨k3, hk3, rfl, hK3, hx3⟩; refine Stop.of ?_))
          have hO3 := hO.ext hx3
          have hbox3 := heap_alloc_new w3 (.cells #[.int .u64 k3.s, .int .i64 k3.z, .slice k3.a k3.n k3.c] 46)
          have hrg3 := range_of_heap hbox3
          have hrow3 : Row ((w3.alloc (.cells #[.int .u64 k3.s, .int .i64 k3.z, .slice k3.a k3.n k3.c] 46)).alloc (.cells #[.int .u64 k3.s, .int .i64 k3.z, .slice k3.a k3.n k3.c] 46)) (some ⟨w3.heap.size + 1, 0, none⟩) 1 1 3 #[.int .u64 k3.s, .int .i64 k3.z, .slice k3.a k3.n k3.c].toList := by
            have h := Row.new (w3.alloc (.cells #[.int .u64 k3.s, .int .i64 k3.z, .slice k3.a k3.n k3.c] 46)) #[.int .u64 k3.s, .int .i64 k3.z, .slice k3.a k3.n k3.c] 46 1 3 rfl (by decide)
            rw [show (w3.alloc (.cells #[.int .u64 k3.s, .int .i64 k3.z, .slice k3.a k3.n k3.c] 46)).heap.size = w3.heap.size + 1 by simp] at h
            exact h
          have HK3 := Lib.hid hk3
          clear hk3 hbox3
          refine Stop.out ?_
          go_wp2_with (first
            | (refine wpList_load_mid rfl 46 _ rfl w3.heap.size 0 rfl k3.cells _ hrg3 Try.underlying46 rfl (by kernel_rfl) ?_; simp only [Ck.cells])
            | (at_builtin; refine wpList_appK rfl _ _ rfl Try.elC rfl (.inl (own_ext (own_ext hO3.1 (Ext.alloc' _ _)) (Ext.alloc' _ _))) rfl hrow3 (oneCell_ck k3) (by omega) (by omega) (by unfold maxLen; omega) (by have := hx.size; have := hx3.size; simp; omega) ?_; intro a6 c6 w6 ho6 hb6 hk6))
          have hE3 : Ext w3 _ := (Ext.alloc' w3 (.cells #[.int .u64 k3.s, .int .i64 k3.z, .slice k3.a k3.n k3.c] 46)).trans' (Ext.alloc' _ (.cells #[.int .u64 k3.s, .int .i64 k3.z, .slice k3.a k3.n k3.c] 46))
          have hx03 := hx.trans' hx3
          have hB6 : Ext w w6 := (hx03.trans' hE3).trans hb6
          have hK6 : KeepT 46 w3 w6 := (KeepT.of_ext hE3).trans hk6
          go_roundw
          case rel =>
            refine ⟨nx, cn + 1, c6, a6, L ++ [k3], rfl, rfl, ⟨by rw [List.flatMap_append, List.flatMap_cons, List.flatMap_nil, List.append_nil]; exact ho6, fun y hy => ?_⟩, hB6, by omega, hnx.2, by rw [HSV.out, salv_on HG.out HR.out, List.map_append, List.map_cons, List.map_nil, HK3.out]⟩
            rcases List.mem_append.1 hy with h | h
            · exact ⟨own_keepT (hO3.2 y h).1 hK6 (by decide), (hO3.2 y h).2⟩
            · obtain rfl : y = k3 := by simpa using h
              exact ⟨own_keepT (own_base hK3.1 hx.size) hK6 (by decide), hK3.2⟩
          case measure => simp [intOf]; have := HBL.out; omega
      · have h1 : ((x.toNat : Int) == 1) = false := by simp; intro h; exact hx1 (UInt8.toNat_inj.1 (by show x.toNat = 1; omega))
        have HX1 := Lib.hid hx1
        clear hx1
        go_wp2_with ((with_reducible refine atSlot 19 ?_); refine wpList_of_wp rfl (owp_ixB (o := ⟨some 19, _, _, _, _, _⟩) _ _ rfl Try.elB rfl hbx at_ rfl rfl x HG.out ?_); intro p hp)
        go_ret2
        have es2 : (pkSalv l).2 = at_ := by rw [ES.out, stop_of HSV.out (.inl (by rw [HG.out]; intro h; exact HX1.out (Option.some.inj h)))]
        exact ⟨cn, cc, ca, L, by rw [es2]; rfl, hO, by rw [ES.out, stop_of HSV.out (.inl (by rw [HG.out]; intro h; exact HX1.out (Option.some.inj h)))], hx, by omega⟩
    · have hd : decide (at_ < n) = false := by simpa using hlt
      have HN := Lib.hid (List.getElem?_eq_none_iff.2 (show l.length ≤ at_ by have := HBL.out; omega))
      go_wp2
      go_ret2
      have es2 : (pkSalv l).2 = at_ := by rw [ES.out, stop_of HSV.out (.inl (by rw [HN.out]; simp))]
      exact ⟨cn, cc, ca, L, by rw [es2]; rfl, hO, by rw [ES.out, stop_of HSV.out (.inl (by rw [HN.out]; simp))], hx, by omega⟩
end Go.Proofs.Ytncdcpaelecikaa
