/-
  The program's newReader; the reference's begins.
-/
import Derived.Test.YtncdcpaelecikaaPackL
import Derived.Test.YtncdcpaelecikaaMathP
import Derived.Lib.Strings
namespace Go.Proofs.Ytncdcpaelecikaa
open Go.RowKit

def magicS : ByteArray := ⟨#[83, 89, 80, 75]⟩
def pfx (s p : ByteArray) : Bool := decide (p.size ≤ s.size) && ((s.extract 0 p.size).toList == p.toList)
def isPack (l : List UInt8) : Bool := l.take 4 == magicB

set_option maxRecDepth 100000 in
theorem HasPrefixI_any (s p : ByteArray) (w : World) :
    Calls Try.prog 70 #[.string s, .string p] w (Ret (.bool (pfx s p)) w) := by
  by_cases h : p.size ≤ s.size
  · have hpf : pfx s p = ((s.extract 0 p.size).toList == p.toList) := by unfold pfx; simp [h]
    rw [hpf]
    clear hpf
    go_enter Try.func70, Try.ntmps70
    go_wp2
    go_ret
    exact ⟨rfl, rfl⟩
  · have hpf : pfx s p = false := by unfold pfx; simp [h]
    have hd : decide (p.size ≤ s.size) = false := by simpa using h
    rw [hpf]
    clear hpf
    go_enter Try.func70, Try.ntmps70
    go_wp2
    go_ret
    exact ⟨rfl, rfl⟩
theorem HasPrefix_any (s p : ByteArray) (w : World) :
    Calls Try.prog 62 #[.string s, .string p] w (Ret (.bool (pfx s p)) w) := by
  go_enter Try.func62, Try.ntmps62
  go_wp2_with (go_at_call 70; (with_reducible refine (HasPrefixI_any s p _).mono ?_); rintro e w1 ⟨rfl, rfl⟩)
  go_ret
  exact ⟨rfl, rfl⟩
theorem extract_mk (l : List UInt8) (k : Nat) : (ByteArray.mk l.toArray).extract 0 k = ⟨(l.take k).toArray⟩ := by
  have h := Lib.extract_data (⟨l.toArray⟩ : ByteArray) 0 k
  cases hx : (ByteArray.mk l.toArray).extract 0 k with
  | mk d => rw [hx] at h; simp at h; rw [← h]
theorem pfx_mk {l : List UInt8} {m : Nat} (hm : m = min l.length 4) : pfx ⟨(l.take m).toArray⟩ ⟨#[83, 89, 80, 75]⟩ = isPack l := by
  subst hm
  have hs : (ByteArray.mk (l.take (min l.length 4)).toArray).size = min l.length 4 := by simp [ByteArray.size]
  have hp : (ByteArray.mk #[83, 89, 80, 75]).size = 4 := rfl
  unfold pfx isPack
  rw [hs, hp, extract_mk, ByteArray.toList_mk, List.take_take]
  have e : (ByteArray.mk #[83, 89, 80, 75]).toList = magicB := ByteArray.toList_mk [83, 89, 80, 75]
  rw [e]
  by_cases h : 4 ≤ l.length
  · have h4 : min l.length 4 = 4 := by omega
    rw [h4]; simp
  · have h1 : decide (4 ≤ min l.length 4) = false := by simp; omega
    have h2 : (l.take 4 == magicB) = false := by
      rw [beq_eq_false_iff_ne]
      intro he
      have := congrArg List.length he
      simp [magicB] at this
      omega
    rw [h1, h2]; rfl

def NewRd (w : World) (V : Value) (e : Ending) (w' : World) : Prop :=
  ∃ g, e = .returned (.tuple #[.pointer (some ⟨g, 0, none⟩), .bool true]) ∧ Rd w' g V 4 (.slice none 0 0) 4 ∧ w.heap.size ≤ g ∧ Ext w w'
set_option maxRecDepth 100000 in
set_option maxHeartbeats 1000000 in
theorem newReader_yes (a : Option Addr) (n c : Nat) (l : List UInt8) (w : World) (hb : Bytes w a n c l) (hn : n ≤ 140737488355328) (hp : isPack l = true) :
    Calls Try.prog 39 #[.slice a n c] w (NewRd w (.slice a n c)) := by
  have hl := hb.len
  have hn4 : ¬ n < 4 := by
    intro h
    unfold isPack at hp
    have := congrArg List.length (beq_iff_eq.1 hp)
    simp [magicB] at this
    omega
  have HP := Lib.hid hp
  have HPX := Lib.hid (pfx_mk (l := l) (m := 4) (by omega))
  clear hp hl
  go_enter Try.func39, Try.ntmps39
  go_wp2_with (first
    | ((with_reducible refine atSlot 8 ?_); refine wpList_of_wp rfl (owp_sl_hi (o := ⟨some 8, _, _, _, _, _⟩) _ _ rfl Try.elB rfl hb.row 4 rfl (by omega) (by omega) ?_); intro a2 hr2; have hb2 := Bytes.take hr2)
    | ((with_reducible refine atSlot 9 ?_); refine wpList_of_wp rfl (owp_conv (o := ⟨some 9, _, _, _, _, _⟩) _ rfl rfl hb2 Try.underlying28 Try.underlying5 Try.underlying9 ?_))
    | (go_at_call 62; refine (HasPrefix_any _ _ _).mono ?_; rintro e w1 ⟨rfl, rfl⟩; rw [HPX.out, HP.out]))
  all_goals
    refine bodyPost_ret (v := .tuple #[.pointer (some ⟨w.heap.size, 0, none⟩), .bool true]) (by simp [results, Try.results39, go_sem]) rfl ?_
    exact ⟨w.heap.size, rfl, heap_alloc_new w _, Nat.le_refl _, Ext.alloc' _ _⟩
set_option maxRecDepth 100000 in
set_option maxHeartbeats 1000000 in
theorem newReader_no (a : Option Addr) (n c : Nat) (l : List UInt8) (w : World) (hb : Bytes w a n c l) (hn : n ≤ 140737488355328) (hp : isPack l = false) :
    Calls Try.prog 39 #[.slice a n c] w (Ret (.tuple #[.pointer none, .bool false]) w) := by
  have hl := hb.len
  have HP := Lib.hid hp
  obtain ⟨m, hm⟩ : ∃ m, m = min l.length 4 := ⟨_, rfl⟩
  have HPX := Lib.hid (pfx_mk hm)
  have hm1 : m ≤ n := by omega
  have hm2 : (m : Int) = min (n : Int) 4 := by omega
  have HM := Lib.hid hm2
  clear hp hl hm hm2
  go_enter Try.func39, Try.ntmps39
  go_wp2_with (first
    | ((with_reducible refine atSlot 8 ?_); refine wpList_of_wp rfl (owp_sl_hi (o := ⟨some 8, _, _, _, _, _⟩) _ _ rfl Try.elB rfl hb.row m rfl (by have := HM.out; omega) (by omega) ?_); intro a2 hr2; have hb2 := Bytes.take hr2)
    | ((with_reducible refine atSlot 9 ?_); refine wpList_of_wp rfl (owp_conv (o := ⟨some 9, _, _, _, _, _⟩) _ rfl rfl hb2 Try.underlying28 Try.underlying5 Try.underlying9 ?_))
    | (go_at_call 62; refine (HasPrefix_any _ _ _).mono ?_; rintro e w1 ⟨rfl, rfl⟩; rw [HPX.out, HP.out]))
  all_goals
    go_ret2
    exact ⟨rfl, rfl⟩
end Go.Proofs.Ytncdcpaelecikaa
