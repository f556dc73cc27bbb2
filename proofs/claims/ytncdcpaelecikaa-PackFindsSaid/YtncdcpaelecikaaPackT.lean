/-
  The law PackSalvages.
-/
import Derived.Test.YtncdcpaelecikaaPackS
import Derived.Test.YtncdcpaelecikaaPackQ
import Derived.Test.YtncdcpaelecikaaPackR
namespace Go.Proofs.Ytncdcpaelecikaa
open Go.RowKit

/-- append of nothing to a slice that is there. -/
theorem run_app0 {P : Program} {w : World} {t e s b : Nat} {z : Value} (E : Elem P t e s b z) (ty : TypeId) (bb oo n c : Nat) (hnc : n ≤ c) (xa : Option Addr) (xc : Nat) :
    (Builtin.append_ #[t, t] ty #[.slice (some ⟨bb, oo, none⟩) n c, .slice xa 0 xc]).run P w = .ok (.slice (some ⟨bb, oo, none⟩) n c) w := by
  obtain ⟨i, hi, hz0, hz1, hz2⟩ := info_parts E.info
  cases xa with
  | some p =>
    have h := run_append_room_cells (P := P) w t ty e i E.und hi bb oo n c p 0 xc [] (by simp) (by simp) (by simp) hnc (by simp) (by simp)
    simpa [World.setCells] using h
  | none =>
    simp [Builtin.append_, run_underlying E.und, sizeOf, typeInfo, hi, Builtin.lenOf, hnc, run_firstCells_none]
    rw [show storeCells ((⟨bb, oo, none⟩ : Addr).add (n * i.size)) [] = pure () from rfl]
    rfl
theorem wpList_app0 {P : Program} {w : World} {ops : Array Oper} {rest : List Oper} {o : Oper} {f : Act} {Q : Exit → Act → World → Prop} (hgd : o.guard = none) (sO xO : Operand) {t : TypeId}
    (ho : o.op = .call { callee := .builtin .append, args := #[sO, xO], argTypes := #[t, t] })
    {e s b : Nat} {z : Value} (E : Elem P t e s b z) {bb oo n c : Nat} (hs : f.eval sO = .slice (some ⟨bb, oo, none⟩) n c) (hnc : n ≤ c) {xa : Option Addr} {xc : Nat} (hx : f.eval xO = .slice xa 0 xc)
    (h : wpList P ops Q rest (f.put o.dst (.slice (some ⟨bb, oo, none⟩) n c)) w) : wpList P ops Q (o :: rest) f w :=
  wpList_plain hgd fun _ hK => by
    have hr := run_app0 (w := w) E o.type bb oo n c hnc xa xc
    unfold Oper.wp execOp
    simp only [ho, resolve, invoke, builtin, Sem.run_bind, Sem.run_pure, Result.andThen_ok, List.map_toArray, List.map_cons, List.map_nil, hs, hx, hr]
    exact hK _ _ h
theorem wpList_appR {P : Program} {w : World} {ops : Array Oper} {rest : List Oper} {o : Oper} {f : Act} {Q : Exit → Act → World → Prop} (hgd : o.guard = none) (sO xO : Operand) {t : TypeId}
    (ho : o.op = .call { callee := .builtin .append, args := #[sO, xO], argTypes := #[t, t] })
    {e s b : Nat} {z : Value} (E : Elem P t e s b z) {B bb oo n : Nat} {xs : List Value} (hs : f.eval sO = .slice (some ⟨bb, oo, none⟩) n n) (hbb : B ≤ bb) (hr : Row w (some ⟨bb, oo, none⟩) n n s xs)
    {xa : Option Addr} {m xc : Nat} {news : List Value} (hx : f.eval xO = .slice xa m xc) (hrow : Row w xa m xc s news) (h1 : ∀ u ∈ news, u.oneCell' = true)
    (hb : (n + m) * b ≤ 140737488355328) (hm : n + m ≤ maxLen) (hB : B ≤ w.heap.size)
    (h : ∀ a' c' w', Row w' a' (n + m) c' s (xs ++ news) → (∀ p, a' = some p → B ≤ p.block) → Below B w w' → wpList P ops Q rest (f.put o.dst (.slice a' (n + m) c')) w') : wpList P ops Q (o :: rest) f w := by
  by_cases hm0 : 0 < m
  · exact wpList_appF hgd sO xO ho E hs (.inr ⟨rfl, hr⟩) hx hrow h1 hm0 hb hm hB fun a' c' w' h2 h3 => h a' c' w' (Row.of_own h2) (own_fresh h2) h3
  · obtain rfl : m = 0 := by omega
    obtain rfl : news = [] := List.eq_nil_of_length_eq_zero (by simpa using hrow.len)
    refine wpList_app0 hgd sO xO ho E hs (Nat.le_refl _) hx ?_
    exact h (some ⟨bb, oo, none⟩) n w (by simpa using hr) (fun p hp => by cases hp; exact hbb) (Below.refl _ _)
def SalvIs (w : World) (S : List Ck) (good : Nat) (N : Nat) (e : Ending) (w' : World) : Prop :=
  ∃ (cn cc : Nat) (ca : Option Addr) (L : List Ck), e = .returned (.tuple #[.slice ca cn cc, .int .i64 good]) ∧ OwnCks w' w.heap.size ca cn cc L ∧ L.map Ck.d = S ∧ Ext w w' ∧ cn ≤ N
theorem SalvPost.is {w w' : World} {l : List UInt8} {e : Ending} {S : List Ck} {good : Nat} (h : SalvPost w l e w') (hs : pkSalv l = (S, good)) : SalvIs w S good l.length e w' := by
  unfold SalvPost at h
  rw [hs] at h
  exact h
def LRel (w : World) (n : Nat) (i : Value) (wr : World) : Prop := ∃ j : Nat, i = .int .i64 j ∧ j ≤ n ∧ Ext w wr
theorem lists3 {w : World} {x y z : Bs} (hx : Bytes w x.a x.n x.c x.l) (hy : Bytes w y.a y.n y.c y.l) (hz : Bytes w z.a z.n z.c z.l) :
    Lists (w.alloc (.cells #[x.v, y.v, z.v] 28)) (some ⟨w.heap.size, 0, none⟩) 3 3 [x, y, z] :=
  ⟨rfl, Row.new w #[x.v, y.v, z.v] 28 3 1 rfl (by decide), fun b hb => by
    simp only [List.mem_cons, List.not_mem_nil, or_false] at hb
    rcases hb with rfl | rfl | rfl
    · exact hx.ext (Ext.alloc' _ _)
    · exact hy.ext (Ext.alloc' _ _)
    · exact hz.ext (Ext.alloc' _ _)⟩

set_option maxRecDepth 100000 in
set_option maxHeartbeats 4000000 in
theorem PackSalvages_walk (a : Option Addr) (n c : Nat) (l : List UInt8) (a1 : Option Addr) (n1 c1 : Nat) (L1 : List Int) (w : World) (hb : Bytes w a n c l) (hn : n ≤ 10000000)
    (hl : Row w a1 n1 c1 1 (L1.map (Value.int .i64))) (hli : ∀ x ∈ L1, -9223372036854775808 ≤ x ∧ x ≤ 9223372036854775807) (ha1 : ∀ p, a1 = some p → 0 < n1 → p.block < w.heap.size) :
    Calls Try.prog 4 #[.slice a n c, .slice a1 n1 c1] w (LawPost w) := by
  obtain ⟨w1, hw1⟩ : ∃ w1, w1 = w.alloc (.cells #[.slice a1 n1 c1, .int .i64 0] 26) := ⟨_, rfl⟩
  have ht : Tape w1 w.heap.size 0 := by rw [hw1]; exact ⟨a1, n1, c1, L1, heap_alloc_new w _, hl.ext (Ext.alloc' _ _), ha1, hli⟩
  have hx1 : Ext w w1 := by rw [hw1]; exact Ext.alloc' _ _
  have hcv := Lib.run_convert_bytes_const (w.alloc (.cells #[.slice a1 n1 c1, .int .i64 0] 26)) 28 5 #[.int .u8 83, .int .u8 89, .int .u8 80, .int .u8 75] 4 4 Try.underlying28 Try.underlying5
  have hsz : (w.alloc (.cells #[.slice a1 n1 c1, .int .i64 0] 26)).heap.size = w.heap.size + 1 := by simp
  rw [hsz] at hcv
  have hrowM : Row ((w.alloc (.cells #[.slice a1 n1 c1, .int .i64 0] 26)).alloc (.cells #[.int .u8 83, .int .u8 89, .int .u8 80, .int .u8 75] 5 (4, 5))) (some ⟨w.heap.size + 1, 0, none⟩) 4 4 1 (magicB.map u8) := by
    have h := heap_alloc_new (w.alloc (.cells #[.slice a1 n1 c1, .int .i64 0] 26)) (.cells #[.int .u8 83, .int .u8 89, .int .u8 80, .int .u8 75] 5 (4, 5))
    rw [hsz] at h
    exact row_of_heap4 h
  have hBM : w.heap.size + 1 ≤ ((w.alloc (.cells #[.slice a1 n1 c1, .int .i64 0] 26)).alloc (.cells #[.int .u8 83, .int .u8 89, .int .u8 80, .int .u8 75] 5 (4, 5))).heap.size := by simp
  have hEM : Below (w.heap.size + 1) (w.alloc (.cells #[.slice a1 n1 c1, .int .i64 0] 26)) ((w.alloc (.cells #[.slice a1 n1 c1, .int .i64 0] 26)).alloc (.cells #[.int .u8 83, .int .u8 89, .int .u8 80, .int .u8 75] 5 (4, 5))) := by rw [← hsz]; exact Ext.alloc' _ _
  clear hsz
  have HT := Lib.hid ht
  have HW := Lib.hid hw1
  clear ht hw1
  go_enter Try.func4, Try.ntmps4
  go_wp2_with (first
    | (at_builtin; go_loud (refine wpList_appR rfl _ _ rfl Try.elB (B := w.heap.size + 1) rfl (Nat.le_refl _) hrowM rfl ((hb.ext (Ext.alloc' _ _)).ext (Ext.alloc' _ _)).row (u8_oneCell _) (by omega) (by unfold maxLen; omega) hBM ?_); intro a3 c3 w3 hr3 hne3 hb3; refine Stop.of ?_))
  have E3' : Below (w.heap.size + 1) w1 w3 := by rw [HW.out]; exact hEM.trans hb3
  have E3 : Ext w1 w3 := by
    have e : w1.heap.size = w.heap.size + 1 := by rw [HW.out]; simp
    unfold Ext; rw [e]; exact E3'
  have hb3' : Bytes w3 a3 (4 + n) c3 (magicB ++ l) := Bytes.mk' (by rw [List.map_append]; exact hr3)
  have ht3 := HT.out.ext E3
  have hx3 := hx1.trans' E3
  have HX3 := Lib.hid hx3
  clear hcv hrowM hBM hEM hr3 hb3 E3' E3 hx1
  refine Stop.out ?_
  go_wp2_with (go_at_call 15; (with_reducible refine (lawBytes_any w.heap.size 0 _ ht3 (by omega)).mono ?_); rintro e w4 ⟨a4, n4, c4, k4, l4, rfl, hb4, hfr4, hn4, ht4, -, hg4⟩; refine Stop.of ?_)
  have hx4 : Ext w w4 := HX3.out.rd hg4 (Nat.le_refl _)
  have hbA := hb.ext hx4
  have hbB := hb3'.apart hg4 (fun p hp => by have := hne3 p hp; omega)
  have hLL := lists3 (x := ⟨a, n, c, l⟩) (y := ⟨a3, 4 + n, c3, magicB ++ l⟩) (z := ⟨a4, n4, c4, l4⟩) hbA hbB hb4
  obtain ⟨LL, hLLe⟩ : ∃ LL : List Bs, LL = [⟨a, n, c, l⟩, ⟨a3, 4 + n, c3, magicB ++ l⟩, ⟨a4, n4, c4, l4⟩] := ⟨_, rfl⟩
  rw [← hLLe] at hLL
  have hsizes : ∀ b ∈ LL, b.n ≤ 100000000 := by
    intro b hb
    rw [hLLe] at hb
    simp only [List.mem_cons, List.not_mem_nil, or_false] at hb
    rcases hb with rfl | rfl | rfl
    · show n ≤ _; omega
    · show 4 + n ≤ _; omega
    · show n4 ≤ _; omega
  have hx5 : Ext w (w4.alloc (.cells #[.slice a n c, .slice a3 (4 + n) c3, .slice a4 n4 c4] 28)) := hx4.trans' (Ext.alloc' _ _)
  have HS := Lib.hid hsizes
  have HLL := Lib.hid hLL
  have HX5 := Lib.hid hx5
  clear hLL hLLe hsizes hbA hbB hb4 hb3' ht3 hx4 hx5 hne3 hfr4 ht4 hg4
  refine Stop.out ?_
  go_wp2
  go_loopw [7] (LRel (w4.alloc (.cells #[.slice a n c, .slice a3 (4 + n) c3, .slice a4 n4 c4] 28)) 3) (fun i _ => 3 - (intOf i).toNat)
  case atStart => exact ⟨0, rfl, by omega, Below.refl _ _⟩
  case round =>
    obtain ⟨j, rfl, hj, hx⟩ := hrel
    rename World => w5
    have hL5 := HLL.out.ext hx
    by_cases hjn : j < 3
    · obtain ⟨y, hy⟩ : ∃ y, LL[j]? = some y := ⟨_, List.getElem?_eq_getElem (by have := HLL.out.1; omega)⟩
      have hyn := HS.out y (List.mem_of_getElem? hy)
      have hyb := hL5.2.2 y (List.mem_of_getElem? hy)
      have hyr := hL5.2.1
      have HY := Lib.hid (show (LL.map Bs.v)[j * 1 + 0]? = some y.v by rw [Nat.mul_one, Nat.add_zero, List.getElem?_map, hy]; rfl)
      obtain ⟨S, good, hS⟩ : ∃ S good, pkSalv y.l = (S, good) := ⟨_, _, rfl⟩
      have HSS := Lib.hid hS
      have hyl : y.l.length ≤ 100000000 := by have := hyb.len; omega
      clear hy hL5 hS
      have t1 : True := trivial
      go_wp2_with (first
        | ((with_reducible refine atSlot 32 ?_); refine wpList_of_wp rfl (owp_ix (o := ⟨some 32, _, _, _, _, _⟩) _ _ rfl Try.elBB rfl hyr j rfl rfl hjn ?_); intro b6 o6 hc6; have hd6 : w5.cell? ⟨b6, o6, none⟩ = some (.slice y.a y.n y.c) := (hc6 0 (by omega)).trans HY.out; clear hc6)
        | (go_at_call 16; (with_reducible refine (Salvage_any y.a y.n y.c y.l _ hyb hyn).mono ?_); rintro e w6 hp6; obtain ⟨cn, cc, ca, La, rfl, hO6, hd6', hx6, hcn6⟩ := hp6.is HSS.out; have hyr6 := hyr.ext hx6; have hyb6 := hyb.ext hx6)
        | ((with_reducible refine atSlot 40 ?_); refine wpList_of_wp rfl (owp_ix (o := ⟨some 40, _, _, _, _, _⟩) _ _ rfl Try.elBB rfl hyr6 j rfl rfl hjn ?_); intro b7 o7 hc7; have hd7 : w6.cell? ⟨b7, o7, none⟩ = some (.slice y.a y.n y.c) := (hc7 0 (by omega)).trans HY.out; clear hc7)
        | (go_at_call 17; (with_reducible refine (refSalvage_any y.a y.n y.c y.l _ hyb6 hyn).mono ?_); rintro e w7 hp7; obtain ⟨cn7, cc7, ca7, Lb, rfl, hO7, hd7', hx7, hcn7⟩ := hp7.is HSS.out)
        | (go_at_call 18; (with_reducible refine (Same_any _ _ _ _ _ _ La Lb _ (hO6.chunks.ext hx7) hO7.chunks (hd6'.trans hd7'.symm) (by omega)).mono ?_); rintro e w8 ⟨rfl, hx8⟩))
      go_roundw
      case rel => exact ⟨j + 1, by go_num, by omega, ((hx.trans' hx6).trans' hx7).trans' hx8⟩
      case measure => simp [intOf]; omega
    · obtain rfl : j = 3 := by omega
      go_wp2_with (go_at_call 14; (with_reducible refine (known_any _).mono ?_); rintro e w9 ⟨rfl, hx9⟩)
      go_ret
      exact ⟨rfl, (HX5.out.trans' hx).trans' hx9⟩
end Go.Proofs.Ytncdcpaelecikaa
