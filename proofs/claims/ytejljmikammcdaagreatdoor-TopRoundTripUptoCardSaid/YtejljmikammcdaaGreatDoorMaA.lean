/-
  Layer mapping: entries in memory; line, left.
-/
import Derived.Test.YtejljmikammcdaaGreatDoorJoined8
import Derived.Test.YtejljmikammcdaaGreatDoorMaT
namespace Go.Proofs.YtejljmikammcdaaGreatDoor
open Go.RowKit

/-! ### An entry in memory, a list of entries -/
structure En where
  l : Pt
  r : Pt
  a : Option Addr
  c : Nat
  hs : List Pt
instance : Inhabited En := ⟨⟨default, default, none, 0, []⟩⟩
def En.cells (k : En) : List Value := [.slice k.l.a k.l.n k.l.c, .bool k.l.P.rest, .slice k.r.a k.r.n k.r.c, .bool k.r.P.rest, .slice k.a k.hs.length k.c]
abbrev En.v (k : En) : Value := .agg #[.slice k.l.a k.l.n k.l.c, .bool k.l.P.rest, .slice k.r.a k.r.n k.r.c, .bool k.r.P.rest, .slice k.a k.hs.length k.c]
def En.E (k : En) : Ent := ⟨k.l.P, k.r.P, k.hs.map Pt.P⟩
theorem en_five (k : En) : k.cells.length = 5 := rfl
theorem en_one (k : En) : ∀ v ∈ k.cells, v.oneCell' = true := fun v hv => by
  simp [En.cells] at hv
  rcases hv with rfl | rfl | rfl | rfl | rfl <;> rfl
abbrev ebox (k : En) : Obj := .cells #[.slice k.l.a k.l.n k.l.c, .bool k.l.P.rest, .slice k.r.a k.r.n k.r.c, .bool k.r.P.rest, .slice k.a k.hs.length k.c] 60
structure EnI (w : World) (S : Nat) (k : En) : Prop where
  l : PtI w S k.l
  r : PtI w S k.r
  hs : PtsI w S k.a k.c k.hs
theorem EnI.ext {w w' : World} {S : Nat} {k : En} (h : EnI w S k) (hx : Ext w w') : EnI w' S k := ⟨h.l.ext hx, h.r.ext hx, h.hs.ext hx⟩
theorem EnI.mono {w : World} {S T : Nat} {k : En} (h : EnI w S k) (hs : S ≤ T) : EnI w T k := ⟨h.l.mono hs, h.r.mono hs, h.hs.mono hs⟩
structure EnO (w : World) (B S : Nat) (k : En) : Prop where
  l : PtO w B S k.l
  r : PtO w B S k.r
  hs : PtsO w B S k.a k.c k.hs
theorem EnO.ext {w w' : World} {B S : Nat} {k : En} (h : EnO w B S k) (hx : Ext w w') : EnO w' B S k := ⟨h.l.ext hx, h.r.ext hx, h.hs.ext hx⟩
theorem EnO.base {w : World} {B B' S : Nat} {k : En} (h : EnO w B' S k) (hB : B ≤ B') : EnO w B S k := ⟨h.l.base hB, h.r.base hB, h.hs.base hB⟩
theorem EnO.i {w : World} {B S : Nat} {k : En} (h : EnO w B S k) : EnI w S k := ⟨h.l.i, h.r.i, h.hs.i⟩
structure EnsI (w : World) (S : Nat) (a : Option Addr) (c : Nat) (L : List En) : Prop where
  row : Row w a L.length c 5 (L.flatMap En.cells)
  each : ∀ q ∈ L, EnI w S q
theorem EnsI.ext {w w' : World} {S c : Nat} {a : Option Addr} {L : List En} (h : EnsI w S a c L) (hx : Ext w w') : EnsI w' S a c L := ⟨h.row.ext hx, fun q hq => (h.each q hq).ext hx⟩
theorem EnsI.mono {w : World} {S T c : Nat} {a : Option Addr} {L : List En} (h : EnsI w S a c L) (hs : S ≤ T) : EnsI w T a c L := ⟨h.row, fun q hq => (h.each q hq).mono hs⟩
theorem Tryz.elEn : Elem Tryz.prog 24 60 5 88 (.agg #[.slice none 0 0, .bool false, .slice none 0 0, .bool false, .slice none 0 0]) := ⟨Tryz.underlying24, by kernel_rfl, rfl, by decide⟩

def En.line (k : En) : Rl := ⟨false, k.l, k.r⟩
def En.left (k : En) : Rg := ⟨k.l, k.a, k.c, k.hs⟩
theorem EnI.line {w : World} {S : Nat} {k : En} (h : EnI w S k) : RlI w S k.line := ⟨h.l, h.r⟩
theorem EnI.left {w : World} {S : Nat} {k : En} (h : EnI w S k) : RgI w S k.left := ⟨h.l, h.hs⟩
/-- A box of five cells: an entry. -/
theorem box5e {w : World} {g : Nat} {x y z u v : Value} {t : TypeId} {fr : Nat × Nat} (h : w.heap[g]? = some (.cells #[x, y, z, u, v] t fr)) :
    w.rangeAt g 0 [x, y] ∧ w.rangeAt g 2 [z, u] ∧ w.cell? ⟨g, 4, none⟩ = some v ∧ w.rangeAt g 0 [x, y, z, u, v] := by
  refine ⟨range_box h 0 _ ?_, range_box h 2 _ ?_, by rw [cell_of_row w g 4 _ _ _ h]; rfl, range_box h 0 _ ?_⟩
  · intro j v hj
    match j, hj with
    | 0, hj => exact hj
    | 1, hj => exact hj
    | j + 2, hj => simp at hj
  · intro j v hj
    match j, hj with
    | 0, hj => exact hj
    | 1, hj => exact hj
    | j + 2, hj => simp at hj
  · intro j v hj
    simpa using hj

set_option maxRecDepth 100000 in
set_option maxHeartbeats 2000000 in
theorem line_any (k : En) (w : World) : Calls Tryz.prog 27 #[k.v] w (NewNone k.line.v w) := by
  obtain ⟨⟨la, ln, lc, lP⟩, ⟨ra, rn, rc, rP⟩, a, c, hs⟩ := k
  show Calls _ _ _ _ (NewNone (.agg #[.bool false, .slice la ln lc, .bool lP.rest, .slice ra rn rc, .bool rP.rest]) w)
  obtain ⟨post, hpo⟩ : ∃ q : Ending → World → Prop, q = NewNone (.agg #[.bool false, .slice la ln lc, .bool lP.rest, .slice ra rn rc, .bool rP.rest]) w := ⟨_, rfl⟩
  rw [← hpo]
  have HPO := Lib.hid hpo
  have HX := Lib.hid (two_boxes w #[.slice la ln lc, .bool lP.rest, .slice ra rn rc, .bool rP.rest, .slice a hs.length c] #[.bool false, .slice none 0 0, .bool false, .slice none 0 0, .bool false] 60 48)
  clear hpo
  go_enter Tryz.func27, Tryz.ntmps27
  go_upto_region 1 with fail
  generalize (w.alloc (.cells #[.slice la ln lc, .bool lP.rest, .slice ra rn rc, .bool rP.rest, .slice a hs.length c] 60)).alloc (.cells #[.bool false, .slice none 0 0, .bool false, .slice none 0 0, .bool false] 48) = w2 at HX ⊢
  obtain ⟨hx2, hh1, hh2⟩ := HX.out
  have HX2 := Lib.hid hx2
  have HH2 := Lib.hid hh2
  obtain ⟨hr4, hr6, -, -⟩ := box5e hh1
  obtain ⟨b, hb⟩ : ∃ b, b = w.heap.size := ⟨_, rfl⟩
  rw [← hb] at HH2 hr4 hr6 ⊢
  have HBB := Lib.hid hb
  clear hx2 hh1 hh2 HX hb
  go_wp2_with (first
    | ((with_reducible refine atSlot 4 ?_); refine wpList_of_wp rfl (wp_load_mid (op := ⟨some 4, _, _, _, _, _⟩) 39 _ rfl b 0 rfl [.slice la ln lc, .bool lP.rest] _ hr4 Tryz.underlying39 rfl (by kernel_rfl) ?_); clear hr4)
    | ((with_reducible refine atSlot 6 ?_); refine wpList_of_wp rfl (wp_load_mid (op := ⟨some 6, _, _, _, _, _⟩) 39 _ rfl b 2 rfl [.slice ra rn rc, .bool rP.rest] _ hr6 Tryz.underlying39 rfl (by kernel_rfl) ?_); clear hr6)
    | ((with_reducible refine atStore 2 ?_); refine wpList_of_wp rfl (wp_store_row (o := ⟨none, _, _, _, _, _⟩) _ _ _ rfl (b + 1) #[.bool false, .slice la ln lc, .bool lP.rest, .slice ra rn rc, .bool rP.rest] rfl rfl _ _ HH2.out (by kernel_rfl) rfl (by simp [Value.oneCell']) ?_))
    | fail)
  refine bodyPost_ret (results_cells rfl _ (b + 1) [.bool false, .slice la ln lc, .bool lP.rest, .slice ra rn rc, .bool rP.rest] _ rfl (fun j v hj => by have h := (box5 (setRow_heap _ _ _ _ _ _ HH2.out)).2.2.2 j v hj; rwa [Nat.zero_add] at h) Tryz.underlying48 rfl (by kernel_rfl)) rfl ?_
  rw [HPO.out]
  exact ⟨rfl, HX2.out.setRow (by rw [HBB.out]; omega)⟩
set_option maxRecDepth 100000 in
set_option maxHeartbeats 2000000 in
theorem left_any (k : En) (w : World) : Calls Tryz.prog 31 #[k.v] w (NewNone k.left.v w) := by
  obtain ⟨⟨la, ln, lc, lP⟩, ⟨ra, rn, rc, rP⟩, a, c, hs⟩ := k
  show Calls _ _ _ _ (NewNone (.agg #[.slice la ln lc, .bool lP.rest, .slice a hs.length c]) w)
  obtain ⟨post, hpo⟩ : ∃ q : Ending → World → Prop, q = NewNone (.agg #[.slice la ln lc, .bool lP.rest, .slice a hs.length c]) w := ⟨_, rfl⟩
  rw [← hpo]
  have HPO := Lib.hid hpo
  have HX := Lib.hid (two_boxes w #[.slice la ln lc, .bool lP.rest, .slice ra rn rc, .bool rP.rest, .slice a hs.length c] #[.slice none 0 0, .bool false, .slice none 0 0] 60 55)
  clear hpo
  go_enter Tryz.func31, Tryz.ntmps31
  go_upto_region 1 with fail
  generalize (w.alloc (.cells #[.slice la ln lc, .bool lP.rest, .slice ra rn rc, .bool rP.rest, .slice a hs.length c] 60)).alloc (.cells #[.slice none 0 0, .bool false, .slice none 0 0] 55) = w2 at HX ⊢
  obtain ⟨hx2, hh1, hh2⟩ := HX.out
  have HX2 := Lib.hid hx2
  have HH2 := Lib.hid hh2
  obtain ⟨hr4, -, c6, -⟩ := box5e hh1
  obtain ⟨b, hb⟩ : ∃ b, b = w.heap.size := ⟨_, rfl⟩
  rw [← hb] at HH2 hr4 c6 ⊢
  have HBB := Lib.hid hb
  clear hx2 hh1 hh2 HX hb
  go_wp2_with (first
    | ((with_reducible refine atSlot 4 ?_); refine wpList_of_wp rfl (wp_load_mid (op := ⟨some 4, _, _, _, _, _⟩) 39 _ rfl b 0 rfl [.slice la ln lc, .bool lP.rest] _ hr4 Tryz.underlying39 rfl (by kernel_rfl) ?_); clear hr4)
    | ((with_reducible refine atStore 2 ?_); refine wpList_of_wp rfl (wp_store_row (o := ⟨none, _, _, _, _, _⟩) _ _ _ rfl (b + 1) #[.slice la ln lc, .bool lP.rest, .slice a hs.length c] rfl rfl _ _ HH2.out (by kernel_rfl) rfl (by simp [Value.oneCell']) ?_))
    | fail)
  refine bodyPost_ret (results_cells rfl _ (b + 1) [.slice la ln lc, .bool lP.rest, .slice a hs.length c] _ rfl (fun j v hj => by have h := (box3 (setRow_heap _ _ _ _ _ _ HH2.out)).2.2 j v hj; rwa [Nat.zero_add] at h) Tryz.underlying55 rfl (by kernel_rfl)) rfl ?_
  rw [HPO.out]
  exact ⟨rfl, HX2.out.setRow (by rw [HBB.out]; omega)⟩
end Go.Proofs.YtejljmikammcdaaGreatDoor
