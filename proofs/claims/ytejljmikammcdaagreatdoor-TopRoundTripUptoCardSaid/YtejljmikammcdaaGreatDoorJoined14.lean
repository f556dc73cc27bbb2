/-
  Several texts in one: TpA, TpB.
-/
import Derived.Test.YtejljmikammcdaaGreatDoorStK
/-
  The law's helpers: fine, sound; mapping.Forward and view.Forward at awake08's inputs; awake08 answers true.
-/
namespace Go.Proofs.YtejljmikammcdaaGreatDoor
open Go.RowKit Go.WideMaps

theorem Tryz.elEr : Elem Tryz.prog 61 25 1 8 (.int .i64 0) := ⟨Tryz.underlying61, by kernel_rfl, rfl, by decide⟩
def erV (e : Nat) : Value := .int .i64 (e : Nat)
def FnRel (w : World) (L : List Nat) (v7 : Value) (wr : World) : Prop := ∃ j : Nat, v7 = .int .i64 j ∧ j ≤ L.length ∧ (∀ (i e : Nat), i < j → L[i]? = some e → e = 0) ∧ Ext w wr
set_option maxRecDepth 100000 in
set_option maxHeartbeats 4000000 in
theorem fine_any (L : List Nat) (a : Option Addr) (c : Nat) (w : World) (hr : Row w a L.length c 1 (L.map erV)) (hl : L.length ≤ 1048576) :
    Calls Tryz.prog 7 #[.slice a L.length c] w (PrO (∀ e ∈ L, e = 0) w) := by
  have HROW := Lib.hid fun w' (h : Ext w w') => hr.ext h
  obtain ⟨post, hpo⟩ : ∃ q : Ending → World → Prop, q = PrO (∀ e ∈ L, e = 0) w := ⟨_, rfl⟩
  rw [← hpo]
  have HPO := Lib.hid hpo
  clear hpo hr
  go_enter Tryz.func7, Tryz.ntmps7
  go_upto_region 2 with fail
  go_loopw [7] (FnRel w L) (fun i _ => L.length - (intOf i).toNat)
  case atStart => exact ⟨0, rfl, Nat.zero_le _, (fun i x h => by omega), Below.refl _ _⟩
  case round =>
    obtain ⟨j, rfl, hj, hall, hx⟩ := hrel
    rename World => wd
    have HXD := Lib.hid (show Ext w wd from hx)
    have HALL := Lib.hid hall
    clear hx hall
    by_cases hjl : j < L.length
    · obtain ⟨e, he⟩ : ∃ e, L[j]? = some e := ⟨_, List.getElem?_eq_getElem hjl⟩
      have HE := Lib.hid he
      have hrow := HROW.out wd HXD.out
      clear he
      go_upto_region 4 with (first
        | ((with_reducible refine atSlot 9 ?_); refine wpList_of_wp rfl (owp_ix (o := ⟨some 9, _, _, _, _, _⟩) _ _ rfl Tryz.elEr rfl hrow j rfl rfl hjl ?_); intro b1 o1 hc2; have hd := (show wd.cell? ⟨b1, o1, none⟩ = some (.int .i64 (e : Nat)) from by have h := hc2 0 (by decide); rw [Nat.add_zero] at h; rw [h, Nat.mul_one, Nat.add_zero, List.getElem?_map, HE.out]; rfl); clear hc2 hrow)
        | fail)
      by_cases he0 : e = 0
      · subst he0
        go_wp2
        refine ⟨⟨j + 1, by go_num, hjl, fun i q hi hq => ?_, HXD.out⟩, by simp [intOf]; omega⟩
        by_cases h : i < j
        · exact HALL.out i q h hq
        · obtain rfl : i = j := by omega
          rw [HE.out] at hq; cases hq; rfl
      · obtain ⟨q1, q2⟩ := neI (x := (e : Int)) (y := 0) (by omega)
        go_wp2
        rw [HPO.out]
        exact ⟨false, rfl, ⟨fun h => absurd h (by decide), fun h => absurd (h e (List.mem_of_getElem? HE.out)) he0⟩, HXD.out⟩
    · go_wp2
      rw [HPO.out]
      refine ⟨true, rfl, ⟨fun _ x hx => ?_, fun _ => rfl⟩, HXD.out⟩
      obtain ⟨i, hi⟩ := List.getElem?_of_mem hx
      exact HALL.out i x (by have := (List.getElem?_eq_some_iff.1 hi).1; omega) hi
set_option maxRecDepth 100000 in
set_option maxHeartbeats 4000000 in
theorem sound_any (m : List En) (a : Option Addr) (c S : Nat) (w : World) (h : EnsI w S a c m) (hS : S ≤ 536870912) :
    Calls Tryz.prog 10 #[.slice a m.length c] w (PrO (OkMm m) w) := by
  have HCK := Lib.hid (MCheck_any m a c S w h hS)
  obtain ⟨post, hpo⟩ : ∃ q : Ending → World → Prop, q = PrO (OkMm m) w := ⟨_, rfl⟩
  rw [← hpo]
  have HPO := Lib.hid hpo
  clear hpo h
  go_enter Tryz.func10, Tryz.ntmps10
  go_wp2_with (first
    | (go_at_call 29; (with_reducible refine HCK.out.mono ?_); rintro en w2 ⟨i, e, rfl, h2, hx2⟩; have H2 := Lib.hid h2; have HX2 := Lib.hid hx2; clear h2 hx2)
    | fail)
  rw [HPO.out]
  refine ⟨_, rfl, ?_, HX2.out⟩
  rw [← H2.out, beq_iff_eq]
  constructor
  · intro h
    have h1 : (e : Int) = 0 := by simpa using h
    omega
  · intro h
    rw [h]
    rfl

/-! ### Forward at awake08's inputs -/
theorem fwd_is {R : List Str → List Str → Prop} {s u : Str} {b : Bool} {xs ys : List Str} (h : FwdOk R s u b) (hx : PathOk xs) (hs : s = pathS xs) (hR : R xs ys) (hu : ∀ zs, R xs zs → zs = ys) : b = true ∧ u = pathS ys := by
  rcases h with ⟨rfl, xs', zs, hx', hz, e1, rfl, h4⟩ | ⟨-, -, hn⟩
  · rw [hs] at e1
    obtain rfl := pathS_inj hx hx' e1
    exact ⟨rfl, by rw [hu zs h4]⟩
  · exact (hn xs hx hs ys hR).elim
theorem okMm_one {e : En} (h1 : OkR e.l.P e.r.P) (h2 : e.hs = []) : OkMm [e] := by
  refine ⟨?_, by show 1 ≤ 32; decide, ?_, ?_⟩
  · intro k hk
    obtain rfl : k = e := by simpa using hk
    exact ⟨h1, h1.left, by rw [h2]; exact fun q hq => (nomatch hq), by rw [h2]; decide⟩
  · intro k hk
    obtain rfl : k = e := by simpa using hk
    intro h hh
    rw [h2] at hh
    cases hh
  · intro i j x y hj hi
    have hlt := (List.getElem?_eq_some_iff.1 hi).1
    have : i < 1 := hlt
    omega
theorem mfw_one {q : Pat} {ys : List Str} {e : En} {x : Option Addr} {cx B : Nat} {w : World} (hq : OkR deP q) (hr : rel deP q [[100, 101, 118], [97]] ys) (ho : Row w x 1 cx 5 e.cells) (he : EnG w B deP q e) :
    Calls Tryz.prog 11 #[.slice x 1 cx, .string ⟨#[47, 47, 100, 101, 118, 47, 97]⟩] w (RetE (.tuple #[.string (bs (pathS ys)), .bool true]) w) := by
  have hE : EnsI w 200 x cx [e] := ⟨ho, fun k hk => by
    obtain rfl : k = e := by simpa using hk
    exact he.o.i⟩
  have h1 := MForward_any [e] x cx 200 200 [47, 47, 100, 101, 118, 47, 97] w hE (by decide) (by decide) (by decide) (okMm_one (by rw [he.l, he.r]; exact hq) he.hs)
  refine Calls.mono (show Calls Tryz.prog 11 #[.slice x 1 cx, .string ⟨#[47, 47, 100, 101, 118, 47, 97]⟩] w (TrO (relM ([e].map En.E)) [47, 47, 100, 101, 118, 47, 97] 200 200 w) from h1) ?_
  rintro en w' ⟨u, b, rfl, h2, -, h4⟩
  have hrel : ∀ zs, relM ([e].map En.E) [[100, 101, 118], [97]] zs ↔ rel deP q [[100, 101, 118], [97]] zs := fun zs => by
    constructor
    · rintro ⟨k, hk, h5, -⟩
      obtain rfl : k = e.E := by simpa using hk
      have e1 : (En.E e).l = deP := he.l
      have e2 : (En.E e).r = q := he.r
      rw [e1, e2] at h5
      exact h5
    · intro h5
      refine ⟨e.E, by simp, ?_, ?_⟩
      · have e1 : (En.E e).l = deP := he.l
        have e2 : (En.E e).r = q := he.r
        rw [e1, e2]
        exact h5
      · have e3 : (En.E e).hs = [] := by show e.hs.map Pt.P = []; rw [he.hs]; rfl
        rw [e3]
        rfl
  obtain ⟨rfl, rfl⟩ := fwd_is h2 (xs := [[100, 101, 118], [97]]) ⟨by decide, by decide⟩ (by decide) ((hrel ys).2 hr) fun zs hz => rel_inj ((hrel zs).1 hz) hr
  exact ⟨rfl, h4⟩
theorem mfw_ma {e : En} {x : Option Addr} {cx B : Nat} {w : World} (ho : w.ownsRow B 60 5 (.slice x 1 cx) 1 e.cells) (he : EnG w B deP maP e) :
    Calls Tryz.prog 11 #[.slice x 1 cx, .string ⟨#[47, 47, 100, 101, 118, 47, 97]⟩] w (RetE (.tuple #[.string ⟨#[47, 47, 109, 97, 105, 110, 47, 97]⟩, .bool true]) w) :=
  mfw_one (ys := [[109, 97, 105, 110], [97]]) ⟨nm_de.ok, nm_ma.ok, by decide, rfl⟩ ⟨[[[97]]], by rfl, by rfl⟩ (Row.of_own ho) he
theorem mfw_vw {e : En} {x : Option Addr} {cx B : Nat} {w : World} (ho : w.ownsRow B 60 5 (.slice x 1 cx) 1 e.cells) (he : EnG w B deP vwP e) :
    Calls Tryz.prog 11 #[.slice x 1 cx, .string ⟨#[47, 47, 100, 101, 118, 47, 97]⟩] w (RetE (.tuple #[.string ⟨#[47, 47, 118, 105, 101, 119, 47, 97]⟩, .bool true]) w) :=
  mfw_one (ys := [[118, 105, 101, 119], [97]]) ⟨nm_de.ok, vw_ok, by decide, rfl⟩ ⟨[[[97]]], by rfl, by rfl⟩ (Row.of_own ho) he
def dP1 : Pat := ⟨[[100]], true⟩
def cP1 : Pat := ⟨[[99]], true⟩
theorem vfw_one (x : Option Addr) (cx : Nat) (k : Rl) (w : World) (hr : Row w x 1 cx 5 k.cells) (hk : RlI w 100 k) (hx : k.x = false) (h1 : k.l.P = dP1) (h2 : k.r.P = cP1) :
    Calls Tryz.prog 13 #[.slice x 1 cx, .string ⟨#[47, 47, 100, 47, 97]⟩] w (RetE (.tuple #[.string ⟨#[47, 47, 99, 47, 97]⟩, .bool true]) w) := by
  have hor : OkR dP1 cP1 := ⟨okP_of.1 (by decide), okP_of.1 (by decide), by decide, rfl⟩
  have hE : RlsI w 100 x cx [k] := ⟨hr, fun q hq => by
    obtain rfl : q = k := by simpa using hq
    exact hk⟩
  have h3 := VForward_any [k] x cx 100 100 [47, 47, 100, 47, 97] w hE (by decide) (by decide) (by decide) ⟨fun q hq => by
    obtain rfl : q = k := by simpa using hq
    rw [h1, h2]
    exact hor, by show 1 ≤ 16; decide⟩
  refine Calls.mono (show Calls Tryz.prog 13 #[.slice x 1 cx, .string ⟨#[47, 47, 100, 47, 97]⟩] w (TrO (relV ([k].map Rl.R)) [47, 47, 100, 47, 97] 100 100 w) from h3) ?_
  rintro en w' ⟨u, b, rfl, h4, -, h5⟩
  have hrl : rel dP1 cP1 [[100], [97]] [[99], [97]] := ⟨[[[97]]], by rfl, by rfl⟩
  have hrel : ∀ zs, relV ([k].map Rl.R) [[100], [97]] zs ↔ rel dP1 cP1 [[100], [97]] zs := fun zs => by
    constructor
    · rintro ⟨i, r, h6, -, h7, -⟩
      have h8 := List.mem_of_getElem? h6
      obtain rfl : r = k.R := by simpa using h8
      have e1 : (Rl.R k).l = dP1 := h1
      have e2 : (Rl.R k).r = cP1 := h2
      rw [e1, e2] at h7
      exact h7
    · intro h7
      refine ⟨0, k.R, rfl, hx, ?_, fun j r' hj hr' => ?_⟩
      · have e1 : (Rl.R k).l = dP1 := h1
        have e2 : (Rl.R k).r = cP1 := h2
        rw [e1, e2]
        exact h7
      · have hlt := (List.getElem?_eq_some_iff.1 hr').1
        have : j < 1 := hlt
        omega
  obtain ⟨rfl, rfl⟩ := fwd_is h4 (xs := [[100], [97]]) ⟨by decide, by decide⟩ (by decide) ((hrel _).2 hrl) fun zs hz => rel_inj ((hrel zs).1 hz) hrl
  exact ⟨rfl, h5⟩
end Go.Proofs.YtejljmikammcdaaGreatDoor
/-
  The law's sanity check: awake08 answers true.
-/
namespace Go.Proofs.YtejljmikammcdaaGreatDoor
open Go.RowKit Go.WideMaps

theorem pt_new1 (w : World) (g : Nat) (x : ByteArray) (nm : Str) (hx : Value.string x = sv nm) (hn : nm.length ≤ 100) (hr : Row w (some ⟨g, 0, none⟩) 1 1 1 [.string x]) : PtI w 100 ⟨some ⟨g, 0, none⟩, 1, 1, ⟨[nm], true⟩⟩ :=
  ⟨by show Row w (some ⟨g, 0, none⟩) 1 1 1 [sv nm]; rw [← hx]; exact hr, fun q hq => by
    obtain rfl : q = nm := by simpa using hq
    exact hn⟩
/-- The two streams as awake08 lays them. -/
theorem da_new (w : World) : Da (((w.alloc (.cells #[.string ⟨#[118, 105, 101, 119]⟩] 9)).alloc (.cells #[.int .i64 1, .slice (some ⟨w.heap.size, 0, none⟩) 1 1, .bool true, .slice none 0 0, .bool false] 41)).alloc (.cells #[.string ⟨#[109, 97, 105, 110]⟩, .string ⟨#[]⟩, .slice (some ⟨w.heap.size + 1, 0, none⟩) 1 1, .string ⟨#[100, 101, 118]⟩, .string ⟨#[109, 97, 105, 110]⟩, .slice (some ⟨w.heap.size + 1, 0, none⟩) 1 1] 44)) (some ⟨w.heap.size + 1 + 1, 0, none⟩) 2 (some ⟨w.heap.size + 1, 0, none⟩) 1 (some ⟨w.heap.size, 0, none⟩) 1 ∧
    Ext w (((w.alloc (.cells #[.string ⟨#[118, 105, 101, 119]⟩] 9)).alloc (.cells #[.int .i64 1, .slice (some ⟨w.heap.size, 0, none⟩) 1 1, .bool true, .slice none 0 0, .bool false] 41)).alloc (.cells #[.string ⟨#[109, 97, 105, 110]⟩, .string ⟨#[]⟩, .slice (some ⟨w.heap.size + 1, 0, none⟩) 1 1, .string ⟨#[100, 101, 118]⟩, .string ⟨#[109, 97, 105, 110]⟩, .slice (some ⟨w.heap.size + 1, 0, none⟩) 1 1] 44)) := by
  have r1 := Row.new w #[.string ⟨#[118, 105, 101, 119]⟩] 9 1 1 rfl (by decide)
  have e1 := Ext.alloc' w (.cells #[.string ⟨#[118, 105, 101, 119]⟩] 9)
  have s1 : (w.alloc (.cells #[.string ⟨#[118, 105, 101, 119]⟩] 9)).heap.size = w.heap.size + 1 := World.size_alloc _ _
  generalize w.alloc (.cells #[.string ⟨#[118, 105, 101, 119]⟩] 9) = w1 at r1 e1 s1 ⊢
  have r2 := Row.new w1 #[.int .i64 1, .slice (some ⟨w.heap.size, 0, none⟩) 1 1, .bool true, .slice none 0 0, .bool false] 41 1 5 rfl (by decide)
  have e2 := Ext.alloc' w1 (.cells #[.int .i64 1, .slice (some ⟨w.heap.size, 0, none⟩) 1 1, .bool true, .slice none 0 0, .bool false] 41)
  have s2 : (w1.alloc (.cells #[.int .i64 1, .slice (some ⟨w.heap.size, 0, none⟩) 1 1, .bool true, .slice none 0 0, .bool false] 41)).heap.size = w.heap.size + 1 + 1 := by rw [World.size_alloc, s1]
  rw [s1] at r2
  generalize w1.alloc (.cells #[.int .i64 1, .slice (some ⟨w.heap.size, 0, none⟩) 1 1, .bool true, .slice none 0 0, .bool false] 41) = w2 at r2 e2 s2 ⊢
  have r3 := Row.new w2 #[.string ⟨#[109, 97, 105, 110]⟩, .string ⟨#[]⟩, .slice (some ⟨w.heap.size + 1, 0, none⟩) 1 1, .string ⟨#[100, 101, 118]⟩, .string ⟨#[109, 97, 105, 110]⟩, .slice (some ⟨w.heap.size + 1, 0, none⟩) 1 1] 44 2 3 rfl (by decide)
  have e3 := Ext.alloc' w2 (.cells #[.string ⟨#[109, 97, 105, 110]⟩, .string ⟨#[]⟩, .slice (some ⟨w.heap.size + 1, 0, none⟩) 1 1, .string ⟨#[100, 101, 118]⟩, .string ⟨#[109, 97, 105, 110]⟩, .slice (some ⟨w.heap.size + 1, 0, none⟩) 1 1] 44)
  rw [s2] at r3
  exact ⟨⟨r3, r2.ext e3, (pt_new1 w1 w.heap.size _ [118, 105, 101, 119] rfl (by decide) r1).ext (e2.trans' e3)⟩, e1.trans' (e2.trans' e3)⟩
/-- view.Forward at the line of awake08. -/
theorem vfw_new (w : World) : Calls Tryz.prog 13 #[.slice (some ⟨w.heap.size + 1 + 1, 0, none⟩) 1 1, .string ⟨#[47, 47, 100, 47, 97]⟩] (((w.alloc (.cells #[.string ⟨#[100]⟩] 9)).alloc (.cells #[.string ⟨#[99]⟩] 9)).alloc (.cells #[.bool false, .slice (some ⟨w.heap.size, 0, none⟩) 1 1, .bool true, .slice (some ⟨w.heap.size + 1, 0, none⟩) 1 1, .bool true] 48)) (RetE (.tuple #[.string ⟨#[47, 47, 99, 47, 97]⟩, .bool true]) w) := by
  have r1 := Row.new w #[.string ⟨#[100]⟩] 9 1 1 rfl (by decide)
  have e1 := Ext.alloc' w (.cells #[.string ⟨#[100]⟩] 9)
  have s1 : (w.alloc (.cells #[.string ⟨#[100]⟩] 9)).heap.size = w.heap.size + 1 := World.size_alloc _ _
  generalize w.alloc (.cells #[.string ⟨#[100]⟩] 9) = w1 at r1 e1 s1 ⊢
  have r2 := Row.new w1 #[.string ⟨#[99]⟩] 9 1 1 rfl (by decide)
  have e2 := Ext.alloc' w1 (.cells #[.string ⟨#[99]⟩] 9)
  have s2 : (w1.alloc (.cells #[.string ⟨#[99]⟩] 9)).heap.size = w.heap.size + 1 + 1 := by rw [World.size_alloc, s1]
  rw [s1] at r2
  generalize w1.alloc (.cells #[.string ⟨#[99]⟩] 9) = w2 at r2 e2 s2 ⊢
  have r3 := Row.new w2 #[.bool false, .slice (some ⟨w.heap.size, 0, none⟩) 1 1, .bool true, .slice (some ⟨w.heap.size + 1, 0, none⟩) 1 1, .bool true] 48 1 5 rfl (by decide)
  have e3 := Ext.alloc' w2 (.cells #[.bool false, .slice (some ⟨w.heap.size, 0, none⟩) 1 1, .bool true, .slice (some ⟨w.heap.size + 1, 0, none⟩) 1 1, .bool true] 48)
  rw [s2] at r3
  have e13 := e1.trans' (e2.trans' e3)
  refine (vfw_one _ 1 ⟨false, ⟨some ⟨w.heap.size, 0, none⟩, 1, 1, dP1⟩, ⟨some ⟨w.heap.size + 1, 0, none⟩, 1, 1, cP1⟩⟩ _ r3 ⟨(pt_new1 w1 w.heap.size _ [100] rfl (by decide) r1).ext (e2.trans' e3), (pt_new1 w2 (w.heap.size + 1) _ [99] rfl (by decide) r2).ext e3⟩ rfl rfl rfl).mono ?_
  rintro en w' ⟨h1, h2⟩
  exact ⟨h1, e13.trans' h2⟩
/-- fine at two errors. -/
theorem fine_two (x y : Nat) (w : World) : Calls Tryz.prog 7 #[.slice (some ⟨w.heap.size, 0, none⟩) 2 2] (w.alloc (.cells #[.int .i64 (x : Nat), .int .i64 (y : Nat)] 25)) (PrO (x = 0 ∧ y = 0) w) := by
  have r1 := Row.new w #[.int .i64 (x : Nat), .int .i64 (y : Nat)] 25 2 1 rfl (by decide)
  have e1 := Ext.alloc' w (.cells #[.int .i64 (x : Nat), .int .i64 (y : Nat)] 25)
  refine (show Calls Tryz.prog 7 #[.slice (some ⟨w.heap.size, 0, none⟩) 2 2] _ (PrO (∀ e ∈ [x, y], e = 0) _) from fine_any [x, y] _ 2 _ r1 (by show 2 ≤ 1048576; decide)).mono ?_
  rintro en w' ⟨q, h1, h2, h3⟩
  refine ⟨q, h1, h2.trans ?_, e1.trans' h3⟩
  simp
set_option maxRecDepth 100000 in
set_option maxHeartbeats 4000000 in
theorem awake_any (w : World) : Calls Tryz.prog 5 #[] w (RetE (.bool true) w) := by
  obtain ⟨post, hpo⟩ : ∃ q : Ending → World → Prop, q = RetE (.bool true) w := ⟨_, rfl⟩
  rw [← hpo]
  have HPO := Lib.hid hpo
  have hda := da_new w
  clear hpo
  go_enter Tryz.func5, Tryz.ntmps5
  go_upto_region 3 with fail
  generalize ((w.alloc (.cells #[.string ⟨#[118, 105, 101, 119]⟩] 9)).alloc (.cells #[.int .i64 1, .slice (some ⟨w.heap.size, 0, none⟩) 1 1, .bool true, .slice none 0 0, .bool false] 41)).alloc (.cells #[.string ⟨#[109, 97, 105, 110]⟩, .string ⟨#[]⟩, .slice (some ⟨w.heap.size + 1, 0, none⟩) 1 1, .string ⟨#[100, 101, 118]⟩, .string ⟨#[109, 97, 105, 110]⟩, .slice (some ⟨w.heap.size + 1, 0, none⟩) 1 1] 44) = w3 at hda ⊢
  generalize (some ⟨w.heap.size + 1 + 1, 0, none⟩ : Option Addr) = a at hda ⊢
  generalize (some ⟨w.heap.size + 1, 0, none⟩ : Option Addr) = b at hda ⊢
  generalize (some ⟨w.heap.size, 0, none⟩ : Option Addr) = p at hda ⊢
  have HBT := Lib.hid (Between_any a 2 b 1 p 1 w3 hda.1)
  have HVW := Lib.hid fun w' (hx : Ext w3 w') => View_any a 2 b 1 p 1 w' (hda.1.ext hx)
  have HX3 := Lib.hid hda.2
  clear hda
  go_upto_region 5 with (first
    | (go_at_call 14; (with_reducible refine HBT.out.mono ?_); rintro en w4 ⟨x, cx, e, rfl, ho, he, hx4⟩; have HF := Lib.hid (mfw_ma ho he); have HX4 := Lib.hid hx4; clear ho he hx4)
    | (go_at_call 11; (with_reducible refine HF.out.mono ?_); rintro en w5 ⟨rfl, hx5⟩; have HX5 := Lib.hid (HX4.out.trans' hx5); clear hx5)
    | fail)
  clear HF HX4
  go_upto_region 7 with (first
    | (go_at_call 15; (with_reducible refine (HVW.out _ HX5.out).mono ?_); rintro en w6 ⟨x2, cx2, e2, rfl, ho, he, hx4⟩; have HF := Lib.hid (mfw_vw ho he); have HX6 := Lib.hid (HX5.out.trans' hx4); clear ho he hx4)
    | (go_at_call 11; (with_reducible refine HF.out.mono ?_); rintro en w7 ⟨rfl, hx5⟩; have HX7 := Lib.hid (HX6.out.trans' hx5); clear hx5)
    | fail)
  clear HF HX6 HX5
  go_wp2_with (first
    | (go_at_call 13; (with_reducible refine (vfw_new _).mono ?_); rintro en w8 ⟨rfl, hx8⟩; have HX8 := Lib.hid (HX7.out.trans' hx8); clear hx8)
    | (go_at_call 7; (refine (show Calls Tryz.prog 7 #[.slice (some ⟨w8.heap.size, 0, none⟩) 2 2] (w8.alloc (.cells #[.int .i64 0, .int .i64 0] 25)) (PrO (0 = 0 ∧ 0 = 0) w8) from fine_two 0 0 w8).mono ?_); rintro en w9 ⟨q, rfl, hq, hx9⟩; obtain rfl : q = true := hq.2 ⟨rfl, rfl⟩; have HX9 := Lib.hid (HX8.out.trans' hx9); clear hq hx9)
    | fail)
  rw [HPO.out]
  exact ⟨rfl, HX3.out.trans' HX9.out⟩
end Go.Proofs.YtejljmikammcdaaGreatDoor
