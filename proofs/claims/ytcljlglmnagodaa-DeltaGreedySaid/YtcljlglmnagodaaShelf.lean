/-
  strings.Contains, by the shelf's contract, laid at this seat in plain words.
-/
import Derived.Shelf.Strings.Search1
import Derived.Shelf.Strings.Search2
import Derived.Shelf.Strings.Search3
import Derived.Shelf.LaysM
import Derived.Ground.NamesProg
import Derived.Shelf.Strings.Shaped
import Derived.Test.YtcljlglmnagodaaChecked
namespace Go.Proofs.Ytcljlglmnagodaa
open Go.Shelf
def Try.laysM144_ren : Go.Shelf.Ren := ⟨fun | 144 => 49 | 143 => 87 | 219 => 103 | 217 => 108 | 225 => 109 | 224 => 110 | 267 => 111 | 266 => 113 | 314 => 114 | n => n, fun | 9 => 9 | 4 => 4 | 3 => 3 | 5 => 5 | 46 => 137 | 146 => 141 | 51 => 140 | n => n, fun | 1 => 0 | n => n⟩
theorem Try.laysM144 : Go.Proofs.LaysM.n144 Try.prog Try.laysM144_ren := {
  mixed := by kernel_rfl
  f143 := Try.func87.trans (congrArg some (by kernel_rfl))
  f144 := Try.func49.trans (congrArg some (by kernel_rfl))
  f217 := Try.func108.trans (congrArg some (by kernel_rfl))
  f219 := Try.func103.trans (congrArg some (by kernel_rfl))
  f224 := Try.func110.trans (congrArg some (by kernel_rfl))
  f225 := Try.func109.trans (congrArg some (by kernel_rfl))
  f266 := Try.func113.trans (congrArg some (by kernel_rfl))
  f267 := Try.func111.trans (congrArg some (by kernel_rfl))
  f314 := Try.func114.trans (congrArg some (by kernel_rfl))
  t3 := Try.underlying3
  a3 := Try.isAgg3
  z3 := Try.sizeOf3
  v3 := Try.zeroValue3
  t4 := Try.underlying4
  a4 := Try.isAgg4
  z4 := Try.sizeOf4
  v4 := Try.zeroValue4
  t5 := Try.underlying5
  a5 := Try.isAgg5
  z5 := Try.sizeOf5
  v5 := Try.zeroValue5
  t9 := Try.underlying9
  a9 := Try.isAgg9
  z9 := Try.sizeOf9
  v9 := Try.zeroValue9
  t46 := Try.underlying137
  a46 := Try.isAgg137
  z46 := Try.sizeOf137
  v46 := Try.zeroValue137
  t51 := Try.underlying140
  a51 := Try.isAgg140
  z51 := Try.sizeOf140
  v51 := Try.zeroValue140
  t146 := Try.underlying141
  a146 := Try.isAgg141
  z146 := Try.sizeOf141
  v146 := Try.zeroValue141
  g1 := by kernel_rfl
  i3 := by kernel_rfl
  i4 := by kernel_rfl
  i5 := by kernel_rfl
  i9 := by kernel_rfl
  i46 := by kernel_rfl
  i51 := by kernel_rfl
  i146 := by kernel_rfl
  m1 := by kernel_rfl
  s1_3 := fun w h => Go.Proofs.cell_of_shapedOpen_int (zero := #[.int .i64 0]) (t := 3) h (of_decide_eq_true (by kernel_rfl)) (by kernel_rfl) rfl (by kernel_rfl) (by kernel_rfl) Try.underlying3 }
open Go.RowKit Go.Lib in
theorem Try.maxlen_shaped (w : World) (h : w.ShapedOpen Try.prog) : ∃ m, w.cell? ⟨0, 0, none⟩ = some (.int .i64 m) := Try.laysM144.s1_3 w h
open Go.RowKit Go.Lib in
theorem Try.strings_Contains (s sub : ByteArray) (m : Int) (w : World) (hs : s.size < 4294967281) (hm : w.cell? ⟨0, 0, none⟩ = some (.int .i64 m)) :
    Calls Try.prog 49 #[.string s, .string sub] w fun e w' => e = .returned (.bool (Lib.contains s.data.toList sub.data.toList)) ∧ w' = w := Any.strings_Contains { Try.laysM144 with } s sub m w hs hm
end Go.Proofs.Ytcljlglmnagodaa
