/- DERIVED: THE SHELF's CONTRACTS AT THIS DUMP, IN PLAIN WORDS (tools/lay-plain.mjs out of 'TryzShelf.lean', which tools/lay-shelf.mjs wrote): THE SAME DECLARATIONS UNDER THE SAME NAMES: 'import', 'namespace', 'open', 'def', 'theorem' AND NOTHING ELSE: no command of the shelf's: FOR A HAND-IN. Each laying: the table of numbers ('.._ren') and one theorem, a field a fact of the dump's own or the kernel's comparison; each contract: ONE APPLICATION. back.find: a key among pairs by binary search; what it finds is there, and on a sorted list it finds what there is. Plain laws of memory: copy between rows of elements of several cells; a row with one element more in its midst; pairs with one more, as cells. -/
import Derived.Test.YtjbnfigpflambacGreatDoorProg
import Derived.Test.YtjbnfigpflambacGreatDoorG06
import Derived.Shelf.Strings.Builder1
import Derived.Shelf.Small.Strs
import Derived.Shelf.Strings.BuilderF
import Derived.Shelf.Strings.BuilderK
import Derived.Shelf.Strconv.Itoa0
import Derived.Shelf.Strconv.Itoa1
import Derived.Shelf.LaysM
import Derived.Shelf.Strconv.Itoa2
import Derived.Shelf.Strconv.Itoa3
import Derived.Shelf.Strings.Search1
import Derived.Shelf.Strings.Search2
import Derived.Shelf.Strings.Search3
import Derived.Shelf.Strings.Count
import Derived.Shelf.Strings.Shaped
import Derived.Shelf.Strings.Prefix
import Derived.Shelf.Strings.Split
import Derived.Shelf.Strings.SplitShaped
import Derived.Shelf.Bits.Mul64
import Derived.Shelf.Unicode.DecodeSlow
import Derived.Shelf.Strings.BuilderCap
import Derived.Shelf.Slices.Turned
import Derived.Shelf.Slices.Equal
import Derived.Shelf.Slices.Empties2
import Derived.Laws.CopyRow
import Derived.Laws.IdiomCopy
import Derived.Laws.AppendOwn
import Derived.Lib.AppendZerosOnto
import Derived.Lib.Overlaps
import Derived.Tactics
/-
 DERIVED: THE SHELF's CONTRACTS AT THIS DUMP, IN PLAIN WORDS (tools/lay-plain.mjs out of 'TryzShelf.lean', which tools/lay-shelf.mjs wrote): THE SAME DECLARATIONS UNDER THE SAME NAMES: 'import', 'namespace', 'open', 'def', 'theorem' AND NOTHING ELSE: no command of the shelf's: FOR A HAND-IN. Each laying: the table of numbers ('.._ren') and one theorem, a field a fact of the dump's own or the kernel's comparison; each contract: ONE APPLICATION.
-/
namespace Go.Proofs
open Go.Shelf
def Tryz.lays106_ren : Go.Shelf.Ren := ⟨fun | 106 => 127 | 213 => 143 | 265 => 157 | n => n, fun | 9 => 9 | 3 => 3 | n => n, fun | n => n⟩
theorem Tryz.lays106 : Go.Proofs.Lays.n106 Tryz.prog Tryz.lays106_ren := {
 mixed := by kernel_rfl
 f106 := Tryz.func127.trans (congrArg some (by kernel_rfl))
 f213 := Tryz.func143.trans (congrArg some (by kernel_rfl))
 f265 := Tryz.func157.trans (congrArg some (by kernel_rfl))
 t3 := Tryz.underlying3
 a3 := Tryz.isAgg3
 z3 := Tryz.sizeOf3
 v3 := Tryz.zeroValue3
 t9 := Tryz.underlying9
 a9 := Tryz.isAgg9
 z9 := Tryz.sizeOf9
 v9 := Tryz.zeroValue9 }
open Go.RowKit in
theorem Tryz.strings_Compare (a b : ByteArray) (w : World) :
  Calls Tryz.prog 127 #[.string a, .string b] w fun e w' => e = .returned (.int .i64 (Lib.compareBytes a.data.toList b.data.toList)) ∧ w' = w := Any.strings_Compare Tryz.lays106 a b w
def Tryz.laysM143_ren : Go.Shelf.Ren := ⟨fun | 143 => 59 | 219 => 87 | 217 => 115 | 225 => 116 | 224 => 117 | 267 => 118 | 266 => 139 | 314 => 140 | n => n, fun | 9 => 9 | 3 => 3 | 4 => 4 | 5 => 5 | 46 => 136 | 146 => 166 | 51 => 165 | n => n, fun | 1 => 1 | n => n⟩
theorem Tryz.laysM143 : Go.Proofs.LaysM.n143 Tryz.prog Tryz.laysM143_ren := {
 mixed := by kernel_rfl
 f143 := Tryz.func59.trans (congrArg some (by kernel_rfl))
 f217 := Tryz.func115.trans (congrArg some (by kernel_rfl))
 f219 := Tryz.func87.trans (congrArg some (by kernel_rfl))
 f224 := Tryz.func117.trans (congrArg some (by kernel_rfl))
 f225 := Tryz.func116.trans (congrArg some (by kernel_rfl))
 f266 := Tryz.func139.trans (congrArg some (by kernel_rfl))
 f267 := Tryz.func118.trans (congrArg some (by kernel_rfl))
 f314 := Tryz.func140.trans (congrArg some (by kernel_rfl))
 t3 := Tryz.underlying3
 a3 := Tryz.isAgg3
 z3 := Tryz.sizeOf3
 v3 := Tryz.zeroValue3
 t4 := Tryz.underlying4
 a4 := Tryz.isAgg4
 z4 := Tryz.sizeOf4
 v4 := Tryz.zeroValue4
 t5 := Tryz.underlying5
 a5 := Tryz.isAgg5
 z5 := Tryz.sizeOf5
 v5 := Tryz.zeroValue5
 t9 := Tryz.underlying9
 a9 := Tryz.isAgg9
 z9 := Tryz.sizeOf9
 v9 := Tryz.zeroValue9
 t46 := Tryz.underlying136
 a46 := Tryz.isAgg136
 z46 := Tryz.sizeOf136
 v46 := Tryz.zeroValue136
 t51 := Tryz.underlying165
 a51 := Tryz.isAgg165
 z51 := Tryz.sizeOf165
 v51 := Tryz.zeroValue165
 t146 := Tryz.underlying166
 a146 := Tryz.isAgg166
 z146 := Tryz.sizeOf166
 v146 := Tryz.zeroValue166
 g1 := by kernel_rfl
 i3 := by kernel_rfl
 i4 := by kernel_rfl
 i5 := by kernel_rfl
 i9 := by kernel_rfl
 i46 := by kernel_rfl
 i51 := by kernel_rfl
 i146 := by kernel_rfl
 m1 := by kernel_rfl
 s1_3 := fun w h => Go.Proofs.cell_of_shapedOpen_int (zero := #[.int .i64 0]) (t := 3) h (of_decide_eq_true (by kernel_rfl)) (by kernel_rfl) rfl (by kernel_rfl) (by kernel_rfl) Tryz.underlying3 }
def Tryz.lays147_ren : Go.Shelf.Ren := ⟨fun | 147 => 105 | 221 => 130 | 268 => 147 | 138 => 148 | 143 => 59 | 195 => 160 | 197 => 161 | 218 => 162 | 219 => 87 | 260 => 164 | 217 => 115 | 225 => 116 | 224 => 117 | 267 => 118 | 266 => 139 | 314 => 140 | n => n, fun | 9 => 9 | 3 => 3 | 31 => 25 | 4 => 4 | 0 => 0 | 105 => 213 | 21 => 21 | 5 => 5 | 46 => 136 | 119 => 218 | 139 => 221 | 138 => 220 | 146 => 166 | 51 => 165 | n => n, fun | 1 => 1 | 3 => 5 | 4 => 6 | n => n⟩
theorem Tryz.lays147 : Go.Proofs.Lays.n147 Tryz.prog Tryz.lays147_ren := {
 mixed := by kernel_rfl
 f138 := Tryz.func148.trans (congrArg some (by kernel_rfl))
 f143 := Tryz.func59.trans (congrArg some (by kernel_rfl))
 f147 := Tryz.func105.trans (congrArg some (by kernel_rfl))
 f195 := Tryz.func160.trans (congrArg some (by kernel_rfl))
 f197 := Tryz.func161.trans (congrArg some (by kernel_rfl))
 f217 := Tryz.func115.trans (congrArg some (by kernel_rfl))
 f218 := Tryz.func162.trans (congrArg some (by kernel_rfl))
 f219 := Tryz.func87.trans (congrArg some (by kernel_rfl))
 f221 := Tryz.func130.trans (congrArg some (by kernel_rfl))
 f224 := Tryz.func117.trans (congrArg some (by kernel_rfl))
 f225 := Tryz.func116.trans (congrArg some (by kernel_rfl))
 f260 := Tryz.func164.trans (congrArg some (by kernel_rfl))
 f266 := Tryz.func139.trans (congrArg some (by kernel_rfl))
 f267 := Tryz.func118.trans (congrArg some (by kernel_rfl))
 f268 := Tryz.func147.trans (congrArg some (by kernel_rfl))
 f314 := Tryz.func140.trans (congrArg some (by kernel_rfl))
 t0 := Tryz.underlying0
 a0 := Tryz.isAgg0
 z0 := Tryz.sizeOf0
 v0 := Tryz.zeroValue0
 t3 := Tryz.underlying3
 a3 := Tryz.isAgg3
 z3 := Tryz.sizeOf3
 v3 := Tryz.zeroValue3
 t4 := Tryz.underlying4
 a4 := Tryz.isAgg4
 z4 := Tryz.sizeOf4
 v4 := Tryz.zeroValue4
 t5 := Tryz.underlying5
 a5 := Tryz.isAgg5
 z5 := Tryz.sizeOf5
 v5 := Tryz.zeroValue5
 t9 := Tryz.underlying9
 a9 := Tryz.isAgg9
 z9 := Tryz.sizeOf9
 v9 := Tryz.zeroValue9
 t21 := Tryz.underlying21
 a21 := Tryz.isAgg21
 z21 := Tryz.sizeOf21
 v21 := Tryz.zeroValue21
 t31 := Tryz.underlying25
 a31 := Tryz.isAgg25
 z31 := Tryz.sizeOf25
 v31 := Tryz.zeroValue25
 t46 := Tryz.underlying136
 a46 := Tryz.isAgg136
 z46 := Tryz.sizeOf136
 v46 := Tryz.zeroValue136
 t51 := Tryz.underlying165
 a51 := Tryz.isAgg165
 z51 := Tryz.sizeOf165
 v51 := Tryz.zeroValue165
 t105 := Tryz.underlying213
 a105 := Tryz.isAgg213
 z105 := Tryz.sizeOf213
 v105 := Tryz.zeroValue213
 t119 := Tryz.underlying218
 a119 := Tryz.isAgg218
 z119 := Tryz.sizeOf218
 t138 := Tryz.underlying220
 a138 := Tryz.isAgg220
 z138 := Tryz.sizeOf220
 v138 := Tryz.zeroValue220
 t139 := Tryz.underlying221
 a139 := Tryz.isAgg221
 z139 := Tryz.sizeOf221
 v139 := Tryz.zeroValue221
 t146 := Tryz.underlying166
 a146 := Tryz.isAgg166
 z146 := Tryz.sizeOf166
 v146 := Tryz.zeroValue166
 g1 := by kernel_rfl
 g3 := by kernel_rfl
 g4 := by kernel_rfl }
open Go.RowKit Go.Lib in
theorem Tryz.strings_SplitN (s sep : ByteArray) (n : Nat) (m : Int) (w : World) (hs : s.size < 4294967281) (hm : w.cell? ⟨1, 0, none⟩ = some (.int .i64 m)) (h1 : 1 ≤ sep.size) (hn : 1 ≤ n) (hn63 : n ≤ 9223372036854775807) :
  Calls Tryz.prog 105 #[.string s, .string sep, .int .i64 n] w fun e w' =>
   e = .returned (.slice (some ⟨w.heap.size, 0, none⟩) (Lib.splitB sep 0 (min n (s.size + 1) - 1) s).length (min n (s.size + 1))) ∧ w' = w.alloc (.cells (Lib.cellsOf (Lib.splitB sep 0 (min n (s.size + 1) - 1) s) (min n (s.size + 1))) 9) := Any.strings_SplitN Tryz.lays147 (by kernel_rfl) s sep n m w hs hm h1 hn hn63
def Tryz.lays212_ren : Go.Shelf.Ren := ⟨fun | 212 => 68 | 263 => 100 | 264 => 101 | n => n, fun | 46 => 136 | 51 => 165 | 146 => 166 | 53 => 168 | 148 => 169 | n => n, fun | n => n⟩
theorem Tryz.lays212 : Go.Proofs.Lays.n212 Tryz.prog Tryz.lays212_ren := {
 mixed := by kernel_rfl
 f212 := Tryz.func68.trans (congrArg some (by kernel_rfl))
 f263 := Tryz.func100.trans (congrArg some (by kernel_rfl))
 f264 := Tryz.func101.trans (congrArg some (by kernel_rfl))
 t46 := Tryz.underlying136
 a46 := Tryz.isAgg136
 z46 := Tryz.sizeOf136
 v46 := Tryz.zeroValue136
 t51 := Tryz.underlying165
 a51 := Tryz.isAgg165
 z51 := Tryz.sizeOf165
 v51 := Tryz.zeroValue165
 t53 := Tryz.underlying168
 a53 := Tryz.isAgg168
 z53 := Tryz.sizeOf168
 v53 := Tryz.zeroValue168
 t146 := Tryz.underlying166
 a146 := Tryz.isAgg166
 z146 := Tryz.sizeOf166
 v146 := Tryz.zeroValue166
 t148 := Tryz.underlying169
 a148 := Tryz.isAgg169
 z148 := Tryz.sizeOf169
 v148 := Tryz.zeroValue169 }
open Go.RowKit Go.Lib in
theorem Tryz.bits_Mul (x y : Nat) (hx : x < 18446744073709551616) (hy : y < 18446744073709551616) (w : World) :
  Calls Tryz.prog 68 #[.int .u64 x, .int .u64 y] w fun e w' => e = .returned (.tuple #[.int .u64 ((x * y / 18446744073709551616 : Nat) : Int), .int .u64 ((x * y % 18446744073709551616 : Nat) : Int)]) ∧ w' = w := Any.bits_Mul Tryz.lays212 x y hx hy w
def Tryz.lays108_ren : Go.Shelf.Ren := ⟨fun | 108 => 77 | n => n, fun | 28 => 87 | 3 => 3 | 0 => 0 | 4 => 4 | n => n, fun | n => n⟩
theorem Tryz.lays108 : Go.Proofs.Lays.n108 Tryz.prog Tryz.lays108_ren := {
 mixed := by kernel_rfl
 f108 := Tryz.func77.trans (congrArg some (by kernel_rfl))
 t0 := Tryz.underlying0
 a0 := Tryz.isAgg0
 z0 := Tryz.sizeOf0
 v0 := Tryz.zeroValue0
 t3 := Tryz.underlying3
 a3 := Tryz.isAgg3
 z3 := Tryz.sizeOf3
 v3 := Tryz.zeroValue3
 t4 := Tryz.underlying4
 a4 := Tryz.isAgg4
 z4 := Tryz.sizeOf4
 v4 := Tryz.zeroValue4
 t28 := Tryz.underlying87
 a28 := Tryz.isAgg87
 z28 := Tryz.sizeOf87
 v28 := Tryz.zeroValue87 }
open Go.Lib in
theorem Tryz.slices_Index_int (b off n c : Nat) (zs : List Int) (x : Int) (w : World) (hz : n ≤ zs.length) (hbig : n ≤ 9223372036854775807) (hc : ∀ j, j < zs.length → w.cell? ⟨b, off + j, none⟩ = some (.int .i64 (zs.getD j 0))) :
  Calls Tryz.prog 77 #[.slice (some ⟨b, off, none⟩) n c, .int .i64 x] w fun e w' => e = .returned (.int .i64 (Lib.idxOf (zs.take n) x)) ∧ w' = w := Any.slices_Index_int Tryz.lays108 b off n c zs x w hz hbig hc
open Go.Lib in
theorem Tryz.slices_Index_int_empty (a : Option Addr) (c : Nat) (x : Int) (w : World) :
  Calls Tryz.prog 77 #[.slice a 0 c, .int .i64 x] w fun e w' => e = .returned (.int .i64 (Lib.idxOf [] x)) ∧ w' = w := Any.slices_Index_int_empty Tryz.lays108 a c x w
def Tryz.lays107_ren : Go.Shelf.Ren := ⟨fun | 107 => 76 | 108 => 77 | n => n, fun | 28 => 87 | 3 => 3 | 4 => 4 | 0 => 0 | n => n, fun | n => n⟩
theorem Tryz.lays107 : Go.Proofs.Lays.n107 Tryz.prog Tryz.lays107_ren := {
 mixed := by kernel_rfl
 f107 := Tryz.func76.trans (congrArg some (by kernel_rfl))
 f108 := Tryz.func77.trans (congrArg some (by kernel_rfl))
 t0 := Tryz.underlying0
 a0 := Tryz.isAgg0
 z0 := Tryz.sizeOf0
 v0 := Tryz.zeroValue0
 t3 := Tryz.underlying3
 a3 := Tryz.isAgg3
 z3 := Tryz.sizeOf3
 v3 := Tryz.zeroValue3
 t4 := Tryz.underlying4
 a4 := Tryz.isAgg4
 z4 := Tryz.sizeOf4
 v4 := Tryz.zeroValue4
 t28 := Tryz.underlying87
 a28 := Tryz.isAgg87
 z28 := Tryz.sizeOf87
 v28 := Tryz.zeroValue87 }
open Go.Lib in
theorem Tryz.slices_Contains_int (b off n c : Nat) (zs : List Int) (x : Int) (w : World) (hz : n ≤ zs.length) (hbig : n ≤ 9223372036854775807) (hc : ∀ j, j < zs.length → w.cell? ⟨b, off + j, none⟩ = some (.int .i64 (zs.getD j 0))) :
  Calls Tryz.prog 76 #[.slice (some ⟨b, off, none⟩) n c, .int .i64 x] w fun e w' => e = .returned (.bool ((zs.take n).contains x)) ∧ w' = w := Any.slices_Contains_int Tryz.lays107 b off n c zs x w hz hbig hc
open Go.Lib in
theorem Tryz.slices_Contains_int_empty (a : Option Addr) (c : Nat) (x : Int) (w : World) :
  Calls Tryz.prog 76 #[.slice a 0 c, .int .i64 x] w fun e w' => e = .returned (.bool false) ∧ w' = w := Any.slices_Contains_int_empty Tryz.lays107 a c x w
def Tryz.lays109_ren : Go.Shelf.Ren := ⟨fun | 109 => 106 | n => n, fun | 31 => 25 | 9 => 9 | 3 => 3 | 0 => 0 | 4 => 4 | n => n, fun | n => n⟩
theorem Tryz.lays109 : Go.Proofs.Lays.n109 Tryz.prog Tryz.lays109_ren := {
 mixed := by kernel_rfl
 f109 := Tryz.func106.trans (congrArg some (by kernel_rfl))
 t0 := Tryz.underlying0
 a0 := Tryz.isAgg0
 z0 := Tryz.sizeOf0
 v0 := Tryz.zeroValue0
 t3 := Tryz.underlying3
 a3 := Tryz.isAgg3
 z3 := Tryz.sizeOf3
 v3 := Tryz.zeroValue3
 t4 := Tryz.underlying4
 a4 := Tryz.isAgg4
 z4 := Tryz.sizeOf4
 v4 := Tryz.zeroValue4
 t9 := Tryz.underlying9
 a9 := Tryz.isAgg9
 z9 := Tryz.sizeOf9
 v9 := Tryz.zeroValue9
 t31 := Tryz.underlying25
 a31 := Tryz.isAgg25
 z31 := Tryz.sizeOf25
 v31 := Tryz.zeroValue25 }
open Go.Lib in
theorem Tryz.slices_Index_string (b off n c : Nat) (zs : List ByteArray) (x : ByteArray) (w : World) (hz : n ≤ zs.length) (hbig : n ≤ 9223372036854775807) (hc : ∀ j, j < zs.length → w.cell? ⟨b, off + j, none⟩ = some (.string (zs.getD j ByteArray.empty))) :
  Calls Tryz.prog 106 #[.slice (some ⟨b, off, none⟩) n c, .string x] w fun e w' => e = .returned (.int .i64 (Lib.idxOfS (zs.take n) x)) ∧ w' = w := Any.slices_Index_string Tryz.lays109 b off n c zs x w hz hbig hc
def Tryz.lays193_ren : Go.Shelf.Ren := ⟨fun | 193 => 22 | n => n, fun | 31 => 25 | 9 => 9 | 4 => 4 | 3 => 3 | 0 => 0 | n => n, fun | n => n⟩
theorem Tryz.lays193 : Go.Proofs.Lays.n193 Tryz.prog Tryz.lays193_ren := {
 mixed := by kernel_rfl
 f193 := Tryz.func22.trans (congrArg some (by kernel_rfl))
 t0 := Tryz.underlying0
 a0 := Tryz.isAgg0
 z0 := Tryz.sizeOf0
 v0 := Tryz.zeroValue0
 t3 := Tryz.underlying3
 a3 := Tryz.isAgg3
 z3 := Tryz.sizeOf3
 v3 := Tryz.zeroValue3
 t4 := Tryz.underlying4
 a4 := Tryz.isAgg4
 z4 := Tryz.sizeOf4
 v4 := Tryz.zeroValue4
 t9 := Tryz.underlying9
 a9 := Tryz.isAgg9
 z9 := Tryz.sizeOf9
 v9 := Tryz.zeroValue9
 t31 := Tryz.underlying25
 a31 := Tryz.isAgg25
 z31 := Tryz.sizeOf25
 v31 := Tryz.zeroValue25 }
open Go.RowKit Go.Lib in
theorem Tryz.slices_Equal_string (b1 o1 n c b2 o2 m d : Nat) (xs ys : List ByteArray) (w : World) (hx : n ≤ xs.length) (hy : m ≤ ys.length) (hbig : n ≤ 9223372036854775807) (hbig2 : m ≤ 9223372036854775807) (hc1 : ∀ j, j < xs.length → w.cell? ⟨b1, o1 + j, none⟩ = some (.string (xs.getD j ByteArray.empty))) (hc2 : ∀ j, j < ys.length → w.cell? ⟨b2, o2 + j, none⟩ = some (.string (ys.getD j ByteArray.empty))) :
  Calls Tryz.prog 22 #[.slice (some ⟨b1, o1, none⟩) n c, .slice (some ⟨b2, o2, none⟩) m d] w fun e w' => e = .returned (.bool (decide (xs.take n = ys.take m))) ∧ ∃ q, w' = w.drewN q := Any.slices_Equal_string Tryz.lays193 b1 o1 n c b2 o2 m d xs ys w hx hy hbig hbig2 hc1 hc2
open Go.RowKit Go.Lib in
theorem Tryz.slices_Equal_string_empty (a1 a2 : Option Addr) (c m d : Nat) (w : World) (hbig2 : m ≤ 9223372036854775807) :
  Calls Tryz.prog 22 #[.slice a1 0 c, .slice a2 m d] w fun e w' => e = .returned (.bool (decide (m = 0))) ∧ w' = w := Any.slices_Equal_string_empty Tryz.lays193 a1 a2 c m d w hbig2
end Go.Proofs
/- back.find: a key among pairs by binary search; what it finds is there, and on a sorted list it finds what there is. -/
namespace Go.Proofs.YtjbnfigpflambacGreatDoor
open Go.ChangeShapes Go.WideShapes Go.ChangeAt Go.RowKit
theorem cmp_any (a b key : ByteArray) (w : World) :
  Calls Tryz.prog 141 #[.agg #[.string a, .string b], .string key] w fun e w' => e = .returned (.int .i64 (cmpS a key)) ∧ Below w.heap.size w w' := by
 go_enter Tryz.func141, Tryz.ntmps141
 go_wp2_with fail
 refine (Tryz.strings_Compare a key _).mono ?_
 rintro e w' ⟨rfl, rfl⟩
 go_wp2_with fail
 go_ret
 exact ⟨rfl, boxed _ _⟩
structure Found (l : List Pr) (key : ByteArray) (i : Nat) (b : Bool) : Prop where
 le : i ≤ l.length
 here : b = true → ∃ h : i < l.length, l[i].k = key
 sorted : Sorted l → i = posP l key ∧ b = hasK l key
structure Ends (l : List Pr) (key : ByteArray) (lo hi : Nat) : Prop where
 le : lo ≤ hi
 len : hi ≤ l.length
 pos : Sorted l → lo ≤ posP l key ∧ posP l key ≤ hi
theorem Ends.right {l : List Pr} {key : ByteArray} {lo hi m : Nat} (h : Ends l key lo hi) (_ : lo ≤ m) (_ : m < hi) (hm : m < l.length) (hc : ltS l[m].k key = true) : Ends l key (m + 1) hi :=
 ⟨by omega, h.len, fun hs => by
  have := pos_lt hs key m hm
  rw [hc] at this
  have : m < posP l key := by simpa using this.symm
  exact ⟨this, (h.pos hs).2⟩⟩
theorem Ends.left {l : List Pr} {key : ByteArray} {lo hi m : Nat} (h : Ends l key lo hi) (h1 : lo ≤ m) (_h2 : m < hi) (hm : m < l.length) (hc : ltS l[m].k key = false) : Ends l key lo m :=
 ⟨h1, by omega, fun hs => by
  have := pos_lt hs key m hm
  rw [hc] at this
  have : ¬ m < posP l key := by simpa using this.symm
  exact ⟨(h.pos hs).1, by omega⟩⟩
theorem Ends.found {l : List Pr} {key : ByteArray} {i : Nat} (h : Ends l key i i) (hi : i < l.length) : Found l key i (decide (l[i].k = key)) := by
 refine ⟨h.len, fun e => ⟨hi, by simpa using e⟩, fun hs => ?_⟩
 have hp : posP l key = i := by have := h.pos hs; omega
 refine ⟨hp.symm, ?_⟩
 rw [Bool.eq_iff_iff, decide_eq_true_eq, has_pos hs]
 simp only [hp]
 exact ⟨fun e => ⟨hi, e⟩, fun ⟨_, e⟩ => e⟩
theorem Ends.missed {l : List Pr} {key : ByteArray} {i : Nat} (h : Ends l key i i) (hi : ¬ i < l.length) : Found l key i false := by
 refine ⟨h.len, (fun e => by cases e), fun hs => ?_⟩
 have hp : posP l key = i := by have := h.pos hs; omega
 refine ⟨hp.symm, ?_⟩
 cases e : hasK l key with
 | false => rfl
 | true =>
  obtain ⟨h1, _⟩ := (has_pos hs key).1 e
  omega
set_option maxHeartbeats 4000000 in
set_option maxRecDepth 100000 in
theorem search_any (w : World) (v : Value) (l : List Pr) (key : ByteArray) (h : PL w w.heap.size v l) :
  Calls Tryz.prog 125 #[v, .string key, .func (.func 141) #[] #[]] w fun e w' => ∃ i b, e = .returned (.tuple #[.int .i64 (i : Nat), .bool b]) ∧ Found l key i b ∧ Below w.heap.size w w' := by
 obtain ⟨A, c, rfl, hc, hr, hf⟩ := h
 have hl : l.length ≤ 4398046510976 := hf.1
 have HR := Lib.hid hr
 obtain ⟨n, hN⟩ : ∃ n, l.length = n := ⟨_, rfl⟩
 rw [hN] at hl ⊢
 have HN := Lib.hid hN
 clear hr hf hc hN
 go_enter Tryz.func125, Tryz.ntmps125
 go_wp2_with fail
 go_loopw [9, 10] (fun a b wx => ∃ lo hi : Nat, a = .int .i64 lo ∧ b = .int .i64 hi ∧ Ends l key lo hi ∧ Below w.heap.size w wx) (fun a b _ => (intOf b).toNat - (intOf a).toNat)
 case atStart => exact ⟨0, n, rfl, rfl, ⟨Nat.zero_le _, by rw [HN.out]; exact Nat.le_refl _, fun _ => ⟨Nat.zero_le _, by rw [← HN.out]; exact pos_le _ _⟩⟩, Below.refl _ _⟩
 case round =>
  obtain ⟨lo, hi, rfl, rfl, hE, hb⟩ := hrel
  have h1 := hE.le
  have h2 : hi ≤ n := by rw [← HN.out]; exact hE.len
  by_cases hlt : lo < hi
  ·have hm : (lo + hi) / 2 < l.length := by rw [HN.out]; omega
   obtain ⟨ad, hA, -, c1, c2⟩ := pair_at (HR.out.below hb) hm
   subst hA
   obtain ⟨p, hp⟩ : ∃ p, l[(lo + hi) / 2] = p := ⟨_, rfl⟩
   rw [hp] at c1 c2
   have HE := Lib.hid hE
   have HB := Lib.hid hb
   have g1 : (0 : Int) ≤ ((lo : Int) + (hi : Int)) / 2 := by omega
   have g2 : ((lo : Int) + (hi : Int)) / 2 < (n : Int) := by omega
   have hcm := cmpS_neg p.k key
   have hcall := fun w => cmp_any p.k p.v key w
   obtain ⟨z, hz⟩ : ∃ z, cmpS p.k key = z := ⟨_, rfl⟩
   rw [hz] at hcm hcall
   have HC := Lib.hid hcall
   have HP := Lib.hid hp
   cases hless : ltS p.k key with
   | true =>
    rw [hless] at hcm
    have hn : z < 0 := by simpa using hcm
    have HL := Lib.hid hless
    clear hcm hz hcall hless hp hE hb
    go_wp2_with fail
    refine (HC.out _).mono ?_
    rintro e w1 ⟨rfl, b1⟩
    have B1 := Lib.hid (below_step HB.out (Nat.le_refl _) b1)
    clear b1
    go_wp2_with fail
    go_roundw
    case rel => exact ⟨(lo + hi) / 2 + 1, hi, by go_num, rfl, HE.out.right (by omega) (by omega) hm (by rw [HP.out]; exact HL.out), B1.out⟩
    case measure => simp [intOf]; omega
   | false =>
    rw [hless] at hcm
    have hn : 0 ≤ z := by simpa using hcm
    have HL := Lib.hid hless
    clear hcm hz hcall hless hp hE hb
    go_wp2_with fail
    refine (HC.out _).mono ?_
    rintro e w1 ⟨rfl, b1⟩
    have B1 := Lib.hid (below_step HB.out (Nat.le_refl _) b1)
    clear b1
    go_wp2_with fail
    go_roundw
    case rel => exact ⟨lo, (lo + hi) / 2, rfl, by go_num, HE.out.left (by omega) (by omega) hm (by rw [HP.out]; exact HL.out), B1.out⟩
    case measure => simp [intOf]; omega
  ·obtain rfl : hi = lo := by omega
   have HE := Lib.hid hE
   have HB := Lib.hid hb
   by_cases hin : hi < n
   ·have hm : hi < l.length := by rw [HN.out]; exact hin
    obtain ⟨ad, hA, -, c1, c2⟩ := pair_at (HR.out.below hb) hm
    subst hA
    obtain ⟨p, hp⟩ : ∃ p, l[hi] = p := ⟨_, rfl⟩
    rw [hp] at c1 c2
    have hcm := cmpS_zero p.k key
    have hcall := fun w => cmp_any p.k p.v key w
    obtain ⟨z, hz⟩ : ∃ z, cmpS p.k key = z := ⟨_, rfl⟩
    rw [hz] at hcm hcall
    obtain ⟨b, hbb⟩ : ∃ b, decide (p.k = key) = b := ⟨_, rfl⟩
    rw [hbb] at hcm
    have HC := Lib.hid hcall
    have hfound := hE.found hm
    rw [hp, hbb] at hfound
    have HF := Lib.hid hfound
    have g1 : (0 : Int) ≤ (hi : Int) := by omega
    have g2 : (hi : Int) < (n : Int) := by omega
    clear hz hcall hp hE hb hbb hfound
    go_wp2_with fail
    refine (HC.out _).mono ?_
    rintro e w1 ⟨rfl, b1⟩
    have B1 := Lib.hid (below_step HB.out (Nat.le_refl _) b1)
    clear b1
    go_wp2_with fail
    go_ret2
    exact ⟨hi, b, rfl, HF.out, B1.out⟩
   ·have hm : ¬ hi < l.length := by rw [HN.out]; exact hin
    have HF := Lib.hid (hE.missed hm)
    clear hE hb hm
    go_wp2_with fail
    go_ret2
    exact ⟨hi, false, rfl, HF.out, HB.out⟩
theorem find_any (w : World) (v : Value) (l : List Pr) (key : ByteArray) (h : PL w w.heap.size v l) :
  Calls Tryz.prog 119 #[v, .string key] w fun e w' => ∃ i b, e = .returned (.tuple #[.int .i64 (i : Nat), .bool b]) ∧ Found l key i b ∧ Below w.heap.size w w' := by
 have H := Lib.hid h
 clear h
 go_enter Tryz.func119, Tryz.ntmps119
 go_wp2_with fail
 refine (search_any _ _ l key H.out).mono ?_
 rintro e w1 ⟨i, b, rfl, hf, b1⟩
 have HF := Lib.hid hf
 have HB := Lib.hid b1
 clear hf b1
 go_wp2_with fail
 go_ret2
 exact ⟨i, b, rfl, HF.out, HB.out⟩
end Go.Proofs.YtjbnfigpflambacGreatDoor
/- Plain laws of memory: copy between rows of elements of several cells; a row with one element more in its midst; pairs with one more, as cells. -/
namespace Go.Proofs.YtjbnfigpflambacGreatDoor
theorem wp_copy_run (w : World) {P : Program} {o : Oper} {a : Act} {K : Act → World → Prop} {Q : Exit → Act → World → Prop} (d s : Operand) (t t' : TypeId)
  (ho : o.op = .call { callee := .builtin .copy, args := #[d, s], argTypes := #[t, t'] }) (v u : Value) (hd : a.eval d = v) (hs : a.eval s = u) {v' : Value} {w' : World}
  (hr : (Builtin.copy_ #[t, t'] o.type #[v, u]).run P w = .ok v' w') (h : K (a.put o.dst v') w') : o.wp P a w K Q := by
 unfold Oper.wp execOp
 simp only [ho, resolve, invoke, builtin, Sem.run_bind, Sem.run_pure, Result.andThen_ok, List.map_toArray, List.map_cons, List.map_nil, hd, hs, hr]
 exact h
theorem wp_append_run (w : World) {P : Program} {o : Oper} {a : Act} {K : Act → World → Prop} {Q : Exit → Act → World → Prop} (d s : Operand) (t t' : TypeId)
  (ho : o.op = .call { callee := .builtin .append, args := #[d, s], argTypes := #[t, t'] }) (v u : Value) (hd : a.eval d = v) (hs : a.eval s = u) {v' : Value} {w' : World}
  (hr : (Builtin.append_ #[t, t'] o.type #[v, u]).run P w = .ok v' w') (h : K (a.put o.dst v') w') : o.wp P a w K Q := by
 unfold Oper.wp execOp
 simp only [ho, resolve, invoke, builtin, Sem.run_bind, Sem.run_pure, Result.andThen_ok, List.map_toArray, List.map_cons, List.map_nil, hd, hs, hr]
 exact h
theorem wpList_append_run (w : World) {P : Program} {ops : Array Oper} {rest : List Oper} {o : Oper} {a : Act} {Q : Exit → Act → World → Prop} (hgd : o.guard = none) (d s : Operand) (t t' : TypeId)
  (ho : o.op = .call { callee := .builtin .append, args := #[d, s], argTypes := #[t, t'] }) (v u : Value) (hd : a.eval d = v) (hs : a.eval s = u) {v' : Value} {w' : World}
  (hr : (Builtin.append_ #[t, t'] o.type #[v, u]).run P w = .ok v' w') (h : wpList P ops Q rest (a.put o.dst v') w') : wpList P ops Q (o :: rest) a w :=
 wpList_plain hgd fun _ hK => wp_append_run w d s t t' ho v u hd hs hr (hK _ _ h)
theorem run_copy_rowN {P : Program} (w : World) (dT sT ty elem : TypeId) (g o dLen dCap : Nat) (a : Addr) (sLen sCap : Nat) (cur : Array Value) (t : TypeId) (cs : List Value) (k : Nat)
  (hu : P.underlying dT = some (.slice elem)) (hs : (P.info? elem).map (·.size) = some k)
  (hg : w.heap[g]? = some (.cells cur t (0, 0))) (hn : cs.length = Nat.min sLen dLen * k)
  (hsrc : ∀ j v, cs[j]? = some v → w.cell? (a.add j) = some v) (hfit : o + cs.length ≤ cur.size) (h1 : ∀ v ∈ cs, v.oneCell' = true) :
  (Builtin.copy_ #[dT, sT] ty #[.slice (some ⟨g, o, none⟩) dLen dCap, .slice (some a) sLen sCap]).run P w =
   .ok (goInt (Nat.min sLen dLen)) (w.setRow g (cur.toList.take o ++ cs ++ cur.toList.drop (o + cs.length)).toArray) := by
 have hl := run_loadCells_list (P := P) w a cs hsrc
 have hst := run_storeCells_at P g o t cs 0 cur w hg (by simpa using hfit) h1
 cases hq : P.info? elem with
 | none => simp [hq] at hs
 | some i =>
  have hi : i.size = k := by simpa [hq] using hs
  simp [Builtin.copy_, run_underlying hu, Builtin.lenOf, Builtin.firstCells, sizeOf, typeInfo, hq, hi, ← hn, hl, hst]
theorem grown_setRow (w : World) (g : Nat) (cur : Array Value) : w.grownBy (w.setRow g cur) (some g) := by
 refine ⟨rfl, rfl, rfl, by simp [World.setRow], fun k hk hne => ?_⟩
 have : k ≠ g := fun e => hne (by rw [e])
 simp only [World.setRow, Array.getElem?_modify]
 rw [if_neg (fun e => this e.symm)]
theorem shift_list (X rest new : List Value) (i n : Nat) (hX : X.length = n * 2) (hi : i < n) (hnew : new.length = 2) (hr : 2 ≤ rest.length) :
  let cur := X ++ rest
  let cur1 := cur.take ((i + 1) * 2) ++ X.drop (i * 2) ++ cur.drop ((i + 1) * 2 + (X.drop (i * 2)).length)
  (cur1.take (i * 2) ++ new ++ cur1.drop (i * 2 + 2)).take ((n + 1) * 2) = X.take (i * 2) ++ new ++ X.drop (i * 2) := by
 intro cur cur1
 have e1 : (X.drop (i * 2)).length = n * 2 - i * 2 := by rw [List.length_drop, hX]
 have e2 : cur1.take (i * 2) = X.take (i * 2) := by
  show List.take (i * 2) (List.take ((i + 1) * 2) (X ++ rest) ++ X.drop (i * 2) ++ _) = _
  rw [List.append_assoc, List.take_append_of_le_length (by rw [List.length_take, List.length_append, hX]; omega), List.take_take, Nat.min_eq_left (by omega), List.take_append_of_le_length (by omega)]
 have e3 : cur1.drop (i * 2 + 2) = X.drop (i * 2) ++ cur.drop ((i + 1) * 2 + (X.drop (i * 2)).length) := by
  show List.drop (i * 2 + 2) (List.take ((i + 1) * 2) (X ++ rest) ++ X.drop (i * 2) ++ _) = _
  rw [List.append_assoc, List.drop_append_of_le_length (by rw [List.length_take, List.length_append, hX]; omega), List.drop_eq_nil_of_le (by rw [List.length_take]; omega), List.nil_append]
 rw [e2, e3, ← List.append_assoc, List.take_append_of_le_length (by simp only [List.length_append, List.length_take, hnew, e1, hX]; omega)]
 exact List.take_of_length_le (by simp only [List.length_append, List.length_take, hnew, e1, hX]; omega)
theorem grow_list (X Z new : List Value) (i n : Nat) (hX : X.length = n * 2) (hi : i < n) (hnew : new.length = 2) :
  let row := X.take (i * 2) ++ Z
  let row1 := row.take (i * 2) ++ new ++ row.drop (i * 2 + 2)
  (row1.take ((i + 1) * 2) ++ X.drop (i * 2) ++ row1.drop ((i + 1) * 2 + (X.drop (i * 2)).length)).take ((n + 1) * 2) = X.take (i * 2) ++ new ++ X.drop (i * 2) := by
 intro row row1
 have e1 : (X.drop (i * 2)).length = n * 2 - i * 2 := by rw [List.length_drop, hX]
 have e0 : (X.take (i * 2)).length = i * 2 := by rw [List.length_take, hX]; omega
 have e2 : row.take (i * 2) = X.take (i * 2) := by
  show List.take (i * 2) (X.take (i * 2) ++ Z) = _
  rw [List.take_append_of_le_length (by omega)]
  exact List.take_of_length_le (by omega)
 have e3 : row1.take ((i + 1) * 2) = X.take (i * 2) ++ new := by
  show List.take ((i + 1) * 2) (row.take (i * 2) ++ new ++ _) = _
  rw [e2, List.take_append_of_le_length (by rw [List.length_append, e0, hnew]; omega)]
  exact List.take_of_length_le (by rw [List.length_append, e0, hnew]; omega)
 rw [e3, List.take_append_of_le_length (by simp only [List.length_append, hnew, e1, e0]; omega)]
 exact List.take_of_length_le (by simp only [List.length_append, hnew, e1, e0]; omega)
end Go.Proofs.YtjbnfigpflambacGreatDoor
