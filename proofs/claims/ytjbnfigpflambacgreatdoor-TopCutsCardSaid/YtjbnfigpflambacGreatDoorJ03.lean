/- DERIVED: THE SHELF's CONTRACTS AT THIS DUMP, IN PLAIN WORDS (tools/lay-plain.mjs out of 'TryzShelf.lean', which tools/lay-shelf.mjs wrote): THE SAME DECLARATIONS UNDER THE SAME NAMES: 'import', 'namespace', 'open', 'def', 'theorem' AND NOTHING ELSE: no command of the shelf's: FOR A HAND-IN. Each laying: the table of numbers ('.._ren') and one theorem, a field a fact of the dump's own or the kernel's comparison; each contract: ONE APPLICATION. say.Read: what it returns, given what Check returns. The reference's StmtOf: what it returns, given what StmtFault returns. -/
import Derived.Test.YtjbnfigpflambacGreatDoorProg
import Derived.Test.YtjbnfigpflambacGreatDoorJ00
import Derived.Test.YtjbnfigpflambacGreatDoorJ02
import Derived.Shelf.Strings.Builder1
import Derived.Shelf.Small.Strs
import Derived.Shelf.Strings.BuilderF
import Derived.Shelf.Strings.BuilderK
import Derived.Shelf.Strconv.Itoa0
import Derived.Shelf.Strconv.Itoa1
import Derived.Shelf.LaysM
import Derived.Shelf.Strconv.Itoa2
import Derived.Shelf.Strconv.Itoa3
import Derived.Shelf.Strings.Search1
import Derived.Shelf.Strings.Search2
import Derived.Shelf.Strings.Search3
import Derived.Shelf.Strings.Count
import Derived.Shelf.Strings.Shaped
import Derived.Shelf.Strings.Prefix
import Derived.Shelf.Strings.Split
import Derived.Shelf.Strings.SplitShaped
import Derived.Shelf.Bits.Mul64
import Derived.Shelf.Unicode.DecodeSlow
import Derived.Shelf.Strings.BuilderCap
import Derived.Shelf.Slices.Turned
import Derived.Shelf.Slices.Equal
import Derived.Shelf.Slices.Empties2
import Derived.Deep.RegionHeld3
import Derived.Deep.DeepCutAuto
/-
 DERIVED: THE SHELF's CONTRACTS AT THIS DUMP, IN PLAIN WORDS (tools/lay-plain.mjs out of 'TryzShelf.lean', which tools/lay-shelf.mjs wrote): THE SAME DECLARATIONS UNDER THE SAME NAMES: 'import', 'namespace', 'open', 'def', 'theorem' AND NOTHING ELSE: no command of the shelf's: FOR A HAND-IN. Each laying: the table of numbers ('.._ren') and one theorem, a field a fact of the dump's own or the kernel's comparison; each contract: ONE APPLICATION.
-/
namespace Go.Proofs
open Go.Shelf
def Tryz.lays106_ren : Go.Shelf.Ren := ⟨fun | 106 => 127 | 213 => 143 | 265 => 157 | n => n, fun | 9 => 9 | 3 => 3 | n => n, fun | n => n⟩
theorem Tryz.lays106 : Go.Proofs.Lays.n106 Tryz.prog Tryz.lays106_ren := {
 mixed := by kernel_rfl
 f106 := Tryz.func127.trans (congrArg some (by kernel_rfl))
 f213 := Tryz.func143.trans (congrArg some (by kernel_rfl))
 f265 := Tryz.func157.trans (congrArg some (by kernel_rfl))
 t3 := Tryz.underlying3
 a3 := Tryz.isAgg3
 z3 := Tryz.sizeOf3
 v3 := Tryz.zeroValue3
 t9 := Tryz.underlying9
 a9 := Tryz.isAgg9
 z9 := Tryz.sizeOf9
 v9 := Tryz.zeroValue9 }
open Go.RowKit in
/-- strings.Compare: "Compare returns an integer comparing two strings lexicographically. The result will be 0 if a == b, -1 if a < b, and +1 if a > b.": IT RETURNS 'Lib.compareBytes a b'; the world is as it was. (LAID: no walk: one application.) -/
theorem Tryz.strings_Compare (a b : ByteArray) (w : World) :
  Calls Tryz.prog 127 #[.string a, .string b] w fun e w' => e = .returned (.int .i64 (Lib.compareBytes a.data.toList b.data.toList)) ∧ w' = w := Any.strings_Compare Tryz.lays106 a b w
def Tryz.laysM143_ren : Go.Shelf.Ren := ⟨fun | 143 => 59 | 219 => 87 | 217 => 115 | 225 => 116 | 224 => 117 | 267 => 118 | 266 => 139 | 314 => 140 | n => n, fun | 9 => 9 | 3 => 3 | 4 => 4 | 5 => 5 | 46 => 136 | 146 => 166 | 51 => 165 | n => n, fun | 1 => 1 | n => n⟩
theorem Tryz.laysM143 : Go.Proofs.LaysM.n143 Tryz.prog Tryz.laysM143_ren := {
 mixed := by kernel_rfl
 f143 := Tryz.func59.trans (congrArg some (by kernel_rfl))
 f217 := Tryz.func115.trans (congrArg some (by kernel_rfl))
 f219 := Tryz.func87.trans (congrArg some (by kernel_rfl))
 f224 := Tryz.func117.trans (congrArg some (by kernel_rfl))
 f225 := Tryz.func116.trans (congrArg some (by kernel_rfl))
 f266 := Tryz.func139.trans (congrArg some (by kernel_rfl))
 f267 := Tryz.func118.trans (congrArg some (by kernel_rfl))
 f314 := Tryz.func140.trans (congrArg some (by kernel_rfl))
 t3 := Tryz.underlying3
 a3 := Tryz.isAgg3
 z3 := Tryz.sizeOf3
 v3 := Tryz.zeroValue3
 t4 := Tryz.underlying4
 a4 := Tryz.isAgg4
 z4 := Tryz.sizeOf4
 v4 := Tryz.zeroValue4
 t5 := Tryz.underlying5
 a5 := Tryz.isAgg5
 z5 := Tryz.sizeOf5
 v5 := Tryz.zeroValue5
 t9 := Tryz.underlying9
 a9 := Tryz.isAgg9
 z9 := Tryz.sizeOf9
 v9 := Tryz.zeroValue9
 t46 := Tryz.underlying136
 a46 := Tryz.isAgg136
 z46 := Tryz.sizeOf136
 v46 := Tryz.zeroValue136
 t51 := Tryz.underlying165
 a51 := Tryz.isAgg165
 z51 := Tryz.sizeOf165
 v51 := Tryz.zeroValue165
 t146 := Tryz.underlying166
 a146 := Tryz.isAgg166
 z146 := Tryz.sizeOf166
 v146 := Tryz.zeroValue166
 g1 := by kernel_rfl
 i3 := by kernel_rfl
 i4 := by kernel_rfl
 i5 := by kernel_rfl
 i9 := by kernel_rfl
 i46 := by kernel_rfl
 i51 := by kernel_rfl
 i146 := by kernel_rfl
 m1 := by kernel_rfl
 s1_3 := fun w h => Go.Proofs.cell_of_shapedOpen_int (zero := #[.int .i64 0]) (t := 3) h (of_decide_eq_true (by kernel_rfl)) (by kernel_rfl) rfl (by kernel_rfl) (by kernel_rfl) Tryz.underlying3 }
def Tryz.lays99_ren : Go.Shelf.Ren := ⟨fun | 99 => 37 | 206 => 66 | n => n, fun | 9 => 9 | 4 => 4 | 3 => 3 | n => n, fun | n => n⟩
theorem Tryz.lays99 : Go.Proofs.Lays.n99 Tryz.prog Tryz.lays99_ren := {
 mixed := by kernel_rfl
 f99 := Tryz.func37.trans (congrArg some (by kernel_rfl))
 f206 := Tryz.func66.trans (congrArg some (by kernel_rfl))
 t3 := Tryz.underlying3
 a3 := Tryz.isAgg3
 z3 := Tryz.sizeOf3
 v3 := Tryz.zeroValue3
 t4 := Tryz.underlying4
 a4 := Tryz.isAgg4
 z4 := Tryz.sizeOf4
 v4 := Tryz.zeroValue4
 t9 := Tryz.underlying9
 a9 := Tryz.isAgg9
 z9 := Tryz.sizeOf9
 v9 := Tryz.zeroValue9 }
open Go.RowKit Go.Lib in
/-- strings.HasPrefix: "HasPrefix reports whether the string s begins with prefix.": IT RETURNS 'Lib.hasPrefix s prefix'; the world is as it was. (LAID: no walk: one application.) -/
theorem Tryz.strings_HasPrefix (s p : ByteArray) (w : World) :
  Calls Tryz.prog 37 #[.string s, .string p] w fun e w' => e = .returned (.bool (Lib.hasPrefix s.data.toList p.data.toList)) ∧ w' = w := Any.strings_HasPrefix Tryz.lays99 s p w
def Tryz.lays147_ren : Go.Shelf.Ren := ⟨fun | 147 => 105 | 221 => 130 | 268 => 147 | 138 => 148 | 143 => 59 | 195 => 160 | 197 => 161 | 218 => 162 | 219 => 87 | 260 => 164 | 217 => 115 | 225 => 116 | 224 => 117 | 267 => 118 | 266 => 139 | 314 => 140 | n => n, fun | 9 => 9 | 3 => 3 | 31 => 25 | 4 => 4 | 0 => 0 | 105 => 213 | 21 => 21 | 5 => 5 | 46 => 136 | 119 => 218 | 139 => 221 | 138 => 220 | 146 => 166 | 51 => 165 | n => n, fun | 1 => 1 | 3 => 5 | 4 => 6 | n => n⟩
theorem Tryz.lays147 : Go.Proofs.Lays.n147 Tryz.prog Tryz.lays147_ren := {
 mixed := by kernel_rfl
 f138 := Tryz.func148.trans (congrArg some (by kernel_rfl))
 f143 := Tryz.func59.trans (congrArg some (by kernel_rfl))
 f147 := Tryz.func105.trans (congrArg some (by kernel_rfl))
 f195 := Tryz.func160.trans (congrArg some (by kernel_rfl))
 f197 := Tryz.func161.trans (congrArg some (by kernel_rfl))
 f217 := Tryz.func115.trans (congrArg some (by kernel_rfl))
 f218 := Tryz.func162.trans (congrArg some (by kernel_rfl))
 f219 := Tryz.func87.trans (congrArg some (by kernel_rfl))
 f221 := Tryz.func130.trans (congrArg some (by kernel_rfl))
 f224 := Tryz.func117.trans (congrArg some (by kernel_rfl))
 f225 := Tryz.func116.trans (congrArg some (by kernel_rfl))
 f260 := Tryz.func164.trans (congrArg some (by kernel_rfl))
 f266 := Tryz.func139.trans (congrArg some (by kernel_rfl))
 f267 := Tryz.func118.trans (congrArg some (by kernel_rfl))
 f268 := Tryz.func147.trans (congrArg some (by kernel_rfl))
 f314 := Tryz.func140.trans (congrArg some (by kernel_rfl))
 t0 := Tryz.underlying0
 a0 := Tryz.isAgg0
 z0 := Tryz.sizeOf0
 v0 := Tryz.zeroValue0
 t3 := Tryz.underlying3
 a3 := Tryz.isAgg3
 z3 := Tryz.sizeOf3
 v3 := Tryz.zeroValue3
 t4 := Tryz.underlying4
 a4 := Tryz.isAgg4
 z4 := Tryz.sizeOf4
 v4 := Tryz.zeroValue4
 t5 := Tryz.underlying5
 a5 := Tryz.isAgg5
 z5 := Tryz.sizeOf5
 v5 := Tryz.zeroValue5
 t9 := Tryz.underlying9
 a9 := Tryz.isAgg9
 z9 := Tryz.sizeOf9
 v9 := Tryz.zeroValue9
 t21 := Tryz.underlying21
 a21 := Tryz.isAgg21
 z21 := Tryz.sizeOf21
 v21 := Tryz.zeroValue21
 t31 := Tryz.underlying25
 a31 := Tryz.isAgg25
 z31 := Tryz.sizeOf25
 v31 := Tryz.zeroValue25
 t46 := Tryz.underlying136
 a46 := Tryz.isAgg136
 z46 := Tryz.sizeOf136
 v46 := Tryz.zeroValue136
 t51 := Tryz.underlying165
 a51 := Tryz.isAgg165
 z51 := Tryz.sizeOf165
 v51 := Tryz.zeroValue165
 t105 := Tryz.underlying213
 a105 := Tryz.isAgg213
 z105 := Tryz.sizeOf213
 v105 := Tryz.zeroValue213
 t119 := Tryz.underlying218
 a119 := Tryz.isAgg218
 z119 := Tryz.sizeOf218
 t138 := Tryz.underlying220
 a138 := Tryz.isAgg220
 z138 := Tryz.sizeOf220
 v138 := Tryz.zeroValue220
 t139 := Tryz.underlying221
 a139 := Tryz.isAgg221
 z139 := Tryz.sizeOf221
 v139 := Tryz.zeroValue221
 t146 := Tryz.underlying166
 a146 := Tryz.isAgg166
 z146 := Tryz.sizeOf166
 v146 := Tryz.zeroValue166
 g1 := by kernel_rfl
 g3 := by kernel_rfl
 g4 := by kernel_rfl }
open Go.RowKit Go.Lib in
/-- strings.SplitN, n > 0. (LAID: no walk: one application.) -/
theorem Tryz.strings_SplitN (s sep : ByteArray) (n : Nat) (m : Int) (w : World) (hs : s.size < 4294967281) (hm : w.cell? ⟨1, 0, none⟩ = some (.int .i64 m)) (h1 : 1 ≤ sep.size) (hn : 1 ≤ n) (hn63 : n ≤ 9223372036854775807) :
  Calls Tryz.prog 105 #[.string s, .string sep, .int .i64 n] w fun e w' =>
   e = .returned (.slice (some ⟨w.heap.size, 0, none⟩) (Lib.splitB sep 0 (min n (s.size + 1) - 1) s).length (min n (s.size + 1))) ∧ w' = w.alloc (.cells (Lib.cellsOf (Lib.splitB sep 0 (min n (s.size + 1) - 1) s) (min n (s.size + 1))) 9) := Any.strings_SplitN Tryz.lays147 (by kernel_rfl) s sep n m w hs hm h1 hn hn63
def Tryz.lays212_ren : Go.Shelf.Ren := ⟨fun | 212 => 68 | 263 => 100 | 264 => 101 | n => n, fun | 46 => 136 | 51 => 165 | 146 => 166 | 53 => 168 | 148 => 169 | n => n, fun | n => n⟩
theorem Tryz.lays212 : Go.Proofs.Lays.n212 Tryz.prog Tryz.lays212_ren := {
 mixed := by kernel_rfl
 f212 := Tryz.func68.trans (congrArg some (by kernel_rfl))
 f263 := Tryz.func100.trans (congrArg some (by kernel_rfl))
 f264 := Tryz.func101.trans (congrArg some (by kernel_rfl))
 t46 := Tryz.underlying136
 a46 := Tryz.isAgg136
 z46 := Tryz.sizeOf136
 v46 := Tryz.zeroValue136
 t51 := Tryz.underlying165
 a51 := Tryz.isAgg165
 z51 := Tryz.sizeOf165
 v51 := Tryz.zeroValue165
 t53 := Tryz.underlying168
 a53 := Tryz.isAgg168
 z53 := Tryz.sizeOf168
 v53 := Tryz.zeroValue168
 t146 := Tryz.underlying166
 a146 := Tryz.isAgg166
 z146 := Tryz.sizeOf166
 v146 := Tryz.zeroValue166
 t148 := Tryz.underlying169
 a148 := Tryz.isAgg169
 z148 := Tryz.sizeOf169
 v148 := Tryz.zeroValue169 }
open Go.RowKit Go.Lib in
/-- math/bits.Mul: "Mul returns the full-width product of x and y": on a machine of 64 bits: Mul64's. (LAID: no walk: one application.) -/
theorem Tryz.bits_Mul (x y : Nat) (hx : x < 18446744073709551616) (hy : y < 18446744073709551616) (w : World) :
  Calls Tryz.prog 68 #[.int .u64 x, .int .u64 y] w fun e w' => e = .returned (.tuple #[.int .u64 ((x * y / 18446744073709551616 : Nat) : Int), .int .u64 ((x * y % 18446744073709551616 : Nat) : Int)]) ∧ w' = w := Any.bits_Mul Tryz.lays212 x y hx hy w
def Tryz.lays108_ren : Go.Shelf.Ren := ⟨fun | 108 => 77 | n => n, fun | 28 => 87 | 3 => 3 | 0 => 0 | 4 => 4 | n => n, fun | n => n⟩
theorem Tryz.lays108 : Go.Proofs.Lays.n108 Tryz.prog Tryz.lays108_ren := {
 mixed := by kernel_rfl
 f108 := Tryz.func77.trans (congrArg some (by kernel_rfl))
 t0 := Tryz.underlying0
 a0 := Tryz.isAgg0
 z0 := Tryz.sizeOf0
 v0 := Tryz.zeroValue0
 t3 := Tryz.underlying3
 a3 := Tryz.isAgg3
 z3 := Tryz.sizeOf3
 v3 := Tryz.zeroValue3
 t4 := Tryz.underlying4
 a4 := Tryz.isAgg4
 z4 := Tryz.sizeOf4
 v4 := Tryz.zeroValue4
 t28 := Tryz.underlying87
 a28 := Tryz.isAgg87
 z28 := Tryz.sizeOf87
 v28 := Tryz.zeroValue87 }
open Go.Lib in
/-- slices.Index at []int: "Index returns the index of the first occurrence of v in s, or -1 if not present.": IT RETURNS 'Lib.idxOf (the elements) v'; the world is as it was. 'zs': what the cells behind the slice's address hold (its spare capacity too, if you have it); 'zs.take n': its elements. (LAID: no walk: one application.) -/
theorem Tryz.slices_Index_int (b off n c : Nat) (zs : List Int) (x : Int) (w : World) (hz : n ≤ zs.length) (hbig : n ≤ 9223372036854775807) (hc : ∀ j, j < zs.length → w.cell? ⟨b, off + j, none⟩ = some (.int .i64 (zs.getD j 0))) :
  Calls Tryz.prog 77 #[.slice (some ⟨b, off, none⟩) n c, .int .i64 x] w fun e w' => e = .returned (.int .i64 (Lib.idxOf (zs.take n) x)) ∧ w' = w := Any.slices_Index_int Tryz.lays108 b off n c zs x w hz hbig hc
open Go.Lib in
/-- The same at a slice of length 0, a nil one too: no cell is known, none is asked for. (LAID: no walk: one application.) -/
theorem Tryz.slices_Index_int_empty (a : Option Addr) (c : Nat) (x : Int) (w : World) :
  Calls Tryz.prog 77 #[.slice a 0 c, .int .i64 x] w fun e w' => e = .returned (.int .i64 (Lib.idxOf [] x)) ∧ w' = w := Any.slices_Index_int_empty Tryz.lays108 a c x w
def Tryz.lays107_ren : Go.Shelf.Ren := ⟨fun | 107 => 76 | 108 => 77 | n => n, fun | 28 => 87 | 3 => 3 | 4 => 4 | 0 => 0 | n => n, fun | n => n⟩
theorem Tryz.lays107 : Go.Proofs.Lays.n107 Tryz.prog Tryz.lays107_ren := {
 mixed := by kernel_rfl
 f107 := Tryz.func76.trans (congrArg some (by kernel_rfl))
 f108 := Tryz.func77.trans (congrArg some (by kernel_rfl))
 t0 := Tryz.underlying0
 a0 := Tryz.isAgg0
 z0 := Tryz.sizeOf0
 v0 := Tryz.zeroValue0
 t3 := Tryz.underlying3
 a3 := Tryz.isAgg3
 z3 := Tryz.sizeOf3
 v3 := Tryz.zeroValue3
 t4 := Tryz.underlying4
 a4 := Tryz.isAgg4
 z4 := Tryz.sizeOf4
 v4 := Tryz.zeroValue4
 t28 := Tryz.underlying87
 a28 := Tryz.isAgg87
 z28 := Tryz.sizeOf87
 v28 := Tryz.zeroValue87 }
open Go.Lib in
/-- slices.Contains at []int: "Contains reports whether v is present in s.": IT RETURNS 'elements.contains v'; the world is as it was. ITS CALLEE slices.Index IS MET BY ITS OWN CONTRACT OFF THE SHELF (lay that first): no loop is walked here. (LAID: no walk: one application.) -/
theorem Tryz.slices_Contains_int (b off n c : Nat) (zs : List Int) (x : Int) (w : World) (hz : n ≤ zs.length) (hbig : n ≤ 9223372036854775807) (hc : ∀ j, j < zs.length → w.cell? ⟨b, off + j, none⟩ = some (.int .i64 (zs.getD j 0))) :
  Calls Tryz.prog 76 #[.slice (some ⟨b, off, none⟩) n c, .int .i64 x] w fun e w' => e = .returned (.bool ((zs.take n).contains x)) ∧ w' = w := Any.slices_Contains_int Tryz.lays107 b off n c zs x w hz hbig hc
open Go.Lib in
/-- The same at a slice of length 0, a nil one too. (LAID: no walk: one application.) -/
theorem Tryz.slices_Contains_int_empty (a : Option Addr) (c : Nat) (x : Int) (w : World) :
  Calls Tryz.prog 76 #[.slice a 0 c, .int .i64 x] w fun e w' => e = .returned (.bool false) ∧ w' = w := Any.slices_Contains_int_empty Tryz.lays107 a c x w
def Tryz.lays109_ren : Go.Shelf.Ren := ⟨fun | 109 => 106 | n => n, fun | 31 => 25 | 9 => 9 | 3 => 3 | 0 => 0 | 4 => 4 | n => n, fun | n => n⟩
theorem Tryz.lays109 : Go.Proofs.Lays.n109 Tryz.prog Tryz.lays109_ren := {
 mixed := by kernel_rfl
 f109 := Tryz.func106.trans (congrArg some (by kernel_rfl))
 t0 := Tryz.underlying0
 a0 := Tryz.isAgg0
 z0 := Tryz.sizeOf0
 v0 := Tryz.zeroValue0
 t3 := Tryz.underlying3
 a3 := Tryz.isAgg3
 z3 := Tryz.sizeOf3
 v3 := Tryz.zeroValue3
 t4 := Tryz.underlying4
 a4 := Tryz.isAgg4
 z4 := Tryz.sizeOf4
 v4 := Tryz.zeroValue4
 t9 := Tryz.underlying9
 a9 := Tryz.isAgg9
 z9 := Tryz.sizeOf9
 v9 := Tryz.zeroValue9
 t31 := Tryz.underlying25
 a31 := Tryz.isAgg25
 z31 := Tryz.sizeOf25
 v31 := Tryz.zeroValue25 }
open Go.Lib in
/-- slices.Index at []string: "Index returns the index of the first occurrence of v in s, or -1 if not present.": IT RETURNS 'Lib.idxOfS (the elements) v'; the world is as it was. 'zs': what the cells behind the slice's address hold (its spare capacity too, if you have it); 'zs.take n': its elements. (LAID: no walk: one application.) -/
theorem Tryz.slices_Index_string (b off n c : Nat) (zs : List ByteArray) (x : ByteArray) (w : World) (hz : n ≤ zs.length) (hbig : n ≤ 9223372036854775807) (hc : ∀ j, j < zs.length → w.cell? ⟨b, off + j, none⟩ = some (.string (zs.getD j ByteArray.empty))) :
  Calls Tryz.prog 106 #[.slice (some ⟨b, off, none⟩) n c, .string x] w fun e w' => e = .returned (.int .i64 (Lib.idxOfS (zs.take n) x)) ∧ w' = w := Any.slices_Index_string Tryz.lays109 b off n c zs x w hz hbig hc
def Tryz.lays193_ren : Go.Shelf.Ren := ⟨fun | 193 => 22 | n => n, fun | 31 => 25 | 9 => 9 | 4 => 4 | 3 => 3 | 0 => 0 | n => n, fun | n => n⟩
theorem Tryz.lays193 : Go.Proofs.Lays.n193 Tryz.prog Tryz.lays193_ren := {
 mixed := by kernel_rfl
 f193 := Tryz.func22.trans (congrArg some (by kernel_rfl))
 t0 := Tryz.underlying0
 a0 := Tryz.isAgg0
 z0 := Tryz.sizeOf0
 v0 := Tryz.zeroValue0
 t3 := Tryz.underlying3
 a3 := Tryz.isAgg3
 z3 := Tryz.sizeOf3
 v3 := Tryz.zeroValue3
 t4 := Tryz.underlying4
 a4 := Tryz.isAgg4
 z4 := Tryz.sizeOf4
 v4 := Tryz.zeroValue4
 t9 := Tryz.underlying9
 a9 := Tryz.isAgg9
 z9 := Tryz.sizeOf9
 v9 := Tryz.zeroValue9
 t31 := Tryz.underlying25
 a31 := Tryz.isAgg25
 z31 := Tryz.sizeOf25
 v31 := Tryz.zeroValue25 }
open Go.RowKit Go.Lib in
/-- slices.Equal at []string: "Equal reports whether two slices are equal: the same length and all elements equal. If the lengths are different, Equal returns false. Otherwise, the elements are compared in increasing index order, and the comparison stops at the first unequal pair. Empty and nil slices are considered equal.": IT RETURNS WHETHER THE TWO LISTS OF ELEMENTS ARE ONE; the world is as it was but for the count of draws (the test 's1[i] != s2[i]' has two reads, whose order the model draws, once a round). 'xs', 'ys': what the cells behind the two addresses hold (the spare capacity too, if you have it); 'xs.take n', 'ys.take m': the elements. THE TWO SLICES MAY OVERLAP. (LAID: no walk: one application.) -/
theorem Tryz.slices_Equal_string (b1 o1 n c b2 o2 m d : Nat) (xs ys : List ByteArray) (w : World) (hx : n ≤ xs.length) (hy : m ≤ ys.length) (hbig : n ≤ 9223372036854775807) (hbig2 : m ≤ 9223372036854775807) (hc1 : ∀ j, j < xs.length → w.cell? ⟨b1, o1 + j, none⟩ = some (.string (xs.getD j ByteArray.empty))) (hc2 : ∀ j, j < ys.length → w.cell? ⟨b2, o2 + j, none⟩ = some (.string (ys.getD j ByteArray.empty))) :
  Calls Tryz.prog 22 #[.slice (some ⟨b1, o1, none⟩) n c, .slice (some ⟨b2, o2, none⟩) m d] w fun e w' => e = .returned (.bool (decide (xs.take n = ys.take m))) ∧ ∃ q, w' = w.drewN q := Any.slices_Equal_string Tryz.lays193 b1 o1 n c b2 o2 m d xs ys w hx hy hbig hbig2 hc1 hc2
open Go.RowKit Go.Lib in
/-- The same where the first is of length 0 (a nil one too): no cell is asked for. (LAID: no walk: one application.) -/
theorem Tryz.slices_Equal_string_empty (a1 a2 : Option Addr) (c m d : Nat) (w : World) (hbig2 : m ≤ 9223372036854775807) :
  Calls Tryz.prog 22 #[.slice a1 0 c, .slice a2 m d] w fun e w' => e = .returned (.bool (decide (m = 0))) ∧ w' = w := Any.slices_Equal_string_empty Tryz.lays193 a1 a2 c m d w hbig2
end Go.Proofs
/- say.Read: what it returns, given what Check returns. -/
namespace Go.Proofs.YtjbnfigpflambacGreatDoor
open Go.ChangeShapes Go.WideShapes Go.ChangeAt Go.RowKit
theorem parts_cell (t : ByteArray) (n i : Nat) (hi : i < n) : (Lib.cellsOf (parts t) n)[i]? = some (.string (partAt t i)) := by
 unfold Lib.cellsOf partAt
 rw [List.getElem?_toArray, List.getElem?_append]
 by_cases h : i < (parts t).length
 ·rw [if_pos (by simpa using h)]
  simp [List.getD, h]
 ·rw [if_neg (by simpa using h), List.getElem?_replicate, if_pos (by simp; omega)]
  simp [List.getD, Nat.le_of_not_lt h]
  rfl
/-- the pieces, and room for up to three -/
theorem split3 (t : ByteArray) (w : World) (hT : Tabs w) (ht : t.size ≤ 60) :
  Calls Tryz.prog 105 #[.string t, .string ⟨#[32]⟩, .int .i64 3] w fun e w' =>
   ∃ n : Nat, e = .returned (.slice (some ⟨w.heap.size, 0, none⟩) (parts t).length n) ∧ (parts t).length ≤ n ∧ n ≤ 3 ∧ Below w.heap.size w w' ∧ w'.heap.size = w.heap.size + 1 ∧
    ∀ i, i < n → w'.cell? ⟨w.heap.size, i, none⟩ = some (.string (partAt t i)) := by
 obtain ⟨m, hm⟩ := hT.maxLen
 have hl := parts_length t
 have e1 : 1 ≤ (⟨#[32]⟩ : ByteArray).size := Nat.le_refl _
 refine (Tryz.strings_SplitN t ⟨#[32]⟩ 3 m w (by omega) hm e1 (by omega) (by omega)).mono ?_
 rintro e w' ⟨rfl, rfl⟩
 rw [parts_eq]
 refine ⟨min 3 (t.size + 1), rfl, by omega, by omega, boxed _ _, by simp, fun i hi => ?_⟩
 exact (cell_of_row _ _ i _ _ (0, 0) (heap_alloc_new w _)).trans (parts_cell t _ i hi)
theorem read_long (t : ByteArray) (w : World) (ht : 60 < t.size) (hm : t.size ≤ maxLen) :
  Calls Tryz.prog 79 #[.string t] w fun e w' => e = .returned (.tuple #[St.none.v, .int .i64 1]) ∧ Below w.heap.size w w' := by
 unfold maxLen at hm
 go_enter Tryz.func79, Tryz.ntmps79
 go_wp2_with fail
 exact bodyPost_ret (v := .tuple #[St.none.v, .int .i64 1]) (by simp [results, Tryz.results79, go_sem, St.v, St.none]) rfl ⟨rfl, boxed _ _⟩
/-- the words' table, asked for a word -/
theorem index_word (x : ByteArray) (w : World) (hT : Tabs w) :
  Calls Tryz.prog 106 #[.slice (some ⟨0, 1, none⟩) 11 11, .string x] w fun e w' => e = .returned (.int .i64 (kindOf x - 1)) ∧ w' = w := by
 have h := Tryz.slices_Index_string 0 1 11 11 wordsL x w (by decide) (by omega) (fun j hj => hT.words j hj)
 have e : kindOf x - 1 = Lib.idxOfS (List.take 11 wordsL) x := by
  show Lib.idxOfS wordsL x + 1 - 1 = Lib.idxOfS wordsL x
  omega
 rw [e]
 exact h
theorem index_word_is (x : ByteArray) (K : Int) (w : World) (hK : Hid (kindOf x = K)) (hT : Tabs w) :
  Calls Tryz.prog 106 #[.slice (some ⟨0, 1, none⟩) 11 11, .string x] w fun e w' => e = .returned (.int .i64 (K - 1)) ∧ w = w' := by
 rw [← hK.out]
 exact (index_word x w hT).mono fun e w' ⟨he, hw⟩ => ⟨he, hw.symm⟩
theorem tabs_drew {w : World} (h : Tabs w) : Tabs w.drew := ⟨h.words, h.maxLen⟩
theorem part_out {t : ByteArray} {L i : Nat} (hL : (parts t).length = L) (h : L ≤ i) : partAt t i = ⟨#[]⟩ := by
 unfold partAt
 rw [List.getD, List.getElem?_eq_none (by omega)]
 rfl
/-- in the midst of Read: the result's block and the statement's -/
structure Mid (w wx : World) (K : Int) (p1 p2 : ByteArray) : Prop where
 bel : Below w.heap.size w wx
 res : Blk wx w.heap.size 41 #[.int .i64 0, .string ⟨#[]⟩, .string ⟨#[]⟩]
 stm : Blk wx (w.heap.size + 2) 41 #[.int .i64 K, .string p1, .string p2]
section
variable {w wx : World} {K : Int} {p1 p2 : ByteArray}
theorem Mid.cells (m : Mid w wx K p1 p2) : wx.cell? ⟨w.heap.size, 0, none⟩ = some (.int .i64 0) ∧ wx.cell? ⟨w.heap.size, 1, none⟩ = some (.string ⟨#[]⟩) ∧ wx.cell? ⟨w.heap.size, 2, none⟩ = some (.string ⟨#[]⟩) ∧
  wx.cell? ⟨w.heap.size + 2, 0, none⟩ = some (.int .i64 K) ∧ wx.cell? ⟨w.heap.size + 2, 1, none⟩ = some (.string p1) ∧ wx.cell? ⟨w.heap.size + 2, 2, none⟩ = some (.string p2) ∧
  (∀ i, wx.frozen? ⟨w.heap.size, i, none⟩ = false) ∧ (∀ i, wx.frozen? ⟨w.heap.size + 2, i, none⟩ = false) :=
 ⟨m.res.cell 0, m.res.cell 1, m.res.cell 2, m.stm.cell 0, m.stm.cell 1, m.stm.cell 2, m.res.frozen, m.stm.frozen⟩
theorem Mid.set_1 (m : Mid w wx K p1 p2) (q : ByteArray) : Mid w (wx.setCell ⟨w.heap.size + 2, 1, none⟩ (.string q)) K q p2 :=
 ⟨m.bel.setCell (by show w.heap.size ≤ w.heap.size + 2; omega) _, m.res.far (by show w.heap.size ≠ w.heap.size + 2; omega) _, m.stm.set_ 1 _⟩
theorem Mid.set_2 (m : Mid w wx K p1 p2) (q : ByteArray) : Mid w (wx.setCell ⟨w.heap.size + 2, 2, none⟩ (.string q)) K p1 q :=
 ⟨m.bel.setCell (by show w.heap.size ≤ w.heap.size + 2; omega) _, m.res.far (by show w.heap.size ≠ w.heap.size + 2; omega) _, m.stm.set_ 2 _⟩
theorem Mid.keep {w3 : World} (m : Mid w wx K p1 p2) (hb : Below wx.heap.size wx w3) : Mid w w3 K p1 p2 :=
 ⟨below_step m.bel (Nat.le_refl _) hb, m.res.keep hb, m.stm.keep hb⟩
end
theorem read_go {t : ByteArray} {s : St} (ht : t.size ≤ 60) (hk : kindOf (partAt t 0) ≠ 0) (hb : bare t = false) (hr : rawOf t = s) : readE t = checkE s := by
 unfold readE
 rw [if_neg (by omega), if_neg hk, hb, hr]
 rfl
theorem read_bare {t : ByteArray} (ht : t.size ≤ 60) (hk : kindOf (partAt t 0) ≠ 0) (hb : bare t = true) : readE t = 4 := by
 unfold readE
 rw [if_neg (by omega), if_neg hk, hb]
 rfl
set_option maxRecDepth 100000 in
set_option maxHeartbeats 2000000 in
theorem read_1 (t : ByteArray) (w : World) (ht : t.size ≤ 60) (hT : Tabs w) (hsub : kindOf (partAt t 0) = 11 → ReadOk 79 (partAt t 2)) :
  Calls Tryz.prog 79 #[.string t] w fun e w' => e = .returned (.tuple #[(readS t).v, .int .i64 (readE t)]) ∧ Below w.heap.size w w' := by
 have HT := Lib.hid hT
 clear hT
 obtain ⟨L, hL⟩ : ∃ L, (parts t).length = L := ⟨_, rfl⟩
 obtain ⟨l1, l2, l3⟩ := parts_length t
 rw [hL] at l1 l2 l3
 obtain ⟨k1, k2⟩ := kindOf_bd (partAt t 0)
 obtain ⟨K, hK⟩ : ∃ K, kindOf (partAt t 0) = K := ⟨_, rfl⟩
 rw [hK] at k1 k2
 have LL := Lib.hid hL
 have KK := Lib.hid hK
 clear hL hK
 go_enter Tryz.func79, Tryz.ntmps79
 go_wp2_with fail
 refine (split3 t _ (HT.out.alloc _) ht).mono ?_
 rintro e w1 ⟨n, rfl, hn1, hn2, hb1, hz, hc⟩
 rw [LL.out] at hn1 ⊢
 have hT1 := (HT.out.alloc _).below hb1
 have hZ : w1.heap.size = w.heap.size + 2 := by rw [hz]; simp
 have hx : w1.heap[w.heap.size]? = some (.cells #[.int .i64 0, .string ⟨#[]⟩, .string ⟨#[]⟩] 41 (0, 0)) := (hb1.block _ (by simp)).trans (heap_alloc_new w _)
 have hb := below_of_alloc (Nat.le_refl _) hb1
 have ez : ∀ o : Obj, (w.alloc o).heap.size = w.heap.size + 1 := fun o => by simp
 rw [ez] at hc ⊢
 clear ez
 go_wp2_with fail
 go_cut [5] (fun c wx => c = .pointer (some ⟨w.heap.size + 2, 0, none⟩) ∧ Below w.heap.size w wx ∧ (∀ i, i < n → wx.cell? ⟨w.heap.size + 1, i, none⟩ = some (.string (partAt t i))) ∧
  wx.heap.size = w.heap.size + 3 ∧ wx.heap[w.heap.size]? = some (.cells #[.int .i64 0, .string ⟨#[]⟩, .string ⟨#[]⟩] 41 (0, 0)) ∧
  wx.heap[w.heap.size + 2]? = some (.cells #[.int .i64 K, .string ⟨#[]⟩, .string ⟨#[]⟩] 41 (0, 0)))
 case first =>
  have hc0 : w1.cell? ⟨w.heap.size + 1, 0, none⟩ = some (.string (partAt t 0)) := hc 0 (by omega)
  have hl0 : 0 < L := by omega
  have hl1 : (0 : Int) < (L : Int) := by omega
  have ew : IntKind.i64.wrap K = K := IntWalk.i64_in _ (by omega)
  have hT2 := Lib.hid hT1
  have HC := Lib.hid hc
  have HZ := Lib.hid hZ
  have HX := Lib.hid hx
  have HB := Lib.hid hb
  clear hc hz hx hb1 hT1 hb hZ
  have hne := World.new_ne w1 _ hc0
  go_region_held3 (fun w' => w'.cell? ⟨w.heap.size + 1, 0, none⟩ = some (.string (partAt t 0))) (go_keep)
   (first | (go_at_call 106; refine (index_word_is _ K _ KK (by repeat (first | exact hT2.out | apply tabs_drew | apply Tabs.alloc))).mono ?_; rintro e w' ⟨rfl, rfl⟩))
  all_goals
   go_wp2_with fail
   go_meet
   refine ⟨by rw [HZ.out], (HB.out.alloc HB.out.size _).drew, fun i hi => ?_, ?_, ?_, ?_⟩
   ·exact (World.cell?_alloc_lt w1 _ _ (by rw [HZ.out]; show w.heap.size + 1 < _; omega)).trans (HC.out i hi)
   ·show (w1.alloc _).heap.size = _
    simp [HZ.out]
   ·exact (Below.heap_alloc w1 _ _ (by rw [HZ.out]; omega)).trans HX.out
   ·have h := heap_alloc_new w1 (.cells #[.int .i64 K, .string ⟨#[]⟩, .string ⟨#[]⟩] 41)
    rw [HZ.out] at h
    exact h
 case rest =>
  obtain ⟨rfl, hbc, hcc, hzc, hr, hs⟩ := hcut
  have M : Mid w wc K ⟨#[]⟩ ⟨#[]⟩ := ⟨hbc, hr, hs⟩
  have HT1 := Lib.hid hT1
  clear hc hz hx hb1 hT1 hb hZ
  obtain ⟨r0, r1, r2, s0, s1, s2, fr, fs⟩ := M.cells
  clear hr hs
  by_cases hK0 : K = 0
  ·have hb0 : (K == 0) = true := by simp [hK0]
   have e1 : readE t = 3 := by unfold readE; rw [if_neg (by omega), if_pos (by rw [KK.out]; exact hK0)]
   have e2 : readS t = St.none := by unfold readS; rw [e1]; rfl
   have E1 := Lib.hid e1
   have E2 := Lib.hid e2
   have HM := Lib.hid M
   clear e1 e2 hK0 M
   go_wp2_with fail
   refine bodyPost_ret (v := .tuple #[St.none.v, .int .i64 3]) ?_ rfl ⟨by rw [E1.out, E2.out], ?_⟩
   ·simp [results, Tryz.results79, go_sem, St.v, St.none, r0, r1, r2]
   ·exact ((HM.out.bel.setCell (Nat.le_refl _) _).setCell (Nat.le_refl _) _).setCell (Nat.le_refl _) _
  ·have hb0 : (K == 0) = false := by simp [hK0]
   have hKK : kindOf (partAt t 0) ≠ 0 := by rw [KK.out]; exact hK0
   obtain ⟨p1, hp1⟩ : ∃ p, partAt t 1 = p := ⟨_, rfl⟩
   obtain ⟨p2, hp2⟩ : ∃ p, partAt t 2 = p := ⟨_, rfl⟩
   have q1 : L ≤ 1 → p1 = ⟨#[]⟩ := fun h => by rw [← hp1]; exact part_out LL.out h
   have q2 : L ≤ 2 → p2 = ⟨#[]⟩ := fun h => by rw [← hp2]; exact part_out LL.out h
   have hraw : rawOf t = ⟨K, p1, p2⟩ := by unfold rawOf; rw [KK.out, hp1, hp2]
   have hbare : bare t = ((decide (1 < L) && isE p1) || (decide (2 < L) && isE p2)) := by unfold bare; rw [LL.out, hp1, hp2]
   have c1 : 1 < n → wc.cell? ⟨w.heap.size + 1, 1, none⟩ = some (.string p1) := fun h => by rw [← hp1]; exact hcc 1 h
   have c2 : 2 < n → wc.cell? ⟨w.heap.size + 1, 2, none⟩ = some (.string p2) := fun h => by rw [← hp2]; exact hcc 2 h
   have hps : p1.size ≤ maxLen ∧ p2.size ≤ maxLen := by
    have h1 := part_size t 1
    have h2 := part_size t 2
    rw [hp1] at h1
    rw [hp2] at h2
    unfold maxLen
    omega
   have hck : K = 11 → ReadOk 79 p2 := fun h => by
    rw [← hp2]
    exact hsub (by rw [KK.out]; exact h)
   have HR := Lib.hid hraw
   have HBR := Lib.hid hbare
   have HKK := Lib.hid hKK
   have HPS := Lib.hid hps
   have HCK := Lib.hid hck
   have HM := Lib.hid M
   clear hraw hbare hp1 hp2 hKK hcc hK0 hps hck M
   have hL3 : L = 1 ∨ L = 2 ∨ L = 3 := by omega
   rcases hL3 with rfl | rfl | rfl
   ·obtain rfl : p1 = ⟨#[]⟩ := q1 (by omega)
    obtain rfl : p2 = ⟨#[]⟩ := q2 (by omega)
    clear q1 q2
    have hread : readE t = checkE ⟨K, ⟨#[]⟩, ⟨#[]⟩⟩ := read_go ht HKK.out (by rw [HBR.out]; rfl) HR.out
    have HRD := Lib.hid hread
    clear hread
    go_wp2_with fail
    have MM := Lib.hid HM.out
    clear r0 r1 r2 s0 s1 s2 fr fs
    refine (check_any K _ _ _ (HT.out.below MM.out.1) HPS.out.1 HPS.out.2 HCK.out).mono ?_
    rintro e w3 ⟨rfl, hb3⟩
    have N3 := MM.out.keep hb3
    obtain ⟨r0, r1, r2, s0, s1, s2, fr, fs⟩ := N3.cells
    have HN := Lib.hid N3
    clear N3 hb3 MM
    rw [← HRD.out]
    by_cases he : readE t = 0
    ·have hb0 : (readE t != 0) = false := by simp [he]
     have HE := Lib.hid he
     clear he
     go_wp2_with fail
     refine bodyPost_ret (v := .tuple #[(rawOf t).v, .int .i64 0]) ?_ rfl ⟨by rw [HE.out]; unfold readS; rw [if_pos HE.out], ?_⟩
     ·rw [HR.out]
      simp [results, Tryz.results79, go_sem, St.v, r0, r1, r2]
     ·exact ((HN.out.bel.setCell (Nat.le_refl _) _).setCell (Nat.le_refl _) _).setCell (Nat.le_refl _) _
    ·have hb0 : (readE t != 0) = true := by simp [he]
     have HE := Lib.hid he
     clear he
     go_wp2_with fail
     refine bodyPost_ret (v := .tuple #[St.none.v, .int .i64 (readE t)]) ?_ rfl ⟨by unfold readS; rw [if_neg HE.out], ?_⟩
     ·simp [results, Tryz.results79, go_sem, St.v, St.none, r0, r1, r2]
     ·exact ((HN.out.bel.setCell (Nat.le_refl _) _).setCell (Nat.le_refl _) _).setCell (Nat.le_refl _) _
   ·obtain rfl : p2 = ⟨#[]⟩ := q2 (by omega)
    have d1 := c1 (by omega)
    clear q1 q2 c1 c2
    cases he1 : p1.toList.isEmpty with
    | true =>
     have f1 := he1
     simp only [List.isEmpty_iff] at f1
     have hread : readE t = 4 := read_bare ht HKK.out (by rw [HBR.out]; simp [isE, he1])
     have HRD := Lib.hid hread
     clear hread
     go_wp2_with fail
     have MM := Lib.hid (HM.out.set_1 p1)
     refine bodyPost_ret (v := .tuple #[St.none.v, .int .i64 4]) ?_ rfl ⟨by unfold readS; rw [HRD.out]; rfl, ?_⟩
     ·simp [results, Tryz.results79, go_sem, St.v, St.none, r0, r1, r2]
     ·exact ((MM.out.bel.setCell (Nat.le_refl _) _).setCell (Nat.le_refl _) _).setCell (Nat.le_refl _) _
    | false =>
     have f1 := he1
     simp only [List.isEmpty_eq_false_iff] at f1
     have hread : readE t = checkE ⟨K, p1, ⟨#[]⟩⟩ := read_go ht HKK.out (by rw [HBR.out]; simp [isE, he1]) HR.out
     have HRD := Lib.hid hread
     clear hread
     go_wp2_with fail
     have MM := Lib.hid (HM.out.set_1 p1)
     clear r0 r1 r2 s0 s1 s2 fr fs
     refine (check_any K _ _ _ (HT.out.below MM.out.1) HPS.out.1 HPS.out.2 HCK.out).mono ?_
     rintro e w3 ⟨rfl, hb3⟩
     have N3 := MM.out.keep hb3
     obtain ⟨r0, r1, r2, s0, s1, s2, fr, fs⟩ := N3.cells
     have HN := Lib.hid N3
     clear N3 hb3 MM
     rw [← HRD.out]
     by_cases he : readE t = 0
     ·have hb0 : (readE t != 0) = false := by simp [he]
      have HE := Lib.hid he
      clear he
      go_wp2_with fail
      refine bodyPost_ret (v := .tuple #[(rawOf t).v, .int .i64 0]) ?_ rfl ⟨by rw [HE.out]; unfold readS; rw [if_pos HE.out], ?_⟩
      ·rw [HR.out]
       simp [results, Tryz.results79, go_sem, St.v, r0, r1, r2]
      ·exact ((HN.out.bel.setCell (Nat.le_refl _) _).setCell (Nat.le_refl _) _).setCell (Nat.le_refl _) _
     ·have hb0 : (readE t != 0) = true := by simp [he]
      have HE := Lib.hid he
      clear he
      go_wp2_with fail
      refine bodyPost_ret (v := .tuple #[St.none.v, .int .i64 (readE t)]) ?_ rfl ⟨by unfold readS; rw [if_neg HE.out], ?_⟩
      ·simp [results, Tryz.results79, go_sem, St.v, St.none, r0, r1, r2]
      ·exact ((HN.out.bel.setCell (Nat.le_refl _) _).setCell (Nat.le_refl _) _).setCell (Nat.le_refl _) _
   ·have d1 := c1 (by omega)
    have d2 := c2 (by omega)
    clear q1 q2 c1 c2
    cases he1 : p1.toList.isEmpty with
    | true =>
     have f1 := he1
     simp only [List.isEmpty_iff] at f1
     have hread : readE t = 4 := read_bare ht HKK.out (by rw [HBR.out]; simp [isE, he1])
     have HRD := Lib.hid hread
     clear hread
     go_wp2_with fail
     have MM := Lib.hid ((HM.out.set_1 p1).set_2 p2)
     refine bodyPost_ret (v := .tuple #[St.none.v, .int .i64 4]) ?_ rfl ⟨by unfold readS; rw [HRD.out]; rfl, ?_⟩
     ·simp [results, Tryz.results79, go_sem, St.v, St.none, r0, r1, r2]
     ·exact ((MM.out.bel.setCell (Nat.le_refl _) _).setCell (Nat.le_refl _) _).setCell (Nat.le_refl _) _
    | false =>
     have f1 := he1
     simp only [List.isEmpty_eq_false_iff] at f1
     cases he2 : p2.toList.isEmpty with
     | true =>
      have f2 := he2
      simp only [List.isEmpty_iff] at f2
      have hread : readE t = 4 := read_bare ht HKK.out (by rw [HBR.out]; simp [isE, he2])
      have HRD := Lib.hid hread
      clear hread
      go_wp2_with fail
      have MM := Lib.hid ((HM.out.set_1 p1).set_2 p2)
      refine bodyPost_ret (v := .tuple #[St.none.v, .int .i64 4]) ?_ rfl ⟨by unfold readS; rw [HRD.out]; rfl, ?_⟩
      ·simp [results, Tryz.results79, go_sem, St.v, St.none, r0, r1, r2]
      ·exact ((MM.out.bel.setCell (Nat.le_refl _) _).setCell (Nat.le_refl _) _).setCell (Nat.le_refl _) _
     | false =>
      have f2 := he2
      simp only [List.isEmpty_eq_false_iff] at f2
      have hread : readE t = checkE ⟨K, p1, p2⟩ := read_go ht HKK.out (by rw [HBR.out]; simp [isE, he1, he2]) HR.out
      have HRD := Lib.hid hread
      clear hread
      go_wp2_with fail
      have MM := Lib.hid ((HM.out.set_1 p1).set_2 p2)
      clear r0 r1 r2 s0 s1 s2 fr fs
      refine (check_any K _ _ _ (HT.out.below MM.out.1) HPS.out.1 HPS.out.2 HCK.out).mono ?_
      rintro e w3 ⟨rfl, hb3⟩
      have N3 := MM.out.keep hb3
      obtain ⟨r0, r1, r2, s0, s1, s2, fr, fs⟩ := N3.cells
      have HN := Lib.hid N3
      clear N3 hb3 MM
      rw [← HRD.out]
      by_cases he : readE t = 0
      ·have hb0 : (readE t != 0) = false := by simp [he]
       have HE := Lib.hid he
       clear he
       go_wp2_with fail
       refine bodyPost_ret (v := .tuple #[(rawOf t).v, .int .i64 0]) ?_ rfl ⟨by rw [HE.out]; unfold readS; rw [if_pos HE.out], ?_⟩
       ·rw [HR.out]
        simp [results, Tryz.results79, go_sem, St.v, r0, r1, r2]
       ·exact ((HN.out.bel.setCell (Nat.le_refl _) _).setCell (Nat.le_refl _) _).setCell (Nat.le_refl _) _
      ·have hb0 : (readE t != 0) = true := by simp [he]
       have HE := Lib.hid he
       clear he
       go_wp2_with fail
       refine bodyPost_ret (v := .tuple #[St.none.v, .int .i64 (readE t)]) ?_ rfl ⟨by unfold readS; rw [if_neg HE.out], ?_⟩
       ·simp [results, Tryz.results79, go_sem, St.v, St.none, r0, r1, r2]
       ·exact ((HN.out.bel.setCell (Nat.le_refl _) _).setCell (Nat.le_refl _) _).setCell (Nat.le_refl _) _
theorem read_small : ∀ (n : Nat) (t : ByteArray), t.size ≤ n → t.size ≤ 60 → ReadOk 79 t
 | 0, t, h, h60 => fun w hT => read_1 t w h60 hT fun hk => absurd (part_lt hk) (by omega)
 | n + 1, t, h, h60 => fun w hT => read_1 t w h60 hT fun hk => read_small n _ (by have := part_lt hk; omega) (by have := part_lt hk; omega)
theorem read_any (t : ByteArray) (hm : t.size ≤ maxLen) : ReadOk 79 t := by
 by_cases h : 60 < t.size
 ·intro w _
  have e : readE t = 1 := by unfold readE; rw [if_pos h]
  unfold readS
  rw [e]
  exact read_long t w h hm
 ·exact read_small t.size t (Nat.le_refl _) (by omega)
/-- Check, for every statement -/
theorem check_all (s : St) (w : World) (hT : Tabs w) (hk : s.key.size ≤ maxLen) (hv : s.val.size ≤ maxLen) :
  Calls Tryz.prog 63 #[s.v] w fun e w' => e = .returned (.int .i64 (checkE s)) ∧ Below w.heap.size w w' :=
 check_any s.k s.key s.val w hT hk hv fun _ => read_any s.val hv
end Go.Proofs.YtjbnfigpflambacGreatDoor
/- The reference's StmtOf: what it returns, given what StmtFault returns. -/
namespace Go.Proofs.YtjbnfigpflambacGreatDoor
open Go.ChangeShapes Go.WideShapes Go.ChangeAt Go.RowKit
/-- in the midst of StmtOf -/
structure Mid2 (w wx : World) (K : Int) (p1 p2 : ByteArray) (b : Nat) : Prop where
 lt : w.heap.size < b
 bel : Below w.heap.size w wx
 res : Blk wx w.heap.size 41 #[.int .i64 0, .string ⟨#[]⟩, .string ⟨#[]⟩]
 stm : Blk wx b 41 #[.int .i64 K, .string p1, .string p2]
section
variable {w wx : World} {K : Int} {p1 p2 : ByteArray} {b : Nat}
theorem Mid2.cells (m : Mid2 w wx K p1 p2 b) : wx.cell? ⟨w.heap.size, 0, none⟩ = some (.int .i64 0) ∧ wx.cell? ⟨w.heap.size, 1, none⟩ = some (.string ⟨#[]⟩) ∧ wx.cell? ⟨w.heap.size, 2, none⟩ = some (.string ⟨#[]⟩) ∧
  wx.cell? ⟨b, 0, none⟩ = some (.int .i64 K) ∧ wx.cell? ⟨b, 1, none⟩ = some (.string p1) ∧ wx.cell? ⟨b, 2, none⟩ = some (.string p2) ∧
  (∀ i, wx.frozen? ⟨w.heap.size, i, none⟩ = false) ∧ (∀ i, wx.frozen? ⟨b, i, none⟩ = false) :=
 ⟨m.res.cell 0, m.res.cell 1, m.res.cell 2, m.stm.cell 0, m.stm.cell 1, m.stm.cell 2, m.res.frozen, m.stm.frozen⟩
theorem Mid2.set_1 (m : Mid2 w wx K p1 p2 b) (q : ByteArray) : Mid2 w (wx.setCell ⟨b, 1, none⟩ (.string q)) K q p2 b :=
 ⟨m.lt, m.bel.setCell (Nat.le_of_lt m.lt) _, m.res.far (Nat.ne_of_lt m.lt) _, m.stm.set_ 1 _⟩
theorem Mid2.set_2 (m : Mid2 w wx K p1 p2 b) (q : ByteArray) : Mid2 w (wx.setCell ⟨b, 2, none⟩ (.string q)) K p1 q b :=
 ⟨m.lt, m.bel.setCell (Nat.le_of_lt m.lt) _, m.res.far (Nat.ne_of_lt m.lt) _, m.stm.set_ 2 _⟩
theorem Mid2.keep {w3 : World} (m : Mid2 w wx K p1 p2 b) (hb : Below wx.heap.size wx w3) : Mid2 w w3 K p1 p2 b :=
 ⟨m.lt, below_step m.bel (Nat.le_refl _) hb, m.res.keep hb, m.stm.keep hb⟩
theorem Mid2.drewN (m : Mid2 w wx K p1 p2 b) (n : Nat) : Mid2 w (wx.drewN n) K p1 p2 b := ⟨m.lt, below_drewN m.bel n, m.res.drewN n, m.stm.drewN n⟩
end
end Go.Proofs.YtjbnfigpflambacGreatDoor
