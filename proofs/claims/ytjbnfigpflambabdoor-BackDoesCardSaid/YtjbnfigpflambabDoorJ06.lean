/- DERIVED: THE SHELF's CONTRACTS AT THIS DUMP, IN PLAIN WORDS (tools/lay-plain.mjs out of 'TrydShelf.lean', which tools/lay-shelf.mjs wrote): THE SAME DECLARATIONS UNDER THE SAME NAMES: 'import', 'namespace', 'open', 'def', 'theorem' AND NOTHING ELSE: no command of the shelf's: FOR A HAND-IN. Each laying: the table of numbers ('.._ren') and one theorem, a field a fact of the dump's own or the kernel's comparison; each contract: ONE APPLICATION. back.find: a key among pairs by binary search; what it finds is there, and on a sorted list it finds what there is. Plain laws of memory: copy between rows of elements of several cells; a row with one element more in its midst; pairs with one more, as cells. -/
import Derived.Test.YtjbnfigpflambabDoorProg
import Derived.Test.YtjbnfigpflambabDoorJ02
import Derived.Shelf.Strings.Builder1
import Derived.Shelf.Strings.Builder2
import Derived.Shelf.Small.Strs
import Derived.Shelf.Strings.BuilderF
import Derived.Shelf.Strings.BuilderK
import Derived.Shelf.Strings.Builder2Cap
import Derived.Shelf.Strconv.Itoa0
import Derived.Shelf.Strconv.Itoa1
import Derived.Shelf.LaysM
import Derived.Shelf.Strconv.Itoa2
import Derived.Shelf.Strconv.Itoa3
import Derived.Shelf.Strings.Search1
import Derived.Shelf.Strings.Search2
import Derived.Shelf.Strings.Search3
import Derived.Shelf.Strings.Count
import Derived.Shelf.Strings.Shaped
import Derived.Shelf.Strings.Prefix
import Derived.Shelf.Strings.Split
import Derived.Shelf.Strings.SplitShaped
import Derived.Shelf.Bits.Mul64
import Derived.Shelf.Strings.Repeat
import Derived.Shelf.Unicode.DecodeSlow
import Derived.Shelf.Strings.BuilderCap
import Derived.Shelf.Slices.Turned
import Derived.Laws.CopyRow
import Derived.Laws.IdiomCopy
import Derived.Laws.AppendOwn
import Derived.Lib.AppendZerosOnto
import Derived.Lib.Overlaps
import Derived.Tactics
/-
 DERIVED: THE SHELF's CONTRACTS AT THIS DUMP, IN PLAIN WORDS (tools/lay-plain.mjs out of 'TrydShelf.lean', which tools/lay-shelf.mjs wrote): THE SAME DECLARATIONS UNDER THE SAME NAMES: 'import', 'namespace', 'open', 'def', 'theorem' AND NOTHING ELSE: no command of the shelf's: FOR A HAND-IN. Each laying: the table of numbers ('.._ren') and one theorem, a field a fact of the dump's own or the kernel's comparison; each contract: ONE APPLICATION.
-/
namespace Go.Proofs
open Go.Shelf
def Tryd.lays106_ren : Go.Shelf.Ren := ⟨fun | 106 => 82 | 213 => 97 | 265 => 108 | n => n, fun | 9 => 9 | 3 => 3 | n => n, fun | n => n⟩
theorem Tryd.lays106 : Go.Proofs.Lays.n106 Tryd.prog Tryd.lays106_ren := {
 mixed := by kernel_rfl
 f106 := Tryd.func82.trans (congrArg some (by kernel_rfl))
 f213 := Tryd.func97.trans (congrArg some (by kernel_rfl))
 f265 := Tryd.func108.trans (congrArg some (by kernel_rfl))
 t3 := Tryd.underlying3
 a3 := Tryd.isAgg3
 z3 := Tryd.sizeOf3
 v3 := Tryd.zeroValue3
 t9 := Tryd.underlying9
 a9 := Tryd.isAgg9
 z9 := Tryd.sizeOf9
 v9 := Tryd.zeroValue9 }
open Go.RowKit in
/-- strings.Compare: "Compare returns an integer comparing two strings lexicographically. The result will be 0 if a == b, -1 if a < b, and +1 if a > b.": IT RETURNS 'Lib.compareBytes a b'; the world is as it was. (LAID: no walk: one application.) -/
theorem Tryd.strings_Compare (a b : ByteArray) (w : World) :
  Calls Tryd.prog 82 #[.string a, .string b] w fun e w' => e = .returned (.int .i64 (Lib.compareBytes a.data.toList b.data.toList)) ∧ w' = w := Any.strings_Compare Tryd.lays106 a b w
def Tryd.laysM143_ren : Go.Shelf.Ren := ⟨fun | 143 => 87 | 219 => 101 | 217 => 110 | 225 => 111 | 224 => 112 | 267 => 113 | 266 => 118 | 314 => 119 | n => n, fun | 9 => 9 | 3 => 3 | 4 => 4 | 5 => 5 | 46 => 75 | 146 => 111 | 51 => 110 | n => n, fun | 1 => 1 | n => n⟩
theorem Tryd.laysM143 : Go.Proofs.LaysM.n143 Tryd.prog Tryd.laysM143_ren := {
 mixed := by kernel_rfl
 f143 := Tryd.func87.trans (congrArg some (by kernel_rfl))
 f217 := Tryd.func110.trans (congrArg some (by kernel_rfl))
 f219 := Tryd.func101.trans (congrArg some (by kernel_rfl))
 f224 := Tryd.func112.trans (congrArg some (by kernel_rfl))
 f225 := Tryd.func111.trans (congrArg some (by kernel_rfl))
 f266 := Tryd.func118.trans (congrArg some (by kernel_rfl))
 f267 := Tryd.func113.trans (congrArg some (by kernel_rfl))
 f314 := Tryd.func119.trans (congrArg some (by kernel_rfl))
 t3 := Tryd.underlying3
 a3 := Tryd.isAgg3
 z3 := Tryd.sizeOf3
 v3 := Tryd.zeroValue3
 t4 := Tryd.underlying4
 a4 := Tryd.isAgg4
 z4 := Tryd.sizeOf4
 v4 := Tryd.zeroValue4
 t5 := Tryd.underlying5
 a5 := Tryd.isAgg5
 z5 := Tryd.sizeOf5
 v5 := Tryd.zeroValue5
 t9 := Tryd.underlying9
 a9 := Tryd.isAgg9
 z9 := Tryd.sizeOf9
 v9 := Tryd.zeroValue9
 t46 := Tryd.underlying75
 a46 := Tryd.isAgg75
 z46 := Tryd.sizeOf75
 v46 := Tryd.zeroValue75
 t51 := Tryd.underlying110
 a51 := Tryd.isAgg110
 z51 := Tryd.sizeOf110
 v51 := Tryd.zeroValue110
 t146 := Tryd.underlying111
 a146 := Tryd.isAgg111
 z146 := Tryd.sizeOf111
 v146 := Tryd.zeroValue111
 g1 := by kernel_rfl
 i3 := by kernel_rfl
 i4 := by kernel_rfl
 i5 := by kernel_rfl
 i9 := by kernel_rfl
 i46 := by kernel_rfl
 i51 := by kernel_rfl
 i146 := by kernel_rfl
 m1 := by kernel_rfl
 s1_3 := fun w h => Go.Proofs.cell_of_shapedOpen_int (zero := #[.int .i64 0]) (t := 3) h (of_decide_eq_true (by kernel_rfl)) (by kernel_rfl) rfl (by kernel_rfl) (by kernel_rfl) Tryd.underlying3 }
def Tryd.lays147_ren : Go.Shelf.Ren := ⟨fun | 147 => 45 | 221 => 66 | 268 => 85 | 138 => 86 | 143 => 87 | 195 => 98 | 197 => 99 | 218 => 100 | 219 => 101 | 260 => 109 | 217 => 110 | 225 => 111 | 224 => 112 | 267 => 113 | 266 => 118 | 314 => 119 | n => n, fun | 9 => 9 | 3 => 3 | 31 => 35 | 4 => 4 | 0 => 0 | 105 => 144 | 21 => 21 | 5 => 5 | 46 => 75 | 119 => 155 | 139 => 158 | 138 => 157 | 146 => 111 | 51 => 110 | n => n, fun | 1 => 1 | 3 => 3 | 4 => 4 | n => n⟩
theorem Tryd.lays147 : Go.Proofs.Lays.n147 Tryd.prog Tryd.lays147_ren := {
 mixed := by kernel_rfl
 f138 := Tryd.func86.trans (congrArg some (by kernel_rfl))
 f143 := Tryd.func87.trans (congrArg some (by kernel_rfl))
 f147 := Tryd.func45.trans (congrArg some (by kernel_rfl))
 f195 := Tryd.func98.trans (congrArg some (by kernel_rfl))
 f197 := Tryd.func99.trans (congrArg some (by kernel_rfl))
 f217 := Tryd.func110.trans (congrArg some (by kernel_rfl))
 f218 := Tryd.func100.trans (congrArg some (by kernel_rfl))
 f219 := Tryd.func101.trans (congrArg some (by kernel_rfl))
 f221 := Tryd.func66.trans (congrArg some (by kernel_rfl))
 f224 := Tryd.func112.trans (congrArg some (by kernel_rfl))
 f225 := Tryd.func111.trans (congrArg some (by kernel_rfl))
 f260 := Tryd.func109.trans (congrArg some (by kernel_rfl))
 f266 := Tryd.func118.trans (congrArg some (by kernel_rfl))
 f267 := Tryd.func113.trans (congrArg some (by kernel_rfl))
 f268 := Tryd.func85.trans (congrArg some (by kernel_rfl))
 f314 := Tryd.func119.trans (congrArg some (by kernel_rfl))
 t0 := Tryd.underlying0
 a0 := Tryd.isAgg0
 z0 := Tryd.sizeOf0
 v0 := Tryd.zeroValue0
 t3 := Tryd.underlying3
 a3 := Tryd.isAgg3
 z3 := Tryd.sizeOf3
 v3 := Tryd.zeroValue3
 t4 := Tryd.underlying4
 a4 := Tryd.isAgg4
 z4 := Tryd.sizeOf4
 v4 := Tryd.zeroValue4
 t5 := Tryd.underlying5
 a5 := Tryd.isAgg5
 z5 := Tryd.sizeOf5
 v5 := Tryd.zeroValue5
 t9 := Tryd.underlying9
 a9 := Tryd.isAgg9
 z9 := Tryd.sizeOf9
 v9 := Tryd.zeroValue9
 t21 := Tryd.underlying21
 a21 := Tryd.isAgg21
 z21 := Tryd.sizeOf21
 v21 := Tryd.zeroValue21
 t31 := Tryd.underlying35
 a31 := Tryd.isAgg35
 z31 := Tryd.sizeOf35
 v31 := Tryd.zeroValue35
 t46 := Tryd.underlying75
 a46 := Tryd.isAgg75
 z46 := Tryd.sizeOf75
 v46 := Tryd.zeroValue75
 t51 := Tryd.underlying110
 a51 := Tryd.isAgg110
 z51 := Tryd.sizeOf110
 v51 := Tryd.zeroValue110
 t105 := Tryd.underlying144
 a105 := Tryd.isAgg144
 z105 := Tryd.sizeOf144
 v105 := Tryd.zeroValue144
 t119 := Tryd.underlying155
 a119 := Tryd.isAgg155
 z119 := Tryd.sizeOf155
 t138 := Tryd.underlying157
 a138 := Tryd.isAgg157
 z138 := Tryd.sizeOf157
 v138 := Tryd.zeroValue157
 t139 := Tryd.underlying158
 a139 := Tryd.isAgg158
 z139 := Tryd.sizeOf158
 v139 := Tryd.zeroValue158
 t146 := Tryd.underlying111
 a146 := Tryd.isAgg111
 z146 := Tryd.sizeOf111
 v146 := Tryd.zeroValue111
 g1 := by kernel_rfl
 g3 := by kernel_rfl
 g4 := by kernel_rfl }
open Go.RowKit Go.Lib in
/-- strings.SplitN, n > 0. (LAID: no walk: one application.) -/
theorem Tryd.strings_SplitN (s sep : ByteArray) (n : Nat) (m : Int) (w : World) (hs : s.size < 4294967281) (hm : w.cell? ⟨1, 0, none⟩ = some (.int .i64 m)) (h1 : 1 ≤ sep.size) (hn : 1 ≤ n) (hn63 : n ≤ 9223372036854775807) :
  Calls Tryd.prog 45 #[.string s, .string sep, .int .i64 n] w fun e w' =>
   e = .returned (.slice (some ⟨w.heap.size, 0, none⟩) (Lib.splitB sep 0 (min n (s.size + 1) - 1) s).length (min n (s.size + 1))) ∧ w' = w.alloc (.cells (Lib.cellsOf (Lib.splitB sep 0 (min n (s.size + 1) - 1) s) (min n (s.size + 1))) 9) := Any.strings_SplitN Tryd.lays147 (by kernel_rfl) s sep n m w hs hm h1 hn hn63
def Tryd.lays109_ren : Go.Shelf.Ren := ⟨fun | 109 => 46 | n => n, fun | 31 => 35 | 9 => 9 | 3 => 3 | 0 => 0 | 4 => 4 | n => n, fun | n => n⟩
theorem Tryd.lays109 : Go.Proofs.Lays.n109 Tryd.prog Tryd.lays109_ren := {
 mixed := by kernel_rfl
 f109 := Tryd.func46.trans (congrArg some (by kernel_rfl))
 t0 := Tryd.underlying0
 a0 := Tryd.isAgg0
 z0 := Tryd.sizeOf0
 v0 := Tryd.zeroValue0
 t3 := Tryd.underlying3
 a3 := Tryd.isAgg3
 z3 := Tryd.sizeOf3
 v3 := Tryd.zeroValue3
 t4 := Tryd.underlying4
 a4 := Tryd.isAgg4
 z4 := Tryd.sizeOf4
 v4 := Tryd.zeroValue4
 t9 := Tryd.underlying9
 a9 := Tryd.isAgg9
 z9 := Tryd.sizeOf9
 v9 := Tryd.zeroValue9
 t31 := Tryd.underlying35
 a31 := Tryd.isAgg35
 z31 := Tryd.sizeOf35
 v31 := Tryd.zeroValue35 }
open Go.Lib in
/-- slices.Index at []string: "Index returns the index of the first occurrence of v in s, or -1 if not present.": IT RETURNS 'Lib.idxOfS (the elements) v'; the world is as it was. 'zs': what the cells behind the slice's address hold (its spare capacity too, if you have it); 'zs.take n': its elements. (LAID: no walk: one application.) -/
theorem Tryd.slices_Index_string (b off n c : Nat) (zs : List ByteArray) (x : ByteArray) (w : World) (hz : n ≤ zs.length) (hbig : n ≤ 9223372036854775807) (hc : ∀ j, j < zs.length → w.cell? ⟨b, off + j, none⟩ = some (.string (zs.getD j ByteArray.empty))) :
  Calls Tryd.prog 46 #[.slice (some ⟨b, off, none⟩) n c, .string x] w fun e w' => e = .returned (.int .i64 (Lib.idxOfS (zs.take n) x)) ∧ w' = w := Any.slices_Index_string Tryd.lays109 b off n c zs x w hz hbig hc
end Go.Proofs
/- back.find: a key among pairs by binary search; what it finds is there, and on a sorted list it finds what there is. -/
namespace Go.Proofs.YtjbnfigpflambabDoor
open Go.ChangeShapes Go.WideShapes Go.ChangeAt Go.RowKit
theorem cmp_any (a b key : ByteArray) (w : World) :
  Calls Tryd.prog 81 #[.agg #[.string a, .string b], .string key] w fun e w' => e = .returned (.int .i64 (cmpS a key)) ∧ Below w.heap.size w w' := by
 go_enter Tryd.func81, Tryd.ntmps81
 go_wp2_with fail
 refine (Tryd.strings_Compare a key _).mono ?_
 rintro e w' ⟨rfl, rfl⟩
 go_wp2_with fail
 go_ret
 exact ⟨rfl, boxed _ _⟩
/-- what a search gives -/
structure Found (l : List Pr) (key : ByteArray) (i : Nat) (b : Bool) : Prop where
 le : i ≤ l.length
 here : b = true → ∃ h : i < l.length, l[i].k = key
 sorted : Sorted l → i = posP l key ∧ b = hasK l key
/-- the search's two ends -/
structure Ends (l : List Pr) (key : ByteArray) (lo hi : Nat) : Prop where
 le : lo ≤ hi
 len : hi ≤ l.length
 pos : Sorted l → lo ≤ posP l key ∧ posP l key ≤ hi
theorem Ends.right {l : List Pr} {key : ByteArray} {lo hi m : Nat} (h : Ends l key lo hi) (_ : lo ≤ m) (_ : m < hi) (hm : m < l.length) (hc : ltS l[m].k key = true) : Ends l key (m + 1) hi :=
 ⟨by omega, h.len, fun hs => by
  have := pos_lt hs key m hm
  rw [hc] at this
  have : m < posP l key := by simpa using this.symm
  exact ⟨this, (h.pos hs).2⟩⟩
theorem Ends.left {l : List Pr} {key : ByteArray} {lo hi m : Nat} (h : Ends l key lo hi) (h1 : lo ≤ m) (_h2 : m < hi) (hm : m < l.length) (hc : ltS l[m].k key = false) : Ends l key lo m :=
 ⟨h1, by omega, fun hs => by
  have := pos_lt hs key m hm
  rw [hc] at this
  have : ¬ m < posP l key := by simpa using this.symm
  exact ⟨(h.pos hs).1, by omega⟩⟩
theorem Ends.found {l : List Pr} {key : ByteArray} {i : Nat} (h : Ends l key i i) (hi : i < l.length) : Found l key i (decide (l[i].k = key)) := by
 refine ⟨h.len, fun e => ⟨hi, by simpa using e⟩, fun hs => ?_⟩
 have hp : posP l key = i := by have := h.pos hs; omega
 refine ⟨hp.symm, ?_⟩
 rw [Bool.eq_iff_iff, decide_eq_true_eq, has_pos hs]
 simp only [hp]
 exact ⟨fun e => ⟨hi, e⟩, fun ⟨_, e⟩ => e⟩
theorem Ends.missed {l : List Pr} {key : ByteArray} {i : Nat} (h : Ends l key i i) (hi : ¬ i < l.length) : Found l key i false := by
 refine ⟨h.len, (fun e => by cases e), fun hs => ?_⟩
 have hp : posP l key = i := by have := h.pos hs; omega
 refine ⟨hp.symm, ?_⟩
 cases e : hasK l key with
 | false => rfl
 | true =>
  obtain ⟨h1, _⟩ := (has_pos hs key).1 e
  omega
set_option maxHeartbeats 4000000 in
set_option maxRecDepth 100000 in
theorem search_any (w : World) (v : Value) (l : List Pr) (key : ByteArray) (h : PL w w.heap.size v l) :
  Calls Tryd.prog 80 #[v, .string key, .func (.func 81) #[] #[]] w fun e w' => ∃ i b, e = .returned (.tuple #[.int .i64 (i : Nat), .bool b]) ∧ Found l key i b ∧ Below w.heap.size w w' := by
 obtain ⟨A, c, rfl, hc, hr, hf⟩ := h
 have hl : l.length ≤ 4398046510976 := hf.1
 have HR := Lib.hid hr
 obtain ⟨n, hN⟩ : ∃ n, l.length = n := ⟨_, rfl⟩
 rw [hN] at hl ⊢
 have HN := Lib.hid hN
 clear hr hf hc hN
 go_enter Tryd.func80, Tryd.ntmps80
 go_wp2_with fail
 go_loopw [9, 10] (fun a b wx => ∃ lo hi : Nat, a = .int .i64 lo ∧ b = .int .i64 hi ∧ Ends l key lo hi ∧ Below w.heap.size w wx) (fun a b _ => (intOf b).toNat - (intOf a).toNat)
 case atStart => exact ⟨0, n, rfl, rfl, ⟨Nat.zero_le _, by rw [HN.out]; exact Nat.le_refl _, fun _ => ⟨Nat.zero_le _, by rw [← HN.out]; exact pos_le _ _⟩⟩, Below.refl _ _⟩
 case round =>
  obtain ⟨lo, hi, rfl, rfl, hE, hb⟩ := hrel
  have h1 := hE.le
  have h2 : hi ≤ n := by rw [← HN.out]; exact hE.len
  by_cases hlt : lo < hi
  ·have hm : (lo + hi) / 2 < l.length := by rw [HN.out]; omega
   obtain ⟨ad, hA, -, c1, c2⟩ := pair_at (HR.out.below hb) hm
   subst hA
   obtain ⟨p, hp⟩ : ∃ p, l[(lo + hi) / 2] = p := ⟨_, rfl⟩
   rw [hp] at c1 c2
   have HE := Lib.hid hE
   have HB := Lib.hid hb
   have g1 : (0 : Int) ≤ ((lo : Int) + (hi : Int)) / 2 := by omega
   have g2 : ((lo : Int) + (hi : Int)) / 2 < (n : Int) := by omega
   have hcm := cmpS_neg p.k key
   have hcall := fun w => cmp_any p.k p.v key w
   obtain ⟨z, hz⟩ : ∃ z, cmpS p.k key = z := ⟨_, rfl⟩
   rw [hz] at hcm hcall
   have HC := Lib.hid hcall
   have HP := Lib.hid hp
   cases hless : ltS p.k key with
   | true =>
    rw [hless] at hcm
    have hn : z < 0 := by simpa using hcm
    have HL := Lib.hid hless
    clear hcm hz hcall hless hp hE hb
    go_wp2_with fail
    refine (HC.out _).mono ?_
    rintro e w1 ⟨rfl, b1⟩
    have B1 := Lib.hid (below_step HB.out (Nat.le_refl _) b1)
    clear b1
    go_wp2_with fail
    go_roundw
    case rel => exact ⟨(lo + hi) / 2 + 1, hi, by go_num, rfl, HE.out.right (by omega) (by omega) hm (by rw [HP.out]; exact HL.out), B1.out⟩
    case measure => simp [intOf]; omega
   | false =>
    rw [hless] at hcm
    have hn : 0 ≤ z := by simpa using hcm
    have HL := Lib.hid hless
    clear hcm hz hcall hless hp hE hb
    go_wp2_with fail
    refine (HC.out _).mono ?_
    rintro e w1 ⟨rfl, b1⟩
    have B1 := Lib.hid (below_step HB.out (Nat.le_refl _) b1)
    clear b1
    go_wp2_with fail
    go_roundw
    case rel => exact ⟨lo, (lo + hi) / 2, rfl, by go_num, HE.out.left (by omega) (by omega) hm (by rw [HP.out]; exact HL.out), B1.out⟩
    case measure => simp [intOf]; omega
  ·obtain rfl : hi = lo := by omega
   have HE := Lib.hid hE
   have HB := Lib.hid hb
   by_cases hin : hi < n
   ·have hm : hi < l.length := by rw [HN.out]; exact hin
    obtain ⟨ad, hA, -, c1, c2⟩ := pair_at (HR.out.below hb) hm
    subst hA
    obtain ⟨p, hp⟩ : ∃ p, l[hi] = p := ⟨_, rfl⟩
    rw [hp] at c1 c2
    have hcm := cmpS_zero p.k key
    have hcall := fun w => cmp_any p.k p.v key w
    obtain ⟨z, hz⟩ : ∃ z, cmpS p.k key = z := ⟨_, rfl⟩
    rw [hz] at hcm hcall
    obtain ⟨b, hbb⟩ : ∃ b, decide (p.k = key) = b := ⟨_, rfl⟩
    rw [hbb] at hcm
    have HC := Lib.hid hcall
    have hfound := hE.found hm
    rw [hp, hbb] at hfound
    have HF := Lib.hid hfound
    have g1 : (0 : Int) ≤ (hi : Int) := by omega
    have g2 : (hi : Int) < (n : Int) := by omega
    clear hz hcall hp hE hb hbb hfound
    go_wp2_with fail
    refine (HC.out _).mono ?_
    rintro e w1 ⟨rfl, b1⟩
    have B1 := Lib.hid (below_step HB.out (Nat.le_refl _) b1)
    clear b1
    go_wp2_with fail
    go_ret2
    exact ⟨hi, b, rfl, HF.out, B1.out⟩
   ·have hm : ¬ hi < l.length := by rw [HN.out]; exact hin
    have HF := Lib.hid (hE.missed hm)
    clear hE hb hm
    go_wp2_with fail
    go_ret2
    exact ⟨hi, false, rfl, HF.out, HB.out⟩
theorem find_any (w : World) (v : Value) (l : List Pr) (key : ByteArray) (h : PL w w.heap.size v l) :
  Calls Tryd.prog 58 #[v, .string key] w fun e w' => ∃ i b, e = .returned (.tuple #[.int .i64 (i : Nat), .bool b]) ∧ Found l key i b ∧ Below w.heap.size w w' := by
 have H := Lib.hid h
 clear h
 go_enter Tryd.func58, Tryd.ntmps58
 go_wp2_with fail
 refine (search_any _ _ l key H.out).mono ?_
 rintro e w1 ⟨i, b, rfl, hf, b1⟩
 have HF := Lib.hid hf
 have HB := Lib.hid b1
 clear hf b1
 go_wp2_with fail
 go_ret2
 exact ⟨i, b, rfl, HF.out, HB.out⟩
end Go.Proofs.YtjbnfigpflambabDoor
/- Plain laws of memory: copy between rows of elements of several cells; a row with one element more in its midst; pairs with one more, as cells. -/
namespace Go.Proofs.YtjbnfigpflambabDoor
theorem wp_copy_run (w : World) {P : Program} {o : Oper} {a : Act} {K : Act → World → Prop} {Q : Exit → Act → World → Prop} (d s : Operand) (t t' : TypeId)
  (ho : o.op = .call { callee := .builtin .copy, args := #[d, s], argTypes := #[t, t'] }) (v u : Value) (hd : a.eval d = v) (hs : a.eval s = u) {v' : Value} {w' : World}
  (hr : (Builtin.copy_ #[t, t'] o.type #[v, u]).run P w = .ok v' w') (h : K (a.put o.dst v') w') : o.wp P a w K Q := by
 unfold Oper.wp execOp
 simp only [ho, resolve, invoke, builtin, Sem.run_bind, Sem.run_pure, Result.andThen_ok, List.map_toArray, List.map_cons, List.map_nil, hd, hs, hr]
 exact h
theorem wp_append_run (w : World) {P : Program} {o : Oper} {a : Act} {K : Act → World → Prop} {Q : Exit → Act → World → Prop} (d s : Operand) (t t' : TypeId)
  (ho : o.op = .call { callee := .builtin .append, args := #[d, s], argTypes := #[t, t'] }) (v u : Value) (hd : a.eval d = v) (hs : a.eval s = u) {v' : Value} {w' : World}
  (hr : (Builtin.append_ #[t, t'] o.type #[v, u]).run P w = .ok v' w') (h : K (a.put o.dst v') w') : o.wp P a w K Q := by
 unfold Oper.wp execOp
 simp only [ho, resolve, invoke, builtin, Sem.run_bind, Sem.run_pure, Result.andThen_ok, List.map_toArray, List.map_cons, List.map_nil, hd, hs, hr]
 exact h
theorem wpList_append_run (w : World) {P : Program} {ops : Array Oper} {rest : List Oper} {o : Oper} {a : Act} {Q : Exit → Act → World → Prop} (hgd : o.guard = none) (d s : Operand) (t t' : TypeId)
  (ho : o.op = .call { callee := .builtin .append, args := #[d, s], argTypes := #[t, t'] }) (v u : Value) (hd : a.eval d = v) (hs : a.eval s = u) {v' : Value} {w' : World}
  (hr : (Builtin.append_ #[t, t'] o.type #[v, u]).run P w = .ok v' w') (h : wpList P ops Q rest (a.put o.dst v') w') : wpList P ops Q (o :: rest) a w :=
 wpList_plain hgd fun _ hK => wp_append_run w d s t t' ho v u hd hs hr (hK _ _ h)
theorem run_copy_rowN {P : Program} (w : World) (dT sT ty elem : TypeId) (g o dLen dCap : Nat) (a : Addr) (sLen sCap : Nat) (cur : Array Value) (t : TypeId) (cs : List Value) (k : Nat)
  (hu : P.underlying dT = some (.slice elem)) (hs : (P.info? elem).map (·.size) = some k)
  (hg : w.heap[g]? = some (.cells cur t (0, 0))) (hn : cs.length = Nat.min sLen dLen * k)
  (hsrc : ∀ j v, cs[j]? = some v → w.cell? (a.add j) = some v) (hfit : o + cs.length ≤ cur.size) (h1 : ∀ v ∈ cs, v.oneCell' = true) :
  (Builtin.copy_ #[dT, sT] ty #[.slice (some ⟨g, o, none⟩) dLen dCap, .slice (some a) sLen sCap]).run P w =
   .ok (goInt (Nat.min sLen dLen)) (w.setRow g (cur.toList.take o ++ cs ++ cur.toList.drop (o + cs.length)).toArray) := by
 have hl := run_loadCells_list (P := P) w a cs hsrc
 have hst := run_storeCells_at P g o t cs 0 cur w hg (by simpa using hfit) h1
 cases hq : P.info? elem with
 | none => simp [hq] at hs
 | some i =>
  have hi : i.size = k := by simpa [hq] using hs
  simp [Builtin.copy_, run_underlying hu, Builtin.lenOf, Builtin.firstCells, sizeOf, typeInfo, hq, hi, ← hn, hl, hst]
/-- a row is written: the world keeps its other blocks -/
theorem grown_setRow (w : World) (g : Nat) (cur : Array Value) : w.grownBy (w.setRow g cur) (some g) := by
 refine ⟨rfl, rfl, rfl, by simp [World.setRow], fun k hk hne => ?_⟩
 have : k ≠ g := fun e => hne (by rw [e])
 simp only [World.setRow, Array.getElem?_modify]
 rw [if_neg (fun e => this e.symm)]
/-- in place: what stands from 2 i on goes one element up, and the new one takes its place -/
theorem shift_list (X rest new : List Value) (i n : Nat) (hX : X.length = n * 2) (hi : i < n) (hnew : new.length = 2) (hr : 2 ≤ rest.length) :
  let cur := X ++ rest
  let cur1 := cur.take ((i + 1) * 2) ++ X.drop (i * 2) ++ cur.drop ((i + 1) * 2 + (X.drop (i * 2)).length)
  (cur1.take (i * 2) ++ new ++ cur1.drop (i * 2 + 2)).take ((n + 1) * 2) = X.take (i * 2) ++ new ++ X.drop (i * 2) := by
 intro cur cur1
 have e1 : (X.drop (i * 2)).length = n * 2 - i * 2 := by rw [List.length_drop, hX]
 have e2 : cur1.take (i * 2) = X.take (i * 2) := by
  show List.take (i * 2) (List.take ((i + 1) * 2) (X ++ rest) ++ X.drop (i * 2) ++ _) = _
  rw [List.append_assoc, List.take_append_of_le_length (by rw [List.length_take, List.length_append, hX]; omega), List.take_take, Nat.min_eq_left (by omega), List.take_append_of_le_length (by omega)]
 have e3 : cur1.drop (i * 2 + 2) = X.drop (i * 2) ++ cur.drop ((i + 1) * 2 + (X.drop (i * 2)).length) := by
  show List.drop (i * 2 + 2) (List.take ((i + 1) * 2) (X ++ rest) ++ X.drop (i * 2) ++ _) = _
  rw [List.append_assoc, List.drop_append_of_le_length (by rw [List.length_take, List.length_append, hX]; omega), List.drop_eq_nil_of_le (by rw [List.length_take]; omega), List.nil_append]
 rw [e2, e3, ← List.append_assoc, List.take_append_of_le_length (by simp only [List.length_append, List.length_take, hnew, e1, hX]; omega)]
 exact List.take_of_length_le (by simp only [List.length_append, List.length_take, hnew, e1, hX]; omega)
/-- in a new row -/
theorem grow_list (X Z new : List Value) (i n : Nat) (hX : X.length = n * 2) (hi : i < n) (hnew : new.length = 2) :
  let row := X.take (i * 2) ++ Z
  let row1 := row.take (i * 2) ++ new ++ row.drop (i * 2 + 2)
  (row1.take ((i + 1) * 2) ++ X.drop (i * 2) ++ row1.drop ((i + 1) * 2 + (X.drop (i * 2)).length)).take ((n + 1) * 2) = X.take (i * 2) ++ new ++ X.drop (i * 2) := by
 intro row row1
 have e1 : (X.drop (i * 2)).length = n * 2 - i * 2 := by rw [List.length_drop, hX]
 have e0 : (X.take (i * 2)).length = i * 2 := by rw [List.length_take, hX]; omega
 have e2 : row.take (i * 2) = X.take (i * 2) := by
  show List.take (i * 2) (X.take (i * 2) ++ Z) = _
  rw [List.take_append_of_le_length (by omega)]
  exact List.take_of_length_le (by omega)
 have e3 : row1.take ((i + 1) * 2) = X.take (i * 2) ++ new := by
  show List.take ((i + 1) * 2) (row.take (i * 2) ++ new ++ _) = _
  rw [e2, List.take_append_of_le_length (by rw [List.length_append, e0, hnew]; omega)]
  exact List.take_of_length_le (by rw [List.length_append, e0, hnew]; omega)
 rw [e3, List.take_append_of_le_length (by simp only [List.length_append, hnew, e1, e0]; omega)]
 exact List.take_of_length_le (by simp only [List.length_append, hnew, e1, e0]; omega)
end Go.Proofs.YtjbnfigpflambabDoor
