/- say.Name and the reference's NameMay: what each returns. What the package-level variables hold: the words of statements, and the library's MaxLen. say.Check: what it returns, given what Read returns for its value. DERIVED: THE SHELF's CONTRACTS AT THIS DUMP, IN PLAIN WORDS (tools/lay-plain.mjs out of 'TryzShelf.lean', which tools/lay-shelf.mjs wrote): THE SAME DECLARATIONS UNDER THE SAME NAMES: 'import', 'namespace', 'open', 'def', 'theorem' AND NOTHING ELSE: no command of the shelf's: FOR A HAND-IN. Each laying: the table of numbers ('.._ren') and one theorem, a field a fact of the dump's own or the kernel's comparison; each contract: ONE APPLICATION. -/
import Derived.Test.YtjbnfigpflambacGreatDoorProg
import Derived.Test.YtjbnfigpflambacGreatDoorG00
import Derived.Lib.ConvBytes
import Derived.Lib.LaidTab
import Derived.Shelf.Strings.Builder1
import Derived.Shelf.Small.Strs
import Derived.Shelf.Strings.BuilderF
import Derived.Shelf.Strings.BuilderK
import Derived.Shelf.Strconv.Itoa0
import Derived.Shelf.Strconv.Itoa1
import Derived.Shelf.LaysM
import Derived.Shelf.Strconv.Itoa2
import Derived.Shelf.Strconv.Itoa3
import Derived.Shelf.Strings.Search1
import Derived.Shelf.Strings.Search2
import Derived.Shelf.Strings.Search3
import Derived.Shelf.Strings.Count
import Derived.Shelf.Strings.Shaped
import Derived.Shelf.Strings.Prefix
import Derived.Shelf.Strings.Split
import Derived.Shelf.Strings.SplitShaped
import Derived.Shelf.Bits.Mul64
import Derived.Shelf.Unicode.DecodeSlow
import Derived.Shelf.Strings.BuilderCap
import Derived.Shelf.Slices.Turned
import Derived.Shelf.Slices.Equal
import Derived.Shelf.Slices.Empties2
/- say.Name and the reference's NameMay: what each returns. -/
namespace Go.Proofs.YtjbnfigpflambacGreatDoor
open Go.ChangeShapes Go.WideShapes Go.ChangeAt Go.RowKit
theorem name1_any (c : UInt8) (w : World) : Calls Tryz.prog 121 #[.int .u8 (c.toNat : Int)] w fun e w' => e = .returned (.bool (!lowC c)) ∧ w = w' := by
 unfold lowC
 by_cases h1 : c.toNat < 97
 ·have d : decide (97 ≤ c.toNat) = false := by simpa using h1
  have g : (c.toNat : Int) < 97 := by omega
  go_enter Tryz.func121, Tryz.ntmps121
  go_wp2
  go_ret
  exact ⟨by simp [d], rfl⟩
 ·have d : decide (97 ≤ c.toNat) = true := by simpa using h1
  by_cases h2 : 122 < c.toNat
  ·have d2 : decide (c.toNat ≤ 122) = false := by simpa using h2
   have g : 122 < (c.toNat : Int) := by omega
   have g' : ¬ (c.toNat : Int) < 97 := by omega
   go_enter Tryz.func121, Tryz.ntmps121
   go_wp2
   go_ret
   exact ⟨by simp, rfl⟩
  ·have d2 : decide (c.toNat ≤ 122) = true := by simpa using h2
   have g : ¬ 122 < (c.toNat : Int) := by omega
   have g' : ¬ (c.toNat : Int) < 97 := by omega
   go_enter Tryz.func121, Tryz.ntmps121
   go_wp2
   go_ret
   exact ⟨by simp, rfl⟩
def firstOf (p : UInt8 → Bool) (l : List UInt8) : Int := match l.findIdx? p with | some i => (i : Int) | none => -1
theorem firstOf_at {p : UInt8 → Bool} {l : List UInt8} {k : Nat} (hk : k < l.length) (hb : ∀ j, (h : j < l.length) → j < k → p l[j] = false) (hp : p l[k] = true) : firstOf p l = k := by
 have h : l.findIdx? p = some k := by
  rw [List.findIdx?_eq_some_iff_getElem]
  exact ⟨hk, hp, fun j hj => by rw [hb j (by omega) hj]; simp⟩
 simp [firstOf, h]
theorem firstOf_no {p : UInt8 → Bool} {l : List UInt8} (hb : ∀ j, (h : j < l.length) → p l[j] = false) : firstOf p l = -1 := by
 have h : l.findIdx? p = none := by
  rw [List.findIdx?_eq_none_iff]
  intro x hx
  obtain ⟨j, hj, rfl⟩ := List.getElem_of_mem hx
  exact hb j hj
 simp [firstOf, h]
theorem firstOf_nonneg {p : UInt8 → Bool} {l : List UInt8} : decide (0 ≤ firstOf p l) = l.any p := by
 unfold firstOf
 cases h : l.findIdx? p with
 | none =>
  rw [List.findIdx?_eq_none_iff] at h
  simp
  intro x hx
  rw [h x hx]
 | some i =>
  rw [List.findIdx?_eq_some_iff_getElem] at h
  obtain ⟨hi, hp, _⟩ := h
  simp
  exact ⟨_, List.getElem_mem hi, hp⟩
theorem snoc_no {p : UInt8 → Bool} {l : List UInt8} {k : Nat} (hb : ∀ j, (h : j < l.length) → j < k → p l[j] = false) (hk : k < l.length) (hp : p l[k] = false) : ∀ j, (h : j < l.length) → j < k + 1 → p l[j] = false := by
 intro j h hj
 rcases Nat.lt_or_ge j k with h1 | h1
 ·exact hb j h h1
 ·obtain rfl : j = k := by omega
  exact hp
def NoneBefore (p : UInt8 → Bool) (l : List UInt8) (k : Nat) : Prop := ∀ j, (h : j < l.length) → j < k → p l[j] = false
theorem indexFunc_any (f : Nat) (p : UInt8 → Bool) (hcf : ∀ (c : Int) (w : World), (callFunc f #[.int .u8 c]).run Tryz.prog w = .ok (.enter f #[.int .u8 c]) w)
  (hf : ∀ (c : UInt8) (w : World), Calls Tryz.prog f #[.int .u8 (c.toNat : Int)] w fun e w' => e = .returned (.bool (p c)) ∧ w = w')
  (l : List UInt8) (b cap : Nat) (w : World) (hl : l.length ≤ 1000) (hc : ∀ i, (h : i < l.length) → w.cell? ⟨b, i, none⟩ = some (.int .u8 (l[i].toNat : Int))) :
  Calls Tryz.prog 142 #[.slice (some ⟨b, 0, none⟩) l.length cap, .func (.func f) #[] #[]] w fun e w' => e = .returned (.int .i64 (firstOf p l)) ∧ w = w' := by
 have HF := Lib.hid hf
 have HC := Lib.hid hc
 clear hf hc
 go_enter Tryz.func142, Tryz.ntmps142
 go_wp2_with fail
 go_loop [8] (fun i => ∃ k : Nat, k ≤ l.length ∧ i = .int .i64 k ∧ NoneBefore p l k) (fun i => l.length - (intOf i).toNat)
 case atStart => exact ⟨0, Nat.zero_le _, rfl, fun j _ hj => absurd hj (by omega)⟩
 case round =>
  obtain ⟨k, hk, rfl, hn⟩ := hrel
  by_cases hlt : k < l.length
  ·have hcell := HC.out k hlt
   obtain ⟨c, ec⟩ : ∃ c, l[k]'hlt = c := ⟨_, rfl⟩
   rw [ec] at hcell
   have EC := Lib.hid ec
   clear ec
   cases hp : p c with
   | true =>
    have HN : firstOf p l = k := firstOf_at hlt hn (by rw [EC.out]; exact hp)
    have HN' := Lib.hid HN
    have HP := Lib.hid hp
    clear HN hp hn
    go_wp2_with fail
    refine (HF.out c _).mono ?_
    rintro e w' ⟨rfl, rfl⟩
    have hp := HP.out
    go_wp2_with fail
    go_ret
    exact ⟨by rw [HN'.out]; simp, rfl⟩
   | false =>
    have HN : NoneBefore p l (k + 1) := snoc_no hn hlt (by rw [EC.out]; exact hp)
    have HN' := Lib.hid HN
    have HP := Lib.hid hp
    clear HN hp hn
    go_wp2_with fail
    refine (HF.out c _).mono ?_
    rintro e w' ⟨rfl, rfl⟩
    have hp := HP.out
    go_wp2_with fail
    go_round
    case rel => exact ⟨k + 1, by omega, by go_num, HN'.out⟩
    case measure => simp [intOf]; omega
  ·have HN : firstOf p l = -1 := firstOf_no fun j h => hn j h (by omega)
   have HN' := Lib.hid HN
   clear HN hn
   go_wp2_with fail
   go_ret
   exact ⟨by rw [HN'.out]; simp, rfl⟩
theorem containsFunc_any (f : Nat) (p : UInt8 → Bool) (hcf : ∀ (c : Int) (w : World), (callFunc f #[.int .u8 c]).run Tryz.prog w = .ok (.enter f #[.int .u8 c]) w)
  (hf : ∀ (c : UInt8) (w : World), Calls Tryz.prog f #[.int .u8 (c.toNat : Int)] w fun e w' => e = .returned (.bool (p c)) ∧ w = w')
  (l : List UInt8) (b cap : Nat) (w : World) (hl : l.length ≤ 1000) (hc : ∀ i, (h : i < l.length) → w.cell? ⟨b, i, none⟩ = some (.int .u8 (l[i].toNat : Int))) :
  Calls Tryz.prog 120 #[.slice (some ⟨b, 0, none⟩) l.length cap, .func (.func f) #[] #[]] w fun e w' => e = .returned (.bool (l.any p)) ∧ w = w' := by
 have HF := Lib.hid hf
 have HC := Lib.hid hc
 have HCF := Lib.hid hcf
 clear hf hc hcf
 go_enter Tryz.func120, Tryz.ntmps120
 go_wp2_with fail
 refine (indexFunc_any f p HCF.out HF.out l b cap _ hl HC.out).mono ?_
 rintro e w' ⟨rfl, rfl⟩
 go_wp2_with fail
 go_ret
 exact ⟨by simp [← firstOf_nonneg], rfl⟩
theorem call1 (c : Int) (w : World) : (callFunc 121 #[.int .u8 c]).run Tryz.prog w = .ok (.enter 121 #[.int .u8 c]) w := by
 go_simp
theorem bytes_below (w : World) (s : ByteArray) : Below w.heap.size w (Lib.bytesWorld w 5 s) :=
 ⟨rfl, rfl, rfl, by rw [Lib.bytesWorld_size]; omega, fun k hk => Lib.bytesWorld_at_old w _ s k hk⟩
theorem name_any (s : ByteArray) (w : World) (hm : s.size ≤ maxLen) : Calls Tryz.prog 92 #[.string s] w fun e w' => e = .returned (.bool (nameB s)) ∧ Below w.heap.size w w' := by
 unfold maxLen at hm
 by_cases h0 : s.toList = []
 ·have hz := size_of_nil h0
  have e : nameB s = false := by unfold nameB; rw [hz]; simp
  have hi : s.toList.isEmpty = true := by simp [h0]
  rw [e]
  clear e
  go_enter Tryz.func92, Tryz.ntmps92
  go_wp2
  go_ret
  exact ⟨rfl, Below.refl _ _⟩
 ·have hi : s.toList.isEmpty = false := by simpa using h0
  by_cases h8 : 8 < s.size
  ·have e : nameB s = false := by unfold nameB; simp; omega
   have hd : decide ((s.size : Int) ≤ 8) = false := by simp; omega
   rw [e]
   clear e
   go_enter Tryz.func92, Tryz.ntmps92
   go_wp2
   go_ret
   exact ⟨rfl, Below.refl _ _⟩
  ·have hd : decide ((s.size : Int) ≤ 8) = true := by simp; omega
   have hcv := fun (w : World) => Lib.run_convert_string_bytes (P := Tryz.prog) w 9 94 5 s Tryz.underlying9 Tryz.underlying94 Tryz.underlying5
   have hl : s.data.toList.length = s.size := by simp
   have hz : 1 ≤ s.size := by
    rcases Nat.eq_zero_or_pos s.size with h | h
    ·refine absurd ?_ h0
     rw [toList_data]
     exact List.eq_nil_of_length_eq_zero (by rw [hl, h])
    ·exact h
   have e : nameB s = !s.data.toList.any fun c => !lowC c := by
    unfold nameB
    rw [List.all_eq_not_any_not]
    simp only [decide_eq_true (show 1 ≤ s.size from hz), decide_eq_true (show s.size ≤ 8 by omega), Bool.true_and]
   rw [e]
   have H := containsFunc_any 121 (fun c => !lowC c) call1 name1_any s.data.toList w.heap.size (grownCap w s.size 0 5) (Lib.bytesWorld w 5 s) (by rw [hl]; omega) (fun i h => by
    rw [Lib.bytesWorld_cell w _ s i (by rw [← hl]; exact h)]
    have hi : i < s.data.size := by simpa using h
    simp [List.getD, Array.getElem?_eq_getElem hi])
   rw [hl] at H
   have H' := Lib.hid H
   clear H e hl h0
   go_enter Tryz.func92, Tryz.ntmps92
   go_wp2_with fail
   refine H'.out.mono ?_
   rintro e w' ⟨rfl, rfl⟩
   go_wp2_with fail
   go_ret
   exact ⟨by simp, bytes_below w s⟩
theorem value1_any (c : UInt8) (w : World) : Calls Tryz.prog 122 #[.int .u8 (c.toNat : Int)] w fun e w' => e = .returned (.bool (!seenC c)) ∧ w = w' := by
 unfold seenC
 by_cases h1 : c.toNat ≤ 32
 ·have d : decide (33 ≤ c.toNat) = false := by simp; omega
  have g : (c.toNat : Int) ≤ 32 := by omega
  go_enter Tryz.func122, Tryz.ntmps122
  go_wp2
  go_ret
  exact ⟨by simp [d], rfl⟩
 ·have d : decide (33 ≤ c.toNat) = true := by simp; omega
  by_cases h2 : 126 < c.toNat
  ·have d2 : decide (c.toNat ≤ 126) = false := by simpa using h2
   have g : 126 < (c.toNat : Int) := by omega
   have g' : ¬ (c.toNat : Int) ≤ 32 := by omega
   go_enter Tryz.func122, Tryz.ntmps122
   go_wp2
   go_ret
   exact ⟨by simp, rfl⟩
  ·have d2 : decide (c.toNat ≤ 126) = true := by simpa using h2
   have g : ¬ 126 < (c.toNat : Int) := by omega
   have g' : ¬ (c.toNat : Int) ≤ 32 := by omega
   go_enter Tryz.func122, Tryz.ntmps122
   go_wp2
   go_ret
   exact ⟨by simp, rfl⟩
theorem call2 (c : Int) (w : World) : (callFunc 122 #[.int .u8 c]).run Tryz.prog w = .ok (.enter 122 #[.int .u8 c]) w := by
 go_simp
theorem value_any (s : ByteArray) (w : World) (hm : s.size ≤ maxLen) : Calls Tryz.prog 93 #[.string s] w fun e w' => e = .returned (.bool (valueB s)) ∧ Below w.heap.size w w' := by
 unfold maxLen at hm
 by_cases h0 : s.toList = []
 ·have hz := size_of_nil h0
  have e : valueB s = false := by unfold valueB; rw [hz]; simp
  have hi : s.toList.isEmpty = true := by simp [h0]
  rw [e]
  clear e
  go_enter Tryz.func93, Tryz.ntmps93
  go_wp2
  go_ret
  exact ⟨rfl, Below.refl _ _⟩
 ·have hi : s.toList.isEmpty = false := by simpa using h0
  by_cases h20 : 20 < s.size
  ·have e : valueB s = false := by unfold valueB; simp; omega
   have hd : decide ((s.size : Int) ≤ 20) = false := by simp; omega
   rw [e]
   clear e
   go_enter Tryz.func93, Tryz.ntmps93
   go_wp2
   go_ret
   exact ⟨rfl, Below.refl _ _⟩
  ·have hd : decide ((s.size : Int) ≤ 20) = true := by simp; omega
   have hcv := fun (w : World) => Lib.run_convert_string_bytes (P := Tryz.prog) w 9 94 5 s Tryz.underlying9 Tryz.underlying94 Tryz.underlying5
   have hl : s.data.toList.length = s.size := by simp
   have hz : 1 ≤ s.size := by
    rcases Nat.eq_zero_or_pos s.size with h | h
    ·refine absurd ?_ h0
     rw [toList_data]
     exact List.eq_nil_of_length_eq_zero (by rw [hl, h])
    ·exact h
   have e : valueB s = !s.data.toList.any fun c => !seenC c := by
    unfold valueB
    rw [List.all_eq_not_any_not]
    simp only [decide_eq_true (show 1 ≤ s.size from hz), decide_eq_true (show s.size ≤ 20 by omega), Bool.true_and]
   rw [e]
   have H := containsFunc_any 122 (fun c => !seenC c) call2 value1_any s.data.toList w.heap.size (grownCap w s.size 0 5) (Lib.bytesWorld w 5 s) (by rw [hl]; omega) (fun i h => by
    rw [Lib.bytesWorld_cell w _ s i (by rw [← hl]; exact h)]
    have hi : i < s.data.size := by simpa using h
    simp [List.getD, Array.getElem?_eq_getElem hi])
   rw [hl] at H
   have H' := Lib.hid H
   clear H e hl h0
   go_enter Tryz.func93, Tryz.ntmps93
   go_wp2_with fail
   refine H'.out.mono ?_
   rintro e w' ⟨rfl, rfl⟩
   go_wp2_with fail
   go_ret
   exact ⟨by simp, bytes_below w s⟩
end Go.Proofs.YtjbnfigpflambacGreatDoor
/- What the package-level variables hold: the words of statements, and the library's MaxLen. -/
namespace Go.Proofs.YtjbnfigpflambacGreatDoor
open Go.ChangeShapes Go.WideShapes Go.ChangeAt Go.RowKit
theorem gWords : Tryz.prog.globalNamed "tillerman/say.words" = some 0 := by kernel_rfl
structure Tabs (w : World) : Prop where
 words : ∀ i, i < 11 → w.cell? ⟨0, 1 + i, none⟩ = some (.string (wordsL.getD i ByteArray.empty))
 maxLen : ∃ m, w.cell? ⟨1, 0, none⟩ = some (.int .i64 m)
theorem Tabs.below {w w' : World} (h : Tabs w) (hb : Below w.heap.size w w') : Tabs w' :=
 ⟨fun i hi => keep_cell hb (h.words i hi), by obtain ⟨m, hm⟩ := h.maxLen; exact ⟨m, keep_cell hb hm⟩⟩
theorem Tabs.alloc {w : World} (h : Tabs w) (o : Obj) : Tabs (w.alloc o) := h.below (boxed w o)
end Go.Proofs.YtjbnfigpflambacGreatDoor
/- say.Check: what it returns, given what Read returns for its value. -/
namespace Go.Proofs.YtjbnfigpflambacGreatDoor
open Go.ChangeShapes Go.WideShapes Go.ChangeAt Go.RowKit
def St.v (s : St) : Value := .agg #[.int .i64 s.k, .string s.key, .string s.val]
def ReadOk (f : Nat) (t : ByteArray) : Prop := ∀ w : World, Tabs w → Calls Tryz.prog f #[.string t] w fun e w' => e = .returned (.tuple #[(readS t).v, .int .i64 (readE t)]) ∧ Below w.heap.size w w'
theorem nameB_ne {s : ByteArray} (h : nameB s = true) : s.toList.isEmpty = false := by
 rw [toList_data]
 unfold nameB at h
 simp only [Bool.and_eq_true, decide_eq_true_eq] at h
 cases e : s.data.toList with
 | nil =>
  have : s.size = 0 := by simpa using congrArg List.length e
  omega
 | cons a l => rfl
theorem valueB_ne {s : ByteArray} (h : valueB s = true) : s.toList.isEmpty = false := by
 rw [toList_data]
 unfold valueB at h
 simp only [Bool.and_eq_true, decide_eq_true_eq] at h
 cases e : s.data.toList with
 | nil =>
  have : s.size = 0 := by simpa using congrArg List.length e
  omega
 | cons a l => rfl
section
variable (k : Int) (key val : ByteArray) (w : World)
theorem check_kind (h : k < 1 ∨ 11 < k) :
  Calls Tryz.prog 63 #[.agg #[.int .i64 k, .string key, .string val]] w fun e w' => e = .returned (.int .i64 3) ∧ Below w.heap.size w w' := by
 by_cases h1 : k < 1
 ·go_enter Tryz.func63, Tryz.ntmps63
  go_wp2_with fail
  go_ret
  exact ⟨rfl, boxed _ _⟩
 ·have h2 : 11 < k := by omega
  clear h
  go_enter Tryz.func63, Tryz.ntmps63
  go_wp2_with fail
  go_ret
  exact ⟨rfl, boxed _ _⟩
theorem check_low (h1 : 1 ≤ k) (h2 : k ≤ 5) :
  Calls Tryz.prog 63 #[.agg #[.int .i64 k, .string key, .string val]] w fun e w' => e = .returned (.int .i64 (if isE key && isE val then 0 else 4)) ∧ Below w.heap.size w w' := by
 have d1 : decide (6 ≤ k) = false := by simp; omega
 have d2 : decide (9 ≤ k) = false := by simp; omega
 have d3 : (k == 9) = false := by simp; omega
 have d4 : (k == 10) = false := by simp; omega
 have d5 : (k == 11) = false := by simp; omega
 unfold isE
 cases e1 : key.toList.isEmpty <;> cases e2 : val.toList.isEmpty
 all_goals
  have f1 := e1
  have f2 := e2
  simp only [List.isEmpty_iff, List.isEmpty_eq_false_iff] at f1 f2
  go_enter Tryz.func63, Tryz.ntmps63
  go_wp2_with fail
  go_ret
  exact ⟨by simp, boxed _ _⟩
theorem check_mid (h1 : 6 ≤ k) (h2 : k ≤ 8) (hm : key.size ≤ maxLen) :
  Calls Tryz.prog 63 #[.agg #[.int .i64 k, .string key, .string val]] w fun e w' => e = .returned (.int .i64 (if !nameB key then 4 else if isE val then 0 else 4)) ∧ Below w.heap.size w w' := by
 have d1 : decide (6 ≤ k) = true := by simp; omega
 have d2 : decide (9 ≤ k) = false := by simp; omega
 have d3 : (k == 9) = false := by simp; omega
 have d4 : (k == 10) = false := by simp; omega
 have d5 : (k == 11) = false := by simp; omega
 cases e1 : key.toList.isEmpty with
 | true =>
  have hn : nameB key = false := by
   cases h : nameB key with
   | false => rfl
   | true => rw [nameB_ne h] at e1; cases e1
  have f1 := e1
  simp only [List.isEmpty_iff] at f1
  rw [hn]
  clear hn
  go_enter Tryz.func63, Tryz.ntmps63
  go_wp2_with fail
  go_ret
  exact ⟨by simp, boxed _ _⟩
 | false =>
  have f1 := e1
  simp only [List.isEmpty_eq_false_iff] at f1
  unfold isE
  cases e2 : val.toList.isEmpty with
  | false =>
   have f2 := e2
   simp only [List.isEmpty_eq_false_iff] at f2
   simp only [Bool.false_eq_true, if_false, ite_self]
   go_enter Tryz.func63, Tryz.ntmps63
   go_wp2_with fail
   go_ret
   exact ⟨by simp, boxed _ _⟩
  | true =>
   have f2 := e2
   simp only [List.isEmpty_iff] at f2
   cases hn : nameB key
   all_goals
    have HN := Lib.hid hn
    clear hn
    go_enter Tryz.func63, Tryz.ntmps63
    go_wp2_with fail
    refine (name_any key _ hm).mono ?_
    rintro e w1 ⟨rfl, hb1⟩
    have c0 := box_cell hb1 0
    have c1 := box_cell hb1 1
    have c2 := box_cell hb1 2
    have hb := below_of_alloc (Nat.le_refl _) hb1
    clear hb1
    rw [HN.out]
    go_wp2_with fail
    go_ret
    exact ⟨by simp, hb⟩
theorem check_set (h : k = 9 ∨ k = 10) (hm : key.size ≤ maxLen) (hm2 : val.size ≤ maxLen) :
  Calls Tryz.prog 63 #[.agg #[.int .i64 k, .string key, .string val]] w fun e w' => e = .returned (.int .i64 (if !nameB key then 4 else if valueB val then 0 else 4)) ∧ Below w.heap.size w w' := by
 cases e1 : key.toList.isEmpty with
 | true =>
  have hn : nameB key = false := by
   cases h : nameB key with
   | false => rfl
   | true => rw [nameB_ne h] at e1; cases e1
  have f1 := e1
  simp only [List.isEmpty_iff] at f1
  rw [hn]
  clear hn
  rcases h with rfl | rfl
  all_goals
   go_enter Tryz.func63, Tryz.ntmps63
   go_wp2_with fail
   go_ret
   exact ⟨by simp, boxed _ _⟩
 | false =>
  have f1 := e1
  simp only [List.isEmpty_eq_false_iff] at f1
  cases e2 : val.toList.isEmpty with
  | true =>
   have hv : valueB val = false := by
    cases h : valueB val with
    | false => rfl
    | true => rw [valueB_ne h] at e2; cases e2
   have f2 := e2
   simp only [List.isEmpty_iff] at f2
   rw [hv]
   clear hv
   simp only [Bool.false_eq_true, if_false, ite_self]
   rcases h with rfl | rfl
   all_goals
    go_enter Tryz.func63, Tryz.ntmps63
    go_wp2_with fail
    go_ret
    exact ⟨by simp, boxed _ _⟩
  | false =>
   have f2 := e2
   simp only [List.isEmpty_eq_false_iff] at f2
   cases hn : nameB key with
   | false =>
    have HN := Lib.hid hn
    clear hn
    rcases h with rfl | rfl
    all_goals
     go_enter Tryz.func63, Tryz.ntmps63
     go_wp2_with fail
     refine (name_any key _ hm).mono ?_
     rintro e w1 ⟨rfl, hb1⟩
     have hb := below_of_alloc (Nat.le_refl _) hb1
     clear hb1
     rw [HN.out]
     go_wp2_with fail
     go_ret
     exact ⟨by simp, hb⟩
   | true =>
    have HN := Lib.hid hn
    clear hn
    cases hv : valueB val
    all_goals
     have HV := Lib.hid hv
     clear hv
     rcases h with rfl | rfl
    all_goals
     go_enter Tryz.func63, Tryz.ntmps63
     go_wp2_with fail
     refine (name_any key _ hm).mono ?_
     rintro e w1 ⟨rfl, hb1⟩
     have c0 := box_cell hb1 0
     have c1 := box_cell hb1 1
     have c2 := box_cell hb1 2
     have hb := below_of_alloc (Nat.le_refl _) hb1
     clear hb1
     rw [HN.out]
     go_wp2_with fail
     refine (value_any val _ hm2).mono ?_
     rintro e w2 ⟨rfl, hb2⟩
     replace c0 := keep_cell hb2 c0
     replace c1 := keep_cell hb2 c1
     replace c2 := keep_cell hb2 c2
     replace hb := below_step hb (Nat.le_refl _) hb2
     clear hb2
     rw [HV.out]
     go_wp2_with fail
     go_ret
     exact ⟨by simp, hb⟩
theorem check_prep (hT : Tabs w) (hm : key.size ≤ maxLen) (hr : ReadOk 79 val) :
  Calls Tryz.prog 63 #[.agg #[.int .i64 11, .string key, .string val]] w fun e w' => e = .returned (.int .i64 (if nameB key && prepB val then 0 else 4)) ∧ Below w.heap.size w w' := by
 have HR := Lib.hid hr
 have HT := Lib.hid hT
 clear hr hT
 cases e1 : key.toList.isEmpty with
 | true =>
  have hn : nameB key = false := by
   cases h : nameB key with
   | false => rfl
   | true => rw [nameB_ne h] at e1; cases e1
  have f1 := e1
  simp only [List.isEmpty_iff] at f1
  rw [hn]
  clear hn
  go_enter Tryz.func63, Tryz.ntmps63
  go_wp2_with fail
  go_ret
  exact ⟨by simp, boxed _ _⟩
 | false =>
  have f1 := e1
  simp only [List.isEmpty_eq_false_iff] at f1
  cases e2 : val.toList.isEmpty with
  | true =>
   have hv : prepB val = false := by
    rw [prep_read]
    have : val = ⟨#[]⟩ := str_inj (by rw [List.isEmpty_iff] at e2; rw [e2, toList_data])
    subst this
    decide +kernel
   have f2 := e2
   simp only [List.isEmpty_iff] at f2
   rw [hv, Bool.and_false]
   clear hv
   go_enter Tryz.func63, Tryz.ntmps63
   go_wp2_with fail
   go_ret
   exact ⟨by simp, boxed _ _⟩
  | false =>
   have f2 := e2
   simp only [List.isEmpty_eq_false_iff] at f2
   cases hn : nameB key with
   | false =>
    have HN := Lib.hid hn
    clear hn
    rw [Bool.false_and]
    go_enter Tryz.func63, Tryz.ntmps63
    go_wp2_with fail
    refine (name_any key _ hm).mono ?_
    rintro e w1 ⟨rfl, hb1⟩
    have hb := below_of_alloc (Nat.le_refl _) hb1
    clear hb1
    rw [HN.out]
    go_wp2_with fail
    go_ret
    exact ⟨by simp, hb⟩
   | true =>
    have HN := Lib.hid hn
    clear hn
    rw [Bool.true_and, prep_read]
    cases h0 : decide (readE val = 0) with
    | false =>
     have g0 : (readE val != 0) = true := by simpa using h0
     rw [Bool.false_and]
     have G := Lib.hid h0
     clear h0
     go_enter Tryz.func63, Tryz.ntmps63
     go_wp2_with fail
     refine (name_any key _ hm).mono ?_
     rintro e w1 ⟨rfl, hb1⟩
     have c0 := box_cell hb1 0
     have c1 := box_cell hb1 1
     have c2 := box_cell hb1 2
     have hb := below_of_alloc (Nat.le_refl _) hb1
     clear hb1
     rw [HN.out]
     go_wp2_with fail
     refine (HR.out _ (HT.out.below hb)).mono ?_
     rintro e w2 ⟨rfl, hb2⟩
     replace hb := below_step hb (Nat.le_refl _) hb2
     clear hb2
     unfold St.v
     go_wp2_with fail
     go_ret
     exact ⟨by simp, hb.alloc hb.size _⟩
    | true =>
     have g0 : (readE val != 0) = false := by simpa using h0
     rw [Bool.true_and]
     have G := Lib.hid h0
     clear h0
     obtain ⟨rk, hrk⟩ : ∃ rk, (readS val).k = rk := ⟨_, rfl⟩
     rw [hrk]
     have RK := Lib.hid hrk
     clear hrk
     by_cases h6 : rk = 6
     ·have b6 : (rk != 6) = false := by simp [h6]
      simp only [h6, decide_true, Bool.true_or, if_true]
      clear h6
      go_enter Tryz.func63, Tryz.ntmps63
      go_wp2_with fail
      refine (name_any key _ hm).mono ?_
      rintro e w1 ⟨rfl, hb1⟩
      have c0 := box_cell hb1 0
      have c1 := box_cell hb1 1
      have c2 := box_cell hb1 2
      have hb := below_of_alloc (Nat.le_refl _) hb1
      clear hb1
      rw [HN.out]
      go_wp2_with fail
      refine (HR.out _ (HT.out.below hb)).mono ?_
      rintro e w2 ⟨rfl, hb2⟩
      replace hb := below_step hb (Nat.le_refl _) hb2
      clear hb2
      unfold St.v
      rw [RK.out]
      go_wp2_with fail
      go_ret
      exact ⟨by simp, hb.alloc hb.size _⟩
     have b6 : (rk != 6) = true := by simp [h6]
     by_cases h7 : rk = 7
     ·have b7 : (rk != 7) = false := by simp [h7]
      simp only [h7, decide_true, Bool.true_or, Bool.or_true, if_true]
      clear h6 h7
      go_enter Tryz.func63, Tryz.ntmps63
      go_wp2_with fail
      refine (name_any key _ hm).mono ?_
      rintro e w1 ⟨rfl, hb1⟩
      have c0 := box_cell hb1 0
      have c1 := box_cell hb1 1
      have c2 := box_cell hb1 2
      have hb := below_of_alloc (Nat.le_refl _) hb1
      clear hb1
      rw [HN.out]
      go_wp2_with fail
      refine (HR.out _ (HT.out.below hb)).mono ?_
      rintro e w2 ⟨rfl, hb2⟩
      replace hb := below_step hb (Nat.le_refl _) hb2
      clear hb2
      unfold St.v
      rw [RK.out]
      go_wp2_with fail
      go_ret
      exact ⟨by simp, hb.alloc hb.size _⟩
     have b7 : (rk != 7) = true := by simp [h7]
     by_cases h10 : rk = 10
     ·have b10 : (rk != 10) = false := by simp [h10]
      simp only [h10, decide_true, Bool.or_true, if_true]
      clear h6 h7 h10
      go_enter Tryz.func63, Tryz.ntmps63
      go_wp2_with fail
      refine (name_any key _ hm).mono ?_
      rintro e w1 ⟨rfl, hb1⟩
      have c0 := box_cell hb1 0
      have c1 := box_cell hb1 1
      have c2 := box_cell hb1 2
      have hb := below_of_alloc (Nat.le_refl _) hb1
      clear hb1
      rw [HN.out]
      go_wp2_with fail
      refine (HR.out _ (HT.out.below hb)).mono ?_
      rintro e w2 ⟨rfl, hb2⟩
      replace hb := below_step hb (Nat.le_refl _) hb2
      clear hb2
      unfold St.v
      rw [RK.out]
      go_wp2_with fail
      go_ret
      exact ⟨by simp, hb.alloc hb.size _⟩
     ·have b10 : (rk != 10) = true := by simp [h10]
      simp only [h6, h7, h10, decide_false, Bool.or_false, Bool.false_eq_true, if_false]
      clear h6 h7 h10
      go_enter Tryz.func63, Tryz.ntmps63
      go_wp2_with fail
      refine (name_any key _ hm).mono ?_
      rintro e w1 ⟨rfl, hb1⟩
      have c0 := box_cell hb1 0
      have c1 := box_cell hb1 1
      have c2 := box_cell hb1 2
      have hb := below_of_alloc (Nat.le_refl _) hb1
      clear hb1
      rw [HN.out]
      go_wp2_with fail
      refine (HR.out _ (HT.out.below hb)).mono ?_
      rintro e w2 ⟨rfl, hb2⟩
      replace hb := below_step hb (Nat.le_refl _) hb2
      clear hb2
      unfold St.v
      rw [RK.out]
      go_wp2_with fail
      go_ret
      exact ⟨by simp, hb.alloc hb.size _⟩
theorem check_any (hT : Tabs w) (hm : key.size ≤ maxLen) (hm2 : val.size ≤ maxLen) (hr : k = 11 → ReadOk 79 val) :
  Calls Tryz.prog 63 #[.agg #[.int .i64 k, .string key, .string val]] w fun e w' => e = .returned (.int .i64 (checkE ⟨k, key, val⟩)) ∧ Below w.heap.size w w' := by
 unfold checkE plainE
 by_cases h11 : k = 11
 ·subst h11
  rw [if_pos rfl]
  exact check_prep key val w hT hm (hr rfl)
 rw [if_neg h11]
 by_cases h0 : k < 1 ∨ 11 < k
 ·rw [if_pos h0]
  exact check_kind k key val w h0
 rw [if_neg h0]
 by_cases h6 : k < 6
 ·rw [if_pos h6]
  exact check_low k key val w (by omega) (by omega)
 rw [if_neg h6]
 by_cases h9 : k < 9
 ·simp only [if_pos h9]
  exact check_mid k key val w (by omega) (by omega) hm
 ·simp only [if_neg h9]
  exact check_set k key val w (by omega) hm hm2
end
end Go.Proofs.YtjbnfigpflambacGreatDoor
/-
 DERIVED: THE SHELF's CONTRACTS AT THIS DUMP, IN PLAIN WORDS (tools/lay-plain.mjs out of 'TryzShelf.lean', which tools/lay-shelf.mjs wrote): THE SAME DECLARATIONS UNDER THE SAME NAMES: 'import', 'namespace', 'open', 'def', 'theorem' AND NOTHING ELSE: no command of the shelf's: FOR A HAND-IN. Each laying: the table of numbers ('.._ren') and one theorem, a field a fact of the dump's own or the kernel's comparison; each contract: ONE APPLICATION.
-/
namespace Go.Proofs
open Go.Shelf
def Tryz.lays106_ren : Go.Shelf.Ren := ⟨fun | 106 => 127 | 213 => 143 | 265 => 157 | n => n, fun | 9 => 9 | 3 => 3 | n => n, fun | n => n⟩
theorem Tryz.lays106 : Go.Proofs.Lays.n106 Tryz.prog Tryz.lays106_ren := {
 mixed := by kernel_rfl
 f106 := Tryz.func127.trans (congrArg some (by kernel_rfl))
 f213 := Tryz.func143.trans (congrArg some (by kernel_rfl))
 f265 := Tryz.func157.trans (congrArg some (by kernel_rfl))
 t3 := Tryz.underlying3
 a3 := Tryz.isAgg3
 z3 := Tryz.sizeOf3
 v3 := Tryz.zeroValue3
 t9 := Tryz.underlying9
 a9 := Tryz.isAgg9
 z9 := Tryz.sizeOf9
 v9 := Tryz.zeroValue9 }
open Go.RowKit in
theorem Tryz.strings_Compare (a b : ByteArray) (w : World) :
  Calls Tryz.prog 127 #[.string a, .string b] w fun e w' => e = .returned (.int .i64 (Lib.compareBytes a.data.toList b.data.toList)) ∧ w' = w := Any.strings_Compare Tryz.lays106 a b w
def Tryz.laysM143_ren : Go.Shelf.Ren := ⟨fun | 143 => 59 | 219 => 87 | 217 => 115 | 225 => 116 | 224 => 117 | 267 => 118 | 266 => 139 | 314 => 140 | n => n, fun | 9 => 9 | 3 => 3 | 4 => 4 | 5 => 5 | 46 => 136 | 146 => 166 | 51 => 165 | n => n, fun | 1 => 1 | n => n⟩
theorem Tryz.laysM143 : Go.Proofs.LaysM.n143 Tryz.prog Tryz.laysM143_ren := {
 mixed := by kernel_rfl
 f143 := Tryz.func59.trans (congrArg some (by kernel_rfl))
 f217 := Tryz.func115.trans (congrArg some (by kernel_rfl))
 f219 := Tryz.func87.trans (congrArg some (by kernel_rfl))
 f224 := Tryz.func117.trans (congrArg some (by kernel_rfl))
 f225 := Tryz.func116.trans (congrArg some (by kernel_rfl))
 f266 := Tryz.func139.trans (congrArg some (by kernel_rfl))
 f267 := Tryz.func118.trans (congrArg some (by kernel_rfl))
 f314 := Tryz.func140.trans (congrArg some (by kernel_rfl))
 t3 := Tryz.underlying3
 a3 := Tryz.isAgg3
 z3 := Tryz.sizeOf3
 v3 := Tryz.zeroValue3
 t4 := Tryz.underlying4
 a4 := Tryz.isAgg4
 z4 := Tryz.sizeOf4
 v4 := Tryz.zeroValue4
 t5 := Tryz.underlying5
 a5 := Tryz.isAgg5
 z5 := Tryz.sizeOf5
 v5 := Tryz.zeroValue5
 t9 := Tryz.underlying9
 a9 := Tryz.isAgg9
 z9 := Tryz.sizeOf9
 v9 := Tryz.zeroValue9
 t46 := Tryz.underlying136
 a46 := Tryz.isAgg136
 z46 := Tryz.sizeOf136
 v46 := Tryz.zeroValue136
 t51 := Tryz.underlying165
 a51 := Tryz.isAgg165
 z51 := Tryz.sizeOf165
 v51 := Tryz.zeroValue165
 t146 := Tryz.underlying166
 a146 := Tryz.isAgg166
 z146 := Tryz.sizeOf166
 v146 := Tryz.zeroValue166
 g1 := by kernel_rfl
 i3 := by kernel_rfl
 i4 := by kernel_rfl
 i5 := by kernel_rfl
 i9 := by kernel_rfl
 i46 := by kernel_rfl
 i51 := by kernel_rfl
 i146 := by kernel_rfl
 m1 := by kernel_rfl
 s1_3 := fun w h => Go.Proofs.cell_of_shapedOpen_int (zero := #[.int .i64 0]) (t := 3) h (of_decide_eq_true (by kernel_rfl)) (by kernel_rfl) rfl (by kernel_rfl) (by kernel_rfl) Tryz.underlying3 }
def Tryz.lays147_ren : Go.Shelf.Ren := ⟨fun | 147 => 105 | 221 => 130 | 268 => 147 | 138 => 148 | 143 => 59 | 195 => 160 | 197 => 161 | 218 => 162 | 219 => 87 | 260 => 164 | 217 => 115 | 225 => 116 | 224 => 117 | 267 => 118 | 266 => 139 | 314 => 140 | n => n, fun | 9 => 9 | 3 => 3 | 31 => 25 | 4 => 4 | 0 => 0 | 105 => 213 | 21 => 21 | 5 => 5 | 46 => 136 | 119 => 218 | 139 => 221 | 138 => 220 | 146 => 166 | 51 => 165 | n => n, fun | 1 => 1 | 3 => 5 | 4 => 6 | n => n⟩
theorem Tryz.lays147 : Go.Proofs.Lays.n147 Tryz.prog Tryz.lays147_ren := {
 mixed := by kernel_rfl
 f138 := Tryz.func148.trans (congrArg some (by kernel_rfl))
 f143 := Tryz.func59.trans (congrArg some (by kernel_rfl))
 f147 := Tryz.func105.trans (congrArg some (by kernel_rfl))
 f195 := Tryz.func160.trans (congrArg some (by kernel_rfl))
 f197 := Tryz.func161.trans (congrArg some (by kernel_rfl))
 f217 := Tryz.func115.trans (congrArg some (by kernel_rfl))
 f218 := Tryz.func162.trans (congrArg some (by kernel_rfl))
 f219 := Tryz.func87.trans (congrArg some (by kernel_rfl))
 f221 := Tryz.func130.trans (congrArg some (by kernel_rfl))
 f224 := Tryz.func117.trans (congrArg some (by kernel_rfl))
 f225 := Tryz.func116.trans (congrArg some (by kernel_rfl))
 f260 := Tryz.func164.trans (congrArg some (by kernel_rfl))
 f266 := Tryz.func139.trans (congrArg some (by kernel_rfl))
 f267 := Tryz.func118.trans (congrArg some (by kernel_rfl))
 f268 := Tryz.func147.trans (congrArg some (by kernel_rfl))
 f314 := Tryz.func140.trans (congrArg some (by kernel_rfl))
 t0 := Tryz.underlying0
 a0 := Tryz.isAgg0
 z0 := Tryz.sizeOf0
 v0 := Tryz.zeroValue0
 t3 := Tryz.underlying3
 a3 := Tryz.isAgg3
 z3 := Tryz.sizeOf3
 v3 := Tryz.zeroValue3
 t4 := Tryz.underlying4
 a4 := Tryz.isAgg4
 z4 := Tryz.sizeOf4
 v4 := Tryz.zeroValue4
 t5 := Tryz.underlying5
 a5 := Tryz.isAgg5
 z5 := Tryz.sizeOf5
 v5 := Tryz.zeroValue5
 t9 := Tryz.underlying9
 a9 := Tryz.isAgg9
 z9 := Tryz.sizeOf9
 v9 := Tryz.zeroValue9
 t21 := Tryz.underlying21
 a21 := Tryz.isAgg21
 z21 := Tryz.sizeOf21
 v21 := Tryz.zeroValue21
 t31 := Tryz.underlying25
 a31 := Tryz.isAgg25
 z31 := Tryz.sizeOf25
 v31 := Tryz.zeroValue25
 t46 := Tryz.underlying136
 a46 := Tryz.isAgg136
 z46 := Tryz.sizeOf136
 v46 := Tryz.zeroValue136
 t51 := Tryz.underlying165
 a51 := Tryz.isAgg165
 z51 := Tryz.sizeOf165
 v51 := Tryz.zeroValue165
 t105 := Tryz.underlying213
 a105 := Tryz.isAgg213
 z105 := Tryz.sizeOf213
 v105 := Tryz.zeroValue213
 t119 := Tryz.underlying218
 a119 := Tryz.isAgg218
 z119 := Tryz.sizeOf218
 t138 := Tryz.underlying220
 a138 := Tryz.isAgg220
 z138 := Tryz.sizeOf220
 v138 := Tryz.zeroValue220
 t139 := Tryz.underlying221
 a139 := Tryz.isAgg221
 z139 := Tryz.sizeOf221
 v139 := Tryz.zeroValue221
 t146 := Tryz.underlying166
 a146 := Tryz.isAgg166
 z146 := Tryz.sizeOf166
 v146 := Tryz.zeroValue166
 g1 := by kernel_rfl
 g3 := by kernel_rfl
 g4 := by kernel_rfl }
open Go.RowKit Go.Lib in
theorem Tryz.strings_SplitN (s sep : ByteArray) (n : Nat) (m : Int) (w : World) (hs : s.size < 4294967281) (hm : w.cell? ⟨1, 0, none⟩ = some (.int .i64 m)) (h1 : 1 ≤ sep.size) (hn : 1 ≤ n) (hn63 : n ≤ 9223372036854775807) :
  Calls Tryz.prog 105 #[.string s, .string sep, .int .i64 n] w fun e w' =>
   e = .returned (.slice (some ⟨w.heap.size, 0, none⟩) (Lib.splitB sep 0 (min n (s.size + 1) - 1) s).length (min n (s.size + 1))) ∧ w' = w.alloc (.cells (Lib.cellsOf (Lib.splitB sep 0 (min n (s.size + 1) - 1) s) (min n (s.size + 1))) 9) := Any.strings_SplitN Tryz.lays147 (by kernel_rfl) s sep n m w hs hm h1 hn hn63
def Tryz.lays212_ren : Go.Shelf.Ren := ⟨fun | 212 => 68 | 263 => 100 | 264 => 101 | n => n, fun | 46 => 136 | 51 => 165 | 146 => 166 | 53 => 168 | 148 => 169 | n => n, fun | n => n⟩
theorem Tryz.lays212 : Go.Proofs.Lays.n212 Tryz.prog Tryz.lays212_ren := {
 mixed := by kernel_rfl
 f212 := Tryz.func68.trans (congrArg some (by kernel_rfl))
 f263 := Tryz.func100.trans (congrArg some (by kernel_rfl))
 f264 := Tryz.func101.trans (congrArg some (by kernel_rfl))
 t46 := Tryz.underlying136
 a46 := Tryz.isAgg136
 z46 := Tryz.sizeOf136
 v46 := Tryz.zeroValue136
 t51 := Tryz.underlying165
 a51 := Tryz.isAgg165
 z51 := Tryz.sizeOf165
 v51 := Tryz.zeroValue165
 t53 := Tryz.underlying168
 a53 := Tryz.isAgg168
 z53 := Tryz.sizeOf168
 v53 := Tryz.zeroValue168
 t146 := Tryz.underlying166
 a146 := Tryz.isAgg166
 z146 := Tryz.sizeOf166
 v146 := Tryz.zeroValue166
 t148 := Tryz.underlying169
 a148 := Tryz.isAgg169
 z148 := Tryz.sizeOf169
 v148 := Tryz.zeroValue169 }
open Go.RowKit Go.Lib in
theorem Tryz.bits_Mul (x y : Nat) (hx : x < 18446744073709551616) (hy : y < 18446744073709551616) (w : World) :
  Calls Tryz.prog 68 #[.int .u64 x, .int .u64 y] w fun e w' => e = .returned (.tuple #[.int .u64 ((x * y / 18446744073709551616 : Nat) : Int), .int .u64 ((x * y % 18446744073709551616 : Nat) : Int)]) ∧ w' = w := Any.bits_Mul Tryz.lays212 x y hx hy w
def Tryz.lays108_ren : Go.Shelf.Ren := ⟨fun | 108 => 77 | n => n, fun | 28 => 87 | 3 => 3 | 0 => 0 | 4 => 4 | n => n, fun | n => n⟩
theorem Tryz.lays108 : Go.Proofs.Lays.n108 Tryz.prog Tryz.lays108_ren := {
 mixed := by kernel_rfl
 f108 := Tryz.func77.trans (congrArg some (by kernel_rfl))
 t0 := Tryz.underlying0
 a0 := Tryz.isAgg0
 z0 := Tryz.sizeOf0
 v0 := Tryz.zeroValue0
 t3 := Tryz.underlying3
 a3 := Tryz.isAgg3
 z3 := Tryz.sizeOf3
 v3 := Tryz.zeroValue3
 t4 := Tryz.underlying4
 a4 := Tryz.isAgg4
 z4 := Tryz.sizeOf4
 v4 := Tryz.zeroValue4
 t28 := Tryz.underlying87
 a28 := Tryz.isAgg87
 z28 := Tryz.sizeOf87
 v28 := Tryz.zeroValue87 }
open Go.Lib in
theorem Tryz.slices_Index_int (b off n c : Nat) (zs : List Int) (x : Int) (w : World) (hz : n ≤ zs.length) (hbig : n ≤ 9223372036854775807) (hc : ∀ j, j < zs.length → w.cell? ⟨b, off + j, none⟩ = some (.int .i64 (zs.getD j 0))) :
  Calls Tryz.prog 77 #[.slice (some ⟨b, off, none⟩) n c, .int .i64 x] w fun e w' => e = .returned (.int .i64 (Lib.idxOf (zs.take n) x)) ∧ w' = w := Any.slices_Index_int Tryz.lays108 b off n c zs x w hz hbig hc
open Go.Lib in
theorem Tryz.slices_Index_int_empty (a : Option Addr) (c : Nat) (x : Int) (w : World) :
  Calls Tryz.prog 77 #[.slice a 0 c, .int .i64 x] w fun e w' => e = .returned (.int .i64 (Lib.idxOf [] x)) ∧ w' = w := Any.slices_Index_int_empty Tryz.lays108 a c x w
def Tryz.lays107_ren : Go.Shelf.Ren := ⟨fun | 107 => 76 | 108 => 77 | n => n, fun | 28 => 87 | 3 => 3 | 4 => 4 | 0 => 0 | n => n, fun | n => n⟩
theorem Tryz.lays107 : Go.Proofs.Lays.n107 Tryz.prog Tryz.lays107_ren := {
 mixed := by kernel_rfl
 f107 := Tryz.func76.trans (congrArg some (by kernel_rfl))
 f108 := Tryz.func77.trans (congrArg some (by kernel_rfl))
 t0 := Tryz.underlying0
 a0 := Tryz.isAgg0
 z0 := Tryz.sizeOf0
 v0 := Tryz.zeroValue0
 t3 := Tryz.underlying3
 a3 := Tryz.isAgg3
 z3 := Tryz.sizeOf3
 v3 := Tryz.zeroValue3
 t4 := Tryz.underlying4
 a4 := Tryz.isAgg4
 z4 := Tryz.sizeOf4
 v4 := Tryz.zeroValue4
 t28 := Tryz.underlying87
 a28 := Tryz.isAgg87
 z28 := Tryz.sizeOf87
 v28 := Tryz.zeroValue87 }
open Go.Lib in
theorem Tryz.slices_Contains_int (b off n c : Nat) (zs : List Int) (x : Int) (w : World) (hz : n ≤ zs.length) (hbig : n ≤ 9223372036854775807) (hc : ∀ j, j < zs.length → w.cell? ⟨b, off + j, none⟩ = some (.int .i64 (zs.getD j 0))) :
  Calls Tryz.prog 76 #[.slice (some ⟨b, off, none⟩) n c, .int .i64 x] w fun e w' => e = .returned (.bool ((zs.take n).contains x)) ∧ w' = w := Any.slices_Contains_int Tryz.lays107 b off n c zs x w hz hbig hc
open Go.Lib in
theorem Tryz.slices_Contains_int_empty (a : Option Addr) (c : Nat) (x : Int) (w : World) :
  Calls Tryz.prog 76 #[.slice a 0 c, .int .i64 x] w fun e w' => e = .returned (.bool false) ∧ w' = w := Any.slices_Contains_int_empty Tryz.lays107 a c x w
def Tryz.lays109_ren : Go.Shelf.Ren := ⟨fun | 109 => 106 | n => n, fun | 31 => 25 | 9 => 9 | 3 => 3 | 0 => 0 | 4 => 4 | n => n, fun | n => n⟩
theorem Tryz.lays109 : Go.Proofs.Lays.n109 Tryz.prog Tryz.lays109_ren := {
 mixed := by kernel_rfl
 f109 := Tryz.func106.trans (congrArg some (by kernel_rfl))
 t0 := Tryz.underlying0
 a0 := Tryz.isAgg0
 z0 := Tryz.sizeOf0
 v0 := Tryz.zeroValue0
 t3 := Tryz.underlying3
 a3 := Tryz.isAgg3
 z3 := Tryz.sizeOf3
 v3 := Tryz.zeroValue3
 t4 := Tryz.underlying4
 a4 := Tryz.isAgg4
 z4 := Tryz.sizeOf4
 v4 := Tryz.zeroValue4
 t9 := Tryz.underlying9
 a9 := Tryz.isAgg9
 z9 := Tryz.sizeOf9
 v9 := Tryz.zeroValue9
 t31 := Tryz.underlying25
 a31 := Tryz.isAgg25
 z31 := Tryz.sizeOf25
 v31 := Tryz.zeroValue25 }
open Go.Lib in
theorem Tryz.slices_Index_string (b off n c : Nat) (zs : List ByteArray) (x : ByteArray) (w : World) (hz : n ≤ zs.length) (hbig : n ≤ 9223372036854775807) (hc : ∀ j, j < zs.length → w.cell? ⟨b, off + j, none⟩ = some (.string (zs.getD j ByteArray.empty))) :
  Calls Tryz.prog 106 #[.slice (some ⟨b, off, none⟩) n c, .string x] w fun e w' => e = .returned (.int .i64 (Lib.idxOfS (zs.take n) x)) ∧ w' = w := Any.slices_Index_string Tryz.lays109 b off n c zs x w hz hbig hc
end Go.Proofs
