/- say.Name and the reference's NameMay: what each returns. What the package-level variables hold: the words of statements, and the library's MaxLen. say.Check: what it returns, given what Read returns for its value. -/
import Derived.Test.YtjbnfigpflambabDoorJ00
import Derived.Test.YtjbnfigpflambabDoorJ07
import Derived.Lib.ConvBytes
import Derived.Lib.LaidTab
/- say.Name and the reference's NameMay: what each returns. -/
namespace Go.Proofs.YtjbnfigpflambabDoor
open Go.ChangeShapes Go.WideShapes Go.ChangeAt Go.RowKit
theorem name1_any (c : UInt8) (w : World) : Calls Tryd.prog 68 #[.int .u8 (c.toNat : Int)] w fun e w' => e = .returned (.bool (!lowC c)) ∧ w = w' := by
 unfold lowC
 by_cases h1 : c.toNat < 97
 ·have d : decide (97 ≤ c.toNat) = false := by simpa using h1
  have g : (c.toNat : Int) < 97 := by omega
  go_enter Tryd.func68, Tryd.ntmps68
  go_wp2
  go_ret
  exact ⟨by simp [d], rfl⟩
 ·have d : decide (97 ≤ c.toNat) = true := by simpa using h1
  by_cases h2 : 122 < c.toNat
  ·have d2 : decide (c.toNat ≤ 122) = false := by simpa using h2
   have g : 122 < (c.toNat : Int) := by omega
   have g' : ¬ (c.toNat : Int) < 97 := by omega
   go_enter Tryd.func68, Tryd.ntmps68
   go_wp2
   go_ret
   exact ⟨by simp, rfl⟩
  ·have d2 : decide (c.toNat ≤ 122) = true := by simpa using h2
   have g : ¬ 122 < (c.toNat : Int) := by omega
   have g' : ¬ (c.toNat : Int) < 97 := by omega
   go_enter Tryd.func68, Tryd.ntmps68
   go_wp2
   go_ret
   exact ⟨by simp, rfl⟩
/-- where the first byte is that p takes; -1: nowhere -/
def firstOf (p : UInt8 → Bool) (l : List UInt8) : Int := match l.findIdx? p with | some i => (i : Int) | none => -1
theorem firstOf_at {p : UInt8 → Bool} {l : List UInt8} {k : Nat} (hk : k < l.length) (hb : ∀ j, (h : j < l.length) → j < k → p l[j] = false) (hp : p l[k] = true) : firstOf p l = k := by
 have h : l.findIdx? p = some k := by
  rw [List.findIdx?_eq_some_iff_getElem]
  exact ⟨hk, hp, fun j hj => by rw [hb j (by omega) hj]; simp⟩
 simp [firstOf, h]
theorem firstOf_no {p : UInt8 → Bool} {l : List UInt8} (hb : ∀ j, (h : j < l.length) → p l[j] = false) : firstOf p l = -1 := by
 have h : l.findIdx? p = none := by
  rw [List.findIdx?_eq_none_iff]
  intro x hx
  obtain ⟨j, hj, rfl⟩ := List.getElem_of_mem hx
  exact hb j hj
 simp [firstOf, h]
theorem firstOf_nonneg {p : UInt8 → Bool} {l : List UInt8} : decide (0 ≤ firstOf p l) = l.any p := by
 unfold firstOf
 cases h : l.findIdx? p with
 | none =>
  rw [List.findIdx?_eq_none_iff] at h
  simp
  intro x hx
  rw [h x hx]
 | some i =>
  rw [List.findIdx?_eq_some_iff_getElem] at h
  obtain ⟨hi, hp, _⟩ := h
  simp
  exact ⟨_, List.getElem_mem hi, hp⟩
theorem snoc_no {p : UInt8 → Bool} {l : List UInt8} {k : Nat} (hb : ∀ j, (h : j < l.length) → j < k → p l[j] = false) (hk : k < l.length) (hp : p l[k] = false) : ∀ j, (h : j < l.length) → j < k + 1 → p l[j] = false := by
 intro j h hj
 rcases Nat.lt_or_ge j k with h1 | h1
 ·exact hb j h h1
 ·obtain rfl : j = k := by omega
  exact hp
/-- all before are none -/
def NoneBefore (p : UInt8 → Bool) (l : List UInt8) (k : Nat) : Prop := ∀ j, (h : j < l.length) → j < k → p l[j] = false
theorem indexFunc_any (f : Nat) (p : UInt8 → Bool) (hcf : ∀ (c : Int) (w : World), (callFunc f #[.int .u8 c]).run Tryd.prog w = .ok (.enter f #[.int .u8 c]) w)
  (hf : ∀ (c : UInt8) (w : World), Calls Tryd.prog f #[.int .u8 (c.toNat : Int)] w fun e w' => e = .returned (.bool (p c)) ∧ w = w')
  (l : List UInt8) (b cap : Nat) (w : World) (hl : l.length ≤ 1000) (hc : ∀ i, (h : i < l.length) → w.cell? ⟨b, i, none⟩ = some (.int .u8 (l[i].toNat : Int))) :
  Calls Tryd.prog 88 #[.slice (some ⟨b, 0, none⟩) l.length cap, .func (.func f) #[] #[]] w fun e w' => e = .returned (.int .i64 (firstOf p l)) ∧ w = w' := by
 have HF := Lib.hid hf
 have HC := Lib.hid hc
 clear hf hc
 go_enter Tryd.func88, Tryd.ntmps88
 go_wp2_with fail
 go_loop [8] (fun i => ∃ k : Nat, k ≤ l.length ∧ i = .int .i64 k ∧ NoneBefore p l k) (fun i => l.length - (intOf i).toNat)
 case atStart => exact ⟨0, Nat.zero_le _, rfl, fun j _ hj => absurd hj (by omega)⟩
 case round =>
  obtain ⟨k, hk, rfl, hn⟩ := hrel
  by_cases hlt : k < l.length
  ·have hcell := HC.out k hlt
   obtain ⟨c, ec⟩ : ∃ c, l[k]'hlt = c := ⟨_, rfl⟩
   rw [ec] at hcell
   have EC := Lib.hid ec
   clear ec
   cases hp : p c with
   | true =>
    have HN : firstOf p l = k := firstOf_at hlt hn (by rw [EC.out]; exact hp)
    have HN' := Lib.hid HN
    have HP := Lib.hid hp
    clear HN hp hn
    go_wp2_with fail
    refine (HF.out c _).mono ?_
    rintro e w' ⟨rfl, rfl⟩
    have hp := HP.out
    go_wp2_with fail
    go_ret
    exact ⟨by rw [HN'.out]; simp, rfl⟩
   | false =>
    have HN : NoneBefore p l (k + 1) := snoc_no hn hlt (by rw [EC.out]; exact hp)
    have HN' := Lib.hid HN
    have HP := Lib.hid hp
    clear HN hp hn
    go_wp2_with fail
    refine (HF.out c _).mono ?_
    rintro e w' ⟨rfl, rfl⟩
    have hp := HP.out
    go_wp2_with fail
    go_round
    case rel => exact ⟨k + 1, by omega, by go_num, HN'.out⟩
    case measure => simp [intOf]; omega
  ·have HN : firstOf p l = -1 := firstOf_no fun j h => hn j h (by omega)
   have HN' := Lib.hid HN
   clear HN hn
   go_wp2_with fail
   go_ret
   exact ⟨by rw [HN'.out]; simp, rfl⟩
theorem containsFunc_any (f : Nat) (p : UInt8 → Bool) (hcf : ∀ (c : Int) (w : World), (callFunc f #[.int .u8 c]).run Tryd.prog w = .ok (.enter f #[.int .u8 c]) w)
  (hf : ∀ (c : UInt8) (w : World), Calls Tryd.prog f #[.int .u8 (c.toNat : Int)] w fun e w' => e = .returned (.bool (p c)) ∧ w = w')
  (l : List UInt8) (b cap : Nat) (w : World) (hl : l.length ≤ 1000) (hc : ∀ i, (h : i < l.length) → w.cell? ⟨b, i, none⟩ = some (.int .u8 (l[i].toNat : Int))) :
  Calls Tryd.prog 67 #[.slice (some ⟨b, 0, none⟩) l.length cap, .func (.func f) #[] #[]] w fun e w' => e = .returned (.bool (l.any p)) ∧ w = w' := by
 have HF := Lib.hid hf
 have HC := Lib.hid hc
 have HCF := Lib.hid hcf
 clear hf hc hcf
 go_enter Tryd.func67, Tryd.ntmps67
 go_wp2_with fail
 refine (indexFunc_any f p HCF.out HF.out l b cap _ hl HC.out).mono ?_
 rintro e w' ⟨rfl, rfl⟩
 go_wp2_with fail
 go_ret
 exact ⟨by simp [← firstOf_nonneg], rfl⟩
theorem call1 (c : Int) (w : World) : (callFunc 68 #[.int .u8 c]).run Tryd.prog w = .ok (.enter 68 #[.int .u8 c]) w := by
 go_simp
theorem bytes_below (w : World) (s : ByteArray) : Below w.heap.size w (Lib.bytesWorld w 5 s) :=
 ⟨rfl, rfl, rfl, by rw [Lib.bytesWorld_size]; omega, fun k hk => Lib.bytesWorld_at_old w _ s k hk⟩
theorem name_any (s : ByteArray) (w : World) (hm : s.size ≤ maxLen) : Calls Tryd.prog 47 #[.string s] w fun e w' => e = .returned (.bool (nameB s)) ∧ Below w.heap.size w w' := by
 unfold maxLen at hm
 by_cases h0 : s.toList = []
 ·have hz := size_of_nil h0
  have e : nameB s = false := by unfold nameB; rw [hz]; simp
  have hi : s.toList.isEmpty = true := by simp [h0]
  rw [e]
  clear e
  go_enter Tryd.func47, Tryd.ntmps47
  go_wp2
  go_ret
  exact ⟨rfl, Below.refl _ _⟩
 ·have hi : s.toList.isEmpty = false := by simpa using h0
  by_cases h8 : 8 < s.size
  ·have e : nameB s = false := by unfold nameB; simp; omega
   have hd : decide ((s.size : Int) ≤ 8) = false := by simp; omega
   rw [e]
   clear e
   go_enter Tryd.func47, Tryd.ntmps47
   go_wp2
   go_ret
   exact ⟨rfl, Below.refl _ _⟩
  ·have hd : decide ((s.size : Int) ≤ 8) = true := by simp; omega
   have hcv := fun (w : World) => Lib.run_convert_string_bytes (P := Tryd.prog) w 9 80 5 s Tryd.underlying9 Tryd.underlying80 Tryd.underlying5
   have hl : s.data.toList.length = s.size := by simp
   have hz : 1 ≤ s.size := by
    rcases Nat.eq_zero_or_pos s.size with h | h
    ·refine absurd ?_ h0
     rw [toList_data]
     exact List.eq_nil_of_length_eq_zero (by rw [hl, h])
    ·exact h
   have e : nameB s = !s.data.toList.any fun c => !lowC c := by
    unfold nameB
    rw [List.all_eq_not_any_not]
    simp only [decide_eq_true (show 1 ≤ s.size from hz), decide_eq_true (show s.size ≤ 8 by omega), Bool.true_and]
   rw [e]
   have H := containsFunc_any 68 (fun c => !lowC c) call1 name1_any s.data.toList w.heap.size (grownCap w s.size 0 5) (Lib.bytesWorld w 5 s) (by rw [hl]; omega) (fun i h => by
    rw [Lib.bytesWorld_cell w _ s i (by rw [← hl]; exact h)]
    have hi : i < s.data.size := by simpa using h
    simp [List.getD, Array.getElem?_eq_getElem hi])
   rw [hl] at H
   have H' := Lib.hid H
   clear H e hl h0
   go_enter Tryd.func47, Tryd.ntmps47
   go_wp2_with fail
   refine H'.out.mono ?_
   rintro e w' ⟨rfl, rfl⟩
   go_wp2_with fail
   go_ret
   exact ⟨by simp, bytes_below w s⟩
theorem value1_any (c : UInt8) (w : World) : Calls Tryd.prog 69 #[.int .u8 (c.toNat : Int)] w fun e w' => e = .returned (.bool (!seenC c)) ∧ w = w' := by
 unfold seenC
 by_cases h1 : c.toNat ≤ 32
 ·have d : decide (33 ≤ c.toNat) = false := by simp; omega
  have g : (c.toNat : Int) ≤ 32 := by omega
  go_enter Tryd.func69, Tryd.ntmps69
  go_wp2
  go_ret
  exact ⟨by simp [d], rfl⟩
 ·have d : decide (33 ≤ c.toNat) = true := by simp; omega
  by_cases h2 : 126 < c.toNat
  ·have d2 : decide (c.toNat ≤ 126) = false := by simpa using h2
   have g : 126 < (c.toNat : Int) := by omega
   have g' : ¬ (c.toNat : Int) ≤ 32 := by omega
   go_enter Tryd.func69, Tryd.ntmps69
   go_wp2
   go_ret
   exact ⟨by simp, rfl⟩
  ·have d2 : decide (c.toNat ≤ 126) = true := by simpa using h2
   have g : ¬ 126 < (c.toNat : Int) := by omega
   have g' : ¬ (c.toNat : Int) ≤ 32 := by omega
   go_enter Tryd.func69, Tryd.ntmps69
   go_wp2
   go_ret
   exact ⟨by simp, rfl⟩
theorem call2 (c : Int) (w : World) : (callFunc 69 #[.int .u8 c]).run Tryd.prog w = .ok (.enter 69 #[.int .u8 c]) w := by
 go_simp
theorem value_any (s : ByteArray) (w : World) (hm : s.size ≤ maxLen) : Calls Tryd.prog 48 #[.string s] w fun e w' => e = .returned (.bool (valueB s)) ∧ Below w.heap.size w w' := by
 unfold maxLen at hm
 by_cases h0 : s.toList = []
 ·have hz := size_of_nil h0
  have e : valueB s = false := by unfold valueB; rw [hz]; simp
  have hi : s.toList.isEmpty = true := by simp [h0]
  rw [e]
  clear e
  go_enter Tryd.func48, Tryd.ntmps48
  go_wp2
  go_ret
  exact ⟨rfl, Below.refl _ _⟩
 ·have hi : s.toList.isEmpty = false := by simpa using h0
  by_cases h20 : 20 < s.size
  ·have e : valueB s = false := by unfold valueB; simp; omega
   have hd : decide ((s.size : Int) ≤ 20) = false := by simp; omega
   rw [e]
   clear e
   go_enter Tryd.func48, Tryd.ntmps48
   go_wp2
   go_ret
   exact ⟨rfl, Below.refl _ _⟩
  ·have hd : decide ((s.size : Int) ≤ 20) = true := by simp; omega
   have hcv := fun (w : World) => Lib.run_convert_string_bytes (P := Tryd.prog) w 9 80 5 s Tryd.underlying9 Tryd.underlying80 Tryd.underlying5
   have hl : s.data.toList.length = s.size := by simp
   have hz : 1 ≤ s.size := by
    rcases Nat.eq_zero_or_pos s.size with h | h
    ·refine absurd ?_ h0
     rw [toList_data]
     exact List.eq_nil_of_length_eq_zero (by rw [hl, h])
    ·exact h
   have e : valueB s = !s.data.toList.any fun c => !seenC c := by
    unfold valueB
    rw [List.all_eq_not_any_not]
    simp only [decide_eq_true (show 1 ≤ s.size from hz), decide_eq_true (show s.size ≤ 20 by omega), Bool.true_and]
   rw [e]
   have H := containsFunc_any 69 (fun c => !seenC c) call2 value1_any s.data.toList w.heap.size (grownCap w s.size 0 5) (Lib.bytesWorld w 5 s) (by rw [hl]; omega) (fun i h => by
    rw [Lib.bytesWorld_cell w _ s i (by rw [← hl]; exact h)]
    have hi : i < s.data.size := by simpa using h
    simp [List.getD, Array.getElem?_eq_getElem hi])
   rw [hl] at H
   have H' := Lib.hid H
   clear H e hl h0
   go_enter Tryd.func48, Tryd.ntmps48
   go_wp2_with fail
   refine H'.out.mono ?_
   rintro e w' ⟨rfl, rfl⟩
   go_wp2_with fail
   go_ret
   exact ⟨by simp, bytes_below w s⟩
/-- the bytes before k are all low -/
def LowBefore (s : ByteArray) (k : Nat) : Prop := ∀ j, (h : j < s.size) → j < k → lowC s[j] = true
theorem all_low {s : ByteArray} : s.data.toList.all lowC = true ↔ LowBefore s s.size := by
 rw [List.all_eq_true]
 constructor
 ·intro h j hj _
  have hj' : j < s.data.toList.length := by simpa using hj
  have hm := h _ (List.getElem_mem hj')
  simp only [Array.getElem_toList] at hm
  exact hm
 ·intro h x hx
  obtain ⟨j, hj, rfl⟩ := List.getElem_of_mem hx
  have hj' : j < s.size := by simpa using hj
  exact h j hj' hj'
theorem nameMay_any (s : ByteArray) (w : World) (hm : s.size ≤ maxLen) : Calls Tryd.prog 55 #[.string s] w fun e w' => e = .returned (.bool (nameB s)) ∧ w = w' := by
 unfold maxLen at hm
 go_enter Tryd.func55, Tryd.ntmps55
 go_wp2_with fail
 go_loop [3] (fun i => ∃ k : Nat, k ≤ s.size ∧ i = .int .i64 k ∧ LowBefore s k) (fun i => s.size - (intOf i).toNat)
 case atStart => exact ⟨0, Nat.zero_le _, rfl, fun j _ hj => absurd hj (by omega)⟩
 case round =>
  obtain ⟨k, hk, rfl, hn⟩ := hrel
  by_cases hlt : k < s.size
  ·obtain ⟨c, ec⟩ : ∃ c, s[k]'hlt = c := ⟨_, rfl⟩
   have EC := Lib.hid ec
   clear ec
   have hc := c.toNat_lt
   have hlc : lowC c = (decide (97 ≤ c.toNat) && decide (c.toNat ≤ 122)) := rfl
   cases hp : lowC c with
   | true =>
    have HN : LowBefore s (k + 1) := by
     intro j h hj
     rcases Nat.lt_or_ge j k with h1 | h1
     ·exact hn j h h1
     ·obtain rfl : j = k := by omega
      rw [EC.out]
      exact hp
    rw [hlc] at hp
    simp only [Bool.and_eq_true, decide_eq_true_eq] at hp
    obtain ⟨g1, g2⟩ := hp
    have HN' := Lib.hid HN
    clear HN hn hlc
    have hek := EC.out
    go_wp2_with fail
    refine (in_yes _ _ _ _ (by omega) (by omega)).mono ?_
    rintro e w' ⟨rfl, rfl⟩
    clear hek
    go_wp2_with fail
    go_round
    case rel => exact ⟨k + 1, by omega, by go_num, HN'.out⟩
    case measure => simp [intOf]; omega
   | false =>
    have HB : nameB s = false := by
     unfold nameB
     cases ha : s.data.toList.all lowC with
     | false => simp
     | true =>
      have := all_low.1 ha k hlt hlt
      rw [EC.out, hp] at this
      cases this
    rw [hlc] at hp
    simp only [Bool.and_eq_false_iff, decide_eq_false_iff_not, Nat.not_le] at hp
    have HB' := Lib.hid HB
    have HP := Lib.hid hp
    clear HB hn hlc hp
    have hek := EC.out
    go_wp2_with fail
    refine (in_no _ _ _ _ (by have := HP.out; omega)).mono ?_
    rintro e w' ⟨rfl, rfl⟩
    clear hek
    go_wp2_with fail
    go_ret
    exact ⟨by rw [HB'.out]; simp, rfl⟩
  ·obtain rfl : k = s.size := by omega
   have ha := all_low.2 hn
   have HB : nameB s = (decide (1 ≤ s.size) && decide (s.size ≤ 8)) := by unfold nameB; rw [ha]; simp
   have HB' := Lib.hid HB
   clear HB ha hn
   by_cases hy : 1 ≤ s.size ∧ s.size ≤ 8
   ·obtain ⟨y1, y2⟩ := hy
    go_wp2_with fail
    refine (in_yes _ _ _ _ (by omega) (by omega)).mono ?_
    rintro e w' ⟨rfl, rfl⟩
    go_wp2_with fail
    go_ret
    exact ⟨by rw [HB'.out]; simp; omega, rfl⟩
   ·have HY := Lib.hid hy
    clear hy
    go_wp2_with fail
    refine (in_no _ _ _ _ (by have := HY.out; omega)).mono ?_
    rintro e w' ⟨rfl, rfl⟩
    go_wp2_with fail
    go_ret
    exact ⟨by rw [HB'.out]; have := HY.out; simp; omega, rfl⟩
/-- the bytes before k are all low -/
def SeenBefore (s : ByteArray) (k : Nat) : Prop := ∀ j, (h : j < s.size) → j < k → seenC s[j] = true
theorem all_seen {s : ByteArray} : s.data.toList.all seenC = true ↔ SeenBefore s s.size := by
 rw [List.all_eq_true]
 constructor
 ·intro h j hj _
  have hj' : j < s.data.toList.length := by simpa using hj
  have hm := h _ (List.getElem_mem hj')
  simp only [Array.getElem_toList] at hm
  exact hm
 ·intro h x hx
  obtain ⟨j, hj, rfl⟩ := List.getElem_of_mem hx
  have hj' : j < s.size := by simpa using hj
  exact h j hj' hj'
theorem valueMay_any (s : ByteArray) (w : World) (hm : s.size ≤ maxLen) : Calls Tryd.prog 56 #[.string s] w fun e w' => e = .returned (.bool (valueB s)) ∧ w = w' := by
 unfold maxLen at hm
 go_enter Tryd.func56, Tryd.ntmps56
 go_wp2_with fail
 go_loop [3] (fun i => ∃ k : Nat, k ≤ s.size ∧ i = .int .i64 k ∧ SeenBefore s k) (fun i => s.size - (intOf i).toNat)
 case atStart => exact ⟨0, Nat.zero_le _, rfl, fun j _ hj => absurd hj (by omega)⟩
 case round =>
  obtain ⟨k, hk, rfl, hn⟩ := hrel
  by_cases hlt : k < s.size
  ·obtain ⟨c, ec⟩ : ∃ c, s[k]'hlt = c := ⟨_, rfl⟩
   have EC := Lib.hid ec
   clear ec
   have hc := c.toNat_lt
   have hlc : seenC c = (decide (33 ≤ c.toNat) && decide (c.toNat ≤ 126)) := rfl
   cases hp : seenC c with
   | true =>
    have HN : SeenBefore s (k + 1) := by
     intro j h hj
     rcases Nat.lt_or_ge j k with h1 | h1
     ·exact hn j h h1
     ·obtain rfl : j = k := by omega
      rw [EC.out]
      exact hp
    rw [hlc] at hp
    simp only [Bool.and_eq_true, decide_eq_true_eq] at hp
    obtain ⟨g1, g2⟩ := hp
    have HN' := Lib.hid HN
    clear HN hn hlc
    have hek := EC.out
    go_wp2_with fail
    refine (in_yes _ _ _ _ (by omega) (by omega)).mono ?_
    rintro e w' ⟨rfl, rfl⟩
    clear hek
    go_wp2_with fail
    go_round
    case rel => exact ⟨k + 1, by omega, by go_num, HN'.out⟩
    case measure => simp [intOf]; omega
   | false =>
    have HB : valueB s = false := by
     unfold valueB
     cases ha : s.data.toList.all seenC with
     | false => simp
     | true =>
      have := all_seen.1 ha k hlt hlt
      rw [EC.out, hp] at this
      cases this
    rw [hlc] at hp
    simp only [Bool.and_eq_false_iff, decide_eq_false_iff_not, Nat.not_le] at hp
    have HB' := Lib.hid HB
    have HP := Lib.hid hp
    clear HB hn hlc hp
    have hek := EC.out
    go_wp2_with fail
    refine (in_no _ _ _ _ (by have := HP.out; omega)).mono ?_
    rintro e w' ⟨rfl, rfl⟩
    clear hek
    go_wp2_with fail
    go_ret
    exact ⟨by rw [HB'.out]; simp, rfl⟩
  ·obtain rfl : k = s.size := by omega
   have ha := all_seen.2 hn
   have HB : valueB s = (decide (1 ≤ s.size) && decide (s.size ≤ 20)) := by unfold valueB; rw [ha]; simp
   have HB' := Lib.hid HB
   clear HB ha hn
   by_cases hy : 1 ≤ s.size ∧ s.size ≤ 20
   ·obtain ⟨y1, y2⟩ := hy
    go_wp2_with fail
    refine (in_yes _ _ _ _ (by omega) (by omega)).mono ?_
    rintro e w' ⟨rfl, rfl⟩
    go_wp2_with fail
    go_ret
    exact ⟨by rw [HB'.out]; simp; omega, rfl⟩
   ·have HY := Lib.hid hy
    clear hy
    go_wp2_with fail
    refine (in_no _ _ _ _ (by have := HY.out; omega)).mono ?_
    rintro e w' ⟨rfl, rfl⟩
    go_wp2_with fail
    go_ret
    exact ⟨by rw [HB'.out]; have := HY.out; simp; omega, rfl⟩
end Go.Proofs.YtjbnfigpflambabDoor
/- What the package-level variables hold: the words of statements, and the library's MaxLen. -/
namespace Go.Proofs.YtjbnfigpflambabDoor
open Go.ChangeShapes Go.WideShapes Go.ChangeAt Go.RowKit
theorem gWords : Tryd.prog.globalNamed "tillerman/say.words" = some 0 := by kernel_rfl
/-- the words' table, and some number for MaxLen -/
structure Tabs (w : World) : Prop where
 words : ∀ i, i < 11 → w.cell? ⟨0, 1 + i, none⟩ = some (.string (wordsL.getD i ByteArray.empty))
 maxLen : ∃ m, w.cell? ⟨1, 0, none⟩ = some (.int .i64 m)
theorem Tabs.below {w w' : World} (h : Tabs w) (hb : Below w.heap.size w w') : Tabs w' :=
 ⟨fun i hi => keep_cell hb (h.words i hi), by obtain ⟨m, hm⟩ := h.maxLen; exact ⟨m, keep_cell hb hm⟩⟩
theorem Tabs.alloc {w : World} (h : Tabs w) (o : Obj) : Tabs (w.alloc o) := h.below (boxed w o)
end Go.Proofs.YtjbnfigpflambabDoor
/- say.Check: what it returns, given what Read returns for its value. -/
namespace Go.Proofs.YtjbnfigpflambabDoor
open Go.ChangeShapes Go.WideShapes Go.ChangeAt Go.RowKit
/-- a statement's value -/
def St.v (s : St) : Value := .agg #[.int .i64 s.k, .string s.key, .string s.val]
/-- Read's contract at one text -/
def ReadOk (f : Nat) (t : ByteArray) : Prop := ∀ w : World, Tabs w → Calls Tryd.prog f #[.string t] w fun e w' => e = .returned (.tuple #[(readS t).v, .int .i64 (readE t)]) ∧ Below w.heap.size w w'
theorem nameB_ne {s : ByteArray} (h : nameB s = true) : s.toList.isEmpty = false := by
 rw [toList_data]
 unfold nameB at h
 simp only [Bool.and_eq_true, decide_eq_true_eq] at h
 cases e : s.data.toList with
 | nil =>
  have : s.size = 0 := by simpa using congrArg List.length e
  omega
 | cons a l => rfl
theorem valueB_ne {s : ByteArray} (h : valueB s = true) : s.toList.isEmpty = false := by
 rw [toList_data]
 unfold valueB at h
 simp only [Bool.and_eq_true, decide_eq_true_eq] at h
 cases e : s.data.toList with
 | nil =>
  have : s.size = 0 := by simpa using congrArg List.length e
  omega
 | cons a l => rfl
section
variable (k : Int) (key val : ByteArray) (w : World)
theorem check_kind (h : k < 1 ∨ 11 < k) :
  Calls Tryd.prog 21 #[.agg #[.int .i64 k, .string key, .string val]] w fun e w' => e = .returned (.int .i64 3) ∧ Below w.heap.size w w' := by
 by_cases h1 : k < 1
 ·go_enter Tryd.func21, Tryd.ntmps21
  go_wp2_with fail
  go_ret
  exact ⟨rfl, boxed _ _⟩
 ·have h2 : 11 < k := by omega
  clear h
  go_enter Tryd.func21, Tryd.ntmps21
  go_wp2_with fail
  go_ret
  exact ⟨rfl, boxed _ _⟩
theorem check_low (h1 : 1 ≤ k) (h2 : k ≤ 5) :
  Calls Tryd.prog 21 #[.agg #[.int .i64 k, .string key, .string val]] w fun e w' => e = .returned (.int .i64 (if isE key && isE val then 0 else 4)) ∧ Below w.heap.size w w' := by
 have d1 : decide (6 ≤ k) = false := by simp; omega
 have d2 : decide (9 ≤ k) = false := by simp; omega
 have d3 : (k == 9) = false := by simp; omega
 have d4 : (k == 10) = false := by simp; omega
 have d5 : (k == 11) = false := by simp; omega
 unfold isE
 cases e1 : key.toList.isEmpty <;> cases e2 : val.toList.isEmpty
 all_goals
  have f1 := e1
  have f2 := e2
  simp only [List.isEmpty_iff, List.isEmpty_eq_false_iff] at f1 f2
  go_enter Tryd.func21, Tryd.ntmps21
  go_wp2_with fail
  go_ret
  exact ⟨by simp, boxed _ _⟩
theorem check_mid (h1 : 6 ≤ k) (h2 : k ≤ 8) (hm : key.size ≤ maxLen) :
  Calls Tryd.prog 21 #[.agg #[.int .i64 k, .string key, .string val]] w fun e w' => e = .returned (.int .i64 (if !nameB key then 4 else if isE val then 0 else 4)) ∧ Below w.heap.size w w' := by
 have d1 : decide (6 ≤ k) = true := by simp; omega
 have d2 : decide (9 ≤ k) = false := by simp; omega
 have d3 : (k == 9) = false := by simp; omega
 have d4 : (k == 10) = false := by simp; omega
 have d5 : (k == 11) = false := by simp; omega
 cases e1 : key.toList.isEmpty with
 | true =>
  have hn : nameB key = false := by
   cases h : nameB key with
   | false => rfl
   | true => rw [nameB_ne h] at e1; cases e1
  have f1 := e1
  simp only [List.isEmpty_iff] at f1
  rw [hn]
  clear hn
  go_enter Tryd.func21, Tryd.ntmps21
  go_wp2_with fail
  go_ret
  exact ⟨by simp, boxed _ _⟩
 | false =>
  have f1 := e1
  simp only [List.isEmpty_eq_false_iff] at f1
  unfold isE
  cases e2 : val.toList.isEmpty with
  | false =>
   have f2 := e2
   simp only [List.isEmpty_eq_false_iff] at f2
   simp only [Bool.false_eq_true, if_false, ite_self]
   go_enter Tryd.func21, Tryd.ntmps21
   go_wp2_with fail
   go_ret
   exact ⟨by simp, boxed _ _⟩
  | true =>
   have f2 := e2
   simp only [List.isEmpty_iff] at f2
   cases hn : nameB key
   all_goals
    have HN := Lib.hid hn
    clear hn
    go_enter Tryd.func21, Tryd.ntmps21
    go_wp2_with fail
    refine (name_any key _ hm).mono ?_
    rintro e w1 ⟨rfl, hb1⟩
    have c0 := box_cell hb1 0
    have c1 := box_cell hb1 1
    have c2 := box_cell hb1 2
    have hb := below_of_alloc (Nat.le_refl _) hb1
    clear hb1
    rw [HN.out]
    go_wp2_with fail
    go_ret
    exact ⟨by simp, hb⟩
theorem check_set (h : k = 9 ∨ k = 10) (hm : key.size ≤ maxLen) (hm2 : val.size ≤ maxLen) :
  Calls Tryd.prog 21 #[.agg #[.int .i64 k, .string key, .string val]] w fun e w' => e = .returned (.int .i64 (if !nameB key then 4 else if valueB val then 0 else 4)) ∧ Below w.heap.size w w' := by
 cases e1 : key.toList.isEmpty with
 | true =>
  have hn : nameB key = false := by
   cases h : nameB key with
   | false => rfl
   | true => rw [nameB_ne h] at e1; cases e1
  have f1 := e1
  simp only [List.isEmpty_iff] at f1
  rw [hn]
  clear hn
  rcases h with rfl | rfl
  all_goals
   go_enter Tryd.func21, Tryd.ntmps21
   go_wp2_with fail
   go_ret
   exact ⟨by simp, boxed _ _⟩
 | false =>
  have f1 := e1
  simp only [List.isEmpty_eq_false_iff] at f1
  cases e2 : val.toList.isEmpty with
  | true =>
   have hv : valueB val = false := by
    cases h : valueB val with
    | false => rfl
    | true => rw [valueB_ne h] at e2; cases e2
   have f2 := e2
   simp only [List.isEmpty_iff] at f2
   rw [hv]
   clear hv
   simp only [Bool.false_eq_true, if_false, ite_self]
   rcases h with rfl | rfl
   all_goals
    go_enter Tryd.func21, Tryd.ntmps21
    go_wp2_with fail
    go_ret
    exact ⟨by simp, boxed _ _⟩
  | false =>
   have f2 := e2
   simp only [List.isEmpty_eq_false_iff] at f2
   cases hn : nameB key with
   | false =>
    have HN := Lib.hid hn
    clear hn
    rcases h with rfl | rfl
    all_goals
     go_enter Tryd.func21, Tryd.ntmps21
     go_wp2_with fail
     refine (name_any key _ hm).mono ?_
     rintro e w1 ⟨rfl, hb1⟩
     have hb := below_of_alloc (Nat.le_refl _) hb1
     clear hb1
     rw [HN.out]
     go_wp2_with fail
     go_ret
     exact ⟨by simp, hb⟩
   | true =>
    have HN := Lib.hid hn
    clear hn
    cases hv : valueB val
    all_goals
     have HV := Lib.hid hv
     clear hv
     rcases h with rfl | rfl
    all_goals
     go_enter Tryd.func21, Tryd.ntmps21
     go_wp2_with fail
     refine (name_any key _ hm).mono ?_
     rintro e w1 ⟨rfl, hb1⟩
     have c0 := box_cell hb1 0
     have c1 := box_cell hb1 1
     have c2 := box_cell hb1 2
     have hb := below_of_alloc (Nat.le_refl _) hb1
     clear hb1
     rw [HN.out]
     go_wp2_with fail
     refine (value_any val _ hm2).mono ?_
     rintro e w2 ⟨rfl, hb2⟩
     replace c0 := keep_cell hb2 c0
     replace c1 := keep_cell hb2 c1
     replace c2 := keep_cell hb2 c2
     replace hb := below_step hb (Nat.le_refl _) hb2
     clear hb2
     rw [HV.out]
     go_wp2_with fail
     go_ret
     exact ⟨by simp, hb⟩
theorem check_prep (hT : Tabs w) (hm : key.size ≤ maxLen) (hr : ReadOk 19 val) :
  Calls Tryd.prog 21 #[.agg #[.int .i64 11, .string key, .string val]] w fun e w' => e = .returned (.int .i64 (if nameB key && prepB val then 0 else 4)) ∧ Below w.heap.size w w' := by
 have HR := Lib.hid hr
 have HT := Lib.hid hT
 clear hr hT
 cases e1 : key.toList.isEmpty with
 | true =>
  have hn : nameB key = false := by
   cases h : nameB key with
   | false => rfl
   | true => rw [nameB_ne h] at e1; cases e1
  have f1 := e1
  simp only [List.isEmpty_iff] at f1
  rw [hn]
  clear hn
  go_enter Tryd.func21, Tryd.ntmps21
  go_wp2_with fail
  go_ret
  exact ⟨by simp, boxed _ _⟩
 | false =>
  have f1 := e1
  simp only [List.isEmpty_eq_false_iff] at f1
  cases e2 : val.toList.isEmpty with
  | true =>
   have hv : prepB val = false := by
    rw [prep_read]
    have : val = ⟨#[]⟩ := str_inj (by rw [List.isEmpty_iff] at e2; rw [e2, toList_data])
    subst this
    decide +kernel
   have f2 := e2
   simp only [List.isEmpty_iff] at f2
   rw [hv, Bool.and_false]
   clear hv
   go_enter Tryd.func21, Tryd.ntmps21
   go_wp2_with fail
   go_ret
   exact ⟨by simp, boxed _ _⟩
  | false =>
   have f2 := e2
   simp only [List.isEmpty_eq_false_iff] at f2
   cases hn : nameB key with
   | false =>
    have HN := Lib.hid hn
    clear hn
    rw [Bool.false_and]
    go_enter Tryd.func21, Tryd.ntmps21
    go_wp2_with fail
    refine (name_any key _ hm).mono ?_
    rintro e w1 ⟨rfl, hb1⟩
    have hb := below_of_alloc (Nat.le_refl _) hb1
    clear hb1
    rw [HN.out]
    go_wp2_with fail
    go_ret
    exact ⟨by simp, hb⟩
   | true =>
    have HN := Lib.hid hn
    clear hn
    rw [Bool.true_and, prep_read]
    cases h0 : decide (readE val = 0) with
    | false =>
     have g0 : (readE val != 0) = true := by simpa using h0
     rw [Bool.false_and]
     have G := Lib.hid h0
     clear h0
     go_enter Tryd.func21, Tryd.ntmps21
     go_wp2_with fail
     refine (name_any key _ hm).mono ?_
     rintro e w1 ⟨rfl, hb1⟩
     have c0 := box_cell hb1 0
     have c1 := box_cell hb1 1
     have c2 := box_cell hb1 2
     have hb := below_of_alloc (Nat.le_refl _) hb1
     clear hb1
     rw [HN.out]
     go_wp2_with fail
     refine (HR.out _ (HT.out.below hb)).mono ?_
     rintro e w2 ⟨rfl, hb2⟩
     replace hb := below_step hb (Nat.le_refl _) hb2
     clear hb2
     unfold St.v
     go_wp2_with fail
     go_ret
     exact ⟨by simp, hb.alloc hb.size _⟩
    | true =>
     have g0 : (readE val != 0) = false := by simpa using h0
     rw [Bool.true_and]
     have G := Lib.hid h0
     clear h0
     obtain ⟨rk, hrk⟩ : ∃ rk, (readS val).k = rk := ⟨_, rfl⟩
     rw [hrk]
     have RK := Lib.hid hrk
     clear hrk
     by_cases h6 : rk = 6
     ·have b6 : (rk != 6) = false := by simp [h6]
      simp only [h6, decide_true, Bool.true_or, if_true]
      clear h6
      go_enter Tryd.func21, Tryd.ntmps21
      go_wp2_with fail
      refine (name_any key _ hm).mono ?_
      rintro e w1 ⟨rfl, hb1⟩
      have c0 := box_cell hb1 0
      have c1 := box_cell hb1 1
      have c2 := box_cell hb1 2
      have hb := below_of_alloc (Nat.le_refl _) hb1
      clear hb1
      rw [HN.out]
      go_wp2_with fail
      refine (HR.out _ (HT.out.below hb)).mono ?_
      rintro e w2 ⟨rfl, hb2⟩
      replace hb := below_step hb (Nat.le_refl _) hb2
      clear hb2
      unfold St.v
      rw [RK.out]
      go_wp2_with fail
      go_ret
      exact ⟨by simp, hb.alloc hb.size _⟩
     have b6 : (rk != 6) = true := by simp [h6]
     by_cases h7 : rk = 7
     ·have b7 : (rk != 7) = false := by simp [h7]
      simp only [h7, decide_true, Bool.true_or, Bool.or_true, if_true]
      clear h6 h7
      go_enter Tryd.func21, Tryd.ntmps21
      go_wp2_with fail
      refine (name_any key _ hm).mono ?_
      rintro e w1 ⟨rfl, hb1⟩
      have c0 := box_cell hb1 0
      have c1 := box_cell hb1 1
      have c2 := box_cell hb1 2
      have hb := below_of_alloc (Nat.le_refl _) hb1
      clear hb1
      rw [HN.out]
      go_wp2_with fail
      refine (HR.out _ (HT.out.below hb)).mono ?_
      rintro e w2 ⟨rfl, hb2⟩
      replace hb := below_step hb (Nat.le_refl _) hb2
      clear hb2
      unfold St.v
      rw [RK.out]
      go_wp2_with fail
      go_ret
      exact ⟨by simp, hb.alloc hb.size _⟩
     have b7 : (rk != 7) = true := by simp [h7]
     by_cases h10 : rk = 10
     ·have b10 : (rk != 10) = false := by simp [h10]
      simp only [h10, decide_true, Bool.or_true, if_true]
      clear h6 h7 h10
      go_enter Tryd.func21, Tryd.ntmps21
      go_wp2_with fail
      refine (name_any key _ hm).mono ?_
      rintro e w1 ⟨rfl, hb1⟩
      have c0 := box_cell hb1 0
      have c1 := box_cell hb1 1
      have c2 := box_cell hb1 2
      have hb := below_of_alloc (Nat.le_refl _) hb1
      clear hb1
      rw [HN.out]
      go_wp2_with fail
      refine (HR.out _ (HT.out.below hb)).mono ?_
      rintro e w2 ⟨rfl, hb2⟩
      replace hb := below_step hb (Nat.le_refl _) hb2
      clear hb2
      unfold St.v
      rw [RK.out]
      go_wp2_with fail
      go_ret
      exact ⟨by simp, hb.alloc hb.size _⟩
     ·have b10 : (rk != 10) = true := by simp [h10]
      simp only [h6, h7, h10, decide_false, Bool.or_false, Bool.false_eq_true, if_false]
      clear h6 h7 h10
      go_enter Tryd.func21, Tryd.ntmps21
      go_wp2_with fail
      refine (name_any key _ hm).mono ?_
      rintro e w1 ⟨rfl, hb1⟩
      have c0 := box_cell hb1 0
      have c1 := box_cell hb1 1
      have c2 := box_cell hb1 2
      have hb := below_of_alloc (Nat.le_refl _) hb1
      clear hb1
      rw [HN.out]
      go_wp2_with fail
      refine (HR.out _ (HT.out.below hb)).mono ?_
      rintro e w2 ⟨rfl, hb2⟩
      replace hb := below_step hb (Nat.le_refl _) hb2
      clear hb2
      unfold St.v
      rw [RK.out]
      go_wp2_with fail
      go_ret
      exact ⟨by simp, hb.alloc hb.size _⟩
theorem check_any (hT : Tabs w) (hm : key.size ≤ maxLen) (hm2 : val.size ≤ maxLen) (hr : k = 11 → ReadOk 19 val) :
  Calls Tryd.prog 21 #[.agg #[.int .i64 k, .string key, .string val]] w fun e w' => e = .returned (.int .i64 (checkE ⟨k, key, val⟩)) ∧ Below w.heap.size w w' := by
 unfold checkE plainE
 by_cases h11 : k = 11
 ·subst h11
  rw [if_pos rfl]
  exact check_prep key val w hT hm (hr rfl)
 rw [if_neg h11]
 by_cases h0 : k < 1 ∨ 11 < k
 ·rw [if_pos h0]
  exact check_kind k key val w h0
 rw [if_neg h0]
 by_cases h6 : k < 6
 ·rw [if_pos h6]
  exact check_low k key val w (by omega) (by omega)
 rw [if_neg h6]
 by_cases h9 : k < 9
 ·simp only [if_pos h9]
  exact check_mid k key val w (by omega) (by omega) hm
 ·simp only [if_neg h9]
  exact check_set k key val w (by omega) hm hm2
end
end Go.Proofs.YtjbnfigpflambabDoor
