/- say.Name and the reference's NameMay: what each returns. -/
import Derived.Test.YtjbnfigpflambabDoorBase
import Derived.Test.YtjbnfigpflambabDoorSpec
import Derived.Test.YtjbnfigpflambabDoorIn
import Derived.Lib.ConvBytes
namespace Go.Proofs.YtjbnfigpflambabDoor
open Go.ChangeShapes Go.WideShapes Go.ChangeAt Go.RowKit


theorem name1_any (c : UInt8) (w : World) : Calls Tryd.prog 68 #[.int .u8 (c.toNat : Int)] w fun e w' => e = .returned (.bool (!lowC c)) ∧ w = w' := by
  unfold lowC
  by_cases h1 : c.toNat < 97
  · have d : decide (97 ≤ c.toNat) = false := by simpa using h1
    have g : (c.toNat : Int) < 97 := by omega
    go_enter Tryd.func68, Tryd.ntmps68
    go_wp2
    go_ret
    exact ⟨by simp [d], rfl⟩
  · have d : decide (97 ≤ c.toNat) = true := by simpa using h1
    by_cases h2 : 122 < c.toNat
    · have d2 : decide (c.toNat ≤ 122) = false := by simpa using h2
      have g : 122 < (c.toNat : Int) := by omega
      have g' : ¬ (c.toNat : Int) < 97 := by omega
      go_enter Tryd.func68, Tryd.ntmps68
      go_wp2
      go_ret
      exact ⟨by simp, rfl⟩
    · have d2 : decide (c.toNat ≤ 122) = true := by simpa using h2
      have g : ¬ 122 < (c.toNat : Int) := by omega
      have g' : ¬ (c.toNat : Int) < 97 := by omega
      go_enter Tryd.func68, Tryd.ntmps68
      go_wp2
      go_ret
      exact ⟨by simp, rfl⟩

/-- where the first byte is that p takes; -1: nowhere -/
def firstOf (p : UInt8 → Bool) (l : List UInt8) : Int := match l.findIdx? p with | some i => (i : Int) | none => -1
theorem firstOf_at {p : UInt8 → Bool} {l : List UInt8} {k : Nat} (hk : k < l.length) (hb : ∀ j, (h : j < l.length) → j < k → p l[j] = false) (hp : p l[k] = true) : firstOf p l = k := by
  have h : l.findIdx? p = some k := by
    rw [List.findIdx?_eq_some_iff_getElem]
    exact ⟨hk, hp, fun j hj => by rw [hb j (by omega) hj]; simp⟩
  simp [firstOf, h]
theorem firstOf_no {p : UInt8 → Bool} {l : List UInt8} (hb : ∀ j, (h : j < l.length) → p l[j] = false) : firstOf p l = -1 := by
  have h : l.findIdx? p = none := by
    rw [List.findIdx?_eq_none_iff]
    intro x hx
    obtain ⟨j, hj, rfl⟩ := List.getElem_of_mem hx
    exact hb j hj
  simp [firstOf, h]
theorem firstOf_nonneg {p : UInt8 → Bool} {l : List UInt8} : decide (0 ≤ firstOf p l) = l.any p := by
  unfold firstOf
  cases h : l.findIdx? p with
  | none =>
    rw [List.findIdx?_eq_none_iff] at h
    simp
    intro x hx
    rw [h x hx]
  | some i =>
    rw [List.findIdx?_eq_some_iff_getElem] at h
    obtain ⟨hi, hp, _⟩ := h
    simp
    exact ⟨_, List.getElem_mem hi, hp⟩
theorem snoc_no {p : UInt8 → Bool} {l : List UInt8} {k : Nat} (hb : ∀ j, (h : j < l.length) → j < k → p l[j] = false) (hk : k < l.length) (hp : p l[k] = false) : ∀ j, (h : j < l.length) → j < k + 1 → p l[j] = false := by
  intro j h hj
  rcases Nat.lt_or_ge j k with h1 | h1
  · exact hb j h h1
  · obtain rfl : j = k := by omega
    exact hp
/-- all before are none -/
def NoneBefore (p : UInt8 → Bool) (l : List UInt8) (k : Nat) : Prop := ∀ j, (h : j < l.length) → j < k → p l[j] = false
theorem indexFunc_any (f : Nat) (p : UInt8 → Bool) (hcf : ∀ (c : Int) (w : World), (callFunc f #[.int .u8 c]).run Tryd.prog w = .ok (.enter f #[.int .u8 c]) w)
    (hf : ∀ (c : UInt8) (w : World), Calls Tryd.prog f #[.int .u8 (c.toNat : Int)] w fun e w' => e = .returned (.bool (p c)) ∧ w = w')
    (l : List UInt8) (b cap : Nat) (w : World) (hl : l.length ≤ 1000) (hc : ∀ i, (h : i < l.length) → w.cell? ⟨b, i, none⟩ = some (.int .u8 (l[i].toNat : Int))) :
    Calls Tryd.prog 88 #[.slice (some ⟨b, 0, none⟩) l.length cap, .func (.func f) #[] #[]] w fun e w' => e = .returned (.int .i64 (firstOf p l)) ∧ w = w' := by
  have HF := Lib.hid hf
  have HC := Lib.hid hc
  clear hf hc
  go_enter Tryd.func88, Tryd.ntmps88
  go_wp2_with fail
  go_loop [8] (fun i => ∃ k : Nat, k ≤ l.length ∧ i = .int .i64 k ∧ NoneBefore p l k) (fun i => l.length - (intOf i).toNat)
  case atStart => exact ⟨0, Nat.zero_le _, rfl, fun j _ hj => absurd hj (by omega)⟩
  case round =>
    obtain ⟨k, hk, rfl, hn⟩ := hrel
    by_cases hlt : k < l.length
    · have hcell := HC.out k hlt
      obtain ⟨c, ec⟩ : ∃ c, l[k]'hlt = c := ⟨_, rfl⟩
      rw [ec] at hcell
      have EC := Lib.hid ec
      clear ec
      cases hp : p c with
      | true =>
        have HN : firstOf p l = k := firstOf_at hlt hn (by rw [EC.out]; exact hp)
        have HN' := Lib.hid HN
        have HP := Lib.hid hp
        clear HN hp hn
        go_wp2_with fail
        refine (HF.out c _).mono ?_
        rintro e w' ⟨rfl, rfl⟩
        have hp := HP.out
        go_wp2_with fail
        go_ret
        exact ⟨by rw [HN'.out]; simp, rfl⟩
      | false =>
        have HN : NoneBefore p l (k + 1) := snoc_no hn hlt (by rw [EC.out]; exact hp)
        have HN' := Lib.hid HN
        have HP := Lib.hid hp
        clear HN hp hn
        go_wp2_with fail
        refine (HF.out c _).mono ?_
        rintro e w' ⟨rfl, rfl⟩
        have hp := HP.out
        go_wp2_with fail
        go_round
        case rel => exact ⟨k + 1, by omega, by go_num, HN'.out⟩
        case measure => simp [intOf]; omega
    · have HN : firstOf p l = -1 := firstOf_no fun j h => hn j h (by omega)
      have HN' := Lib.hid HN
      clear HN hn
      go_wp2_with fail
      go_ret
      exact ⟨by rw [HN'.out]; simp, rfl⟩
theorem containsFunc_any (f : Nat) (p : UInt8 → Bool) (hcf : ∀ (c : Int) (w : World), (callFunc f #[.int .u8 c]).run Tryd.prog w = .ok (.enter f #[.int .u8 c]) w)
    (hf : ∀ (c : UInt8) (w : World), Calls Tryd.prog f #[.int .u8 (c.toNat : Int)] w fun e w' => e = .returned (.bool (p c)) ∧ w = w')
    (l : List UInt8) (b cap : Nat) (w : World) (hl : l.length ≤ 1000) (hc : ∀ i, (h : i < l.length) → w.cell? ⟨b, i, none⟩ = some (.int .u8 (l[i].toNat : Int))) :
    Calls Tryd.prog 67 #[.slice (some ⟨b, 0, none⟩) l.length cap, .func (.func f) #[] #[]] w fun e w' => e = .returned (.bool (l.any p)) ∧ w = w' := by
  have HF := Lib.hid hf
  have HC := Lib.hid hc
  have HCF := Lib.hid hcf
  clear hf hc hcf
  go_enter Tryd.func67, Tryd.ntmps67
  go_wp2_with fail
  refine (indexFunc_any f p HCF.out HF.out l b cap _ hl HC.out).mono ?_
  rintro e w' ⟨rfl, rfl⟩
  go_wp2_with fail
  go_ret
  exact ⟨by simp [← firstOf_nonneg], rfl⟩
theorem call1 (c : Int) (w : World) : (callFunc 68 #[.int .u8 c]).run Tryd.prog w = .ok (.enter 68 #[.int .u8 c]) w := by
  go_simp
theorem bytes_below (w : World) (s : ByteArray) : Below w.heap.size w (Lib.bytesWorld w 5 s) :=
  ⟨rfl, rfl, rfl, by rw [Lib.bytesWorld_size]; omega, fun k hk => Lib.bytesWorld_at_old w _ s k hk⟩
theorem name_any (s : ByteArray) (w : World) (hm : s.size ≤ maxLen) : Calls Tryd.prog 47 #[.string s] w fun e w' => e = .returned (.bool (nameB s)) ∧ Below w.heap.size w w' := by
  unfold maxLen at hm
  by_cases h0 : s.toList = []
  · have hz := size_of_nil h0
    have e : nameB s = false := by unfold nameB; rw [hz]; simp
    have hi : s.toList.isEmpty = true := by simp [h0]
    rw [e]
    clear e
    go_enter Tryd.func47, Tryd.ntmps47
    go_wp2
    go_ret
    exact ⟨rfl, Below.refl _ _⟩
  · have hi : s.toList.isEmpty = false := by simpa using h0
    by_cases h8 : 8 < s.size
    · have e : nameB s = false := by unfold nameB; simp; omega
      have hd : decide ((s.size : Int) ≤ 8) = false := by simp; omega
      rw [e]
      clear e
      go_enter Tryd.func47, Tryd.ntmps47
      go_wp2
      go_ret
      exact ⟨rfl, Below.refl _ _⟩
    · have hd : decide ((s.size : Int) ≤ 8) = true := by simp; omega
      have hcv := fun (w : World) => Lib.run_convert_string_bytes (P := Tryd.prog) w 9 80 5 s Tryd.underlying9 Tryd.underlying80 Tryd.underlying5
      have hl : s.data.toList.length = s.size := by simp
      have hz : 1 ≤ s.size := by
        rcases Nat.eq_zero_or_pos s.size with h | h
        · refine absurd ?_ h0
          rw [toList_data]
          exact List.eq_nil_of_length_eq_zero (by rw [hl, h])
        · exact h
      have e : nameB s = !s.data.toList.any fun c => !lowC c := by
        unfold nameB
        rw [List.all_eq_not_any_not]
        simp only [decide_eq_true (show 1 ≤ s.size from hz), decide_eq_true (show s.size ≤ 8 by omega), Bool.true_and]
      rw [e]
      have H := containsFunc_any 68 (fun c => !lowC c) call1 name1_any s.data.toList w.heap.size (grownCap w s.size 0 5) (Lib.bytesWorld w 5 s) (by rw [hl]; omega) (fun i h => by
        rw [Lib.bytesWorld_cell w _ s i (by rw [← hl]; exact h)]
        have hi : i < s.data.size := by simpa using h
        simp [List.getD, Array.getElem?_eq_getElem hi])
      rw [hl] at H
      have H' := Lib.hid H
      clear H e hl h0
      go_enter Tryd.func47, Tryd.ntmps47
      go_wp2_with fail
      refine H'.out.mono ?_
      rintro e w' ⟨rfl, rfl⟩
      go_wp2_with fail
      go_ret
      exact ⟨by simp, bytes_below w s⟩
theorem value1_any (c : UInt8) (w : World) : Calls Tryd.prog 69 #[.int .u8 (c.toNat : Int)] w fun e w' => e = .returned (.bool (!seenC c)) ∧ w = w' := by
  unfold seenC
  by_cases h1 : c.toNat ≤ 32
  · have d : decide (33 ≤ c.toNat) = false := by simp; omega
    have g : (c.toNat : Int) ≤ 32 := by omega
    go_enter Tryd.func69, Tryd.ntmps69
    go_wp2
    go_ret
    exact ⟨by simp [d], rfl⟩
  · have d : decide (33 ≤ c.toNat) = true := by simp; omega
    by_cases h2 : 126 < c.toNat
    · have d2 : decide (c.toNat ≤ 126) = false := by simpa using h2
      have g : 126 < (c.toNat : Int) := by omega
      have g' : ¬ (c.toNat : Int) ≤ 32 := by omega
      go_enter Tryd.func69, Tryd.ntmps69
      go_wp2
      go_ret
      exact ⟨by simp, rfl⟩
    · have d2 : decide (c.toNat ≤ 126) = true := by simpa using h2
      have g : ¬ 126 < (c.toNat : Int) := by omega
      have g' : ¬ (c.toNat : Int) ≤ 32 := by omega
      go_enter Tryd.func69, Tryd.ntmps69
      go_wp2
      go_ret
      exact ⟨by simp, rfl⟩

theorem call2 (c : Int) (w : World) : (callFunc 69 #[.int .u8 c]).run Tryd.prog w = .ok (.enter 69 #[.int .u8 c]) w := by
  go_simp
theorem value_any (s : ByteArray) (w : World) (hm : s.size ≤ maxLen) : Calls Tryd.prog 48 #[.string s] w fun e w' => e = .returned (.bool (valueB s)) ∧ Below w.heap.size w w' := by
  unfold maxLen at hm
  by_cases h0 : s.toList = []
  · have hz := size_of_nil h0
    have e : valueB s = false := by unfold valueB; rw [hz]; simp
    have hi : s.toList.isEmpty = true := by simp [h0]
    rw [e]
    clear e
    go_enter Tryd.func48, Tryd.ntmps48
    go_wp2
    go_ret
    exact ⟨rfl, Below.refl _ _⟩
  · have hi : s.toList.isEmpty = false := by simpa using h0
    by_cases h20 : 20 < s.size
    · have e : valueB s = false := by unfold valueB; simp; omega
      have hd : decide ((s.size : Int) ≤ 20) = false := by simp; omega
      rw [e]
      clear e
      go_enter Tryd.func48, Tryd.ntmps48
      go_wp2
      go_ret
      exact ⟨rfl, Below.refl _ _⟩
    · have hd : decide ((s.size : Int) ≤ 20) = true := by simp; omega
      have hcv := fun (w : World) => Lib.run_convert_string_bytes (P := Tryd.prog) w 9 80 5 s Tryd.underlying9 Tryd.underlying80 Tryd.underlying5
      have hl : s.data.toList.length = s.size := by simp
      have hz : 1 ≤ s.size := by
        rcases Nat.eq_zero_or_pos s.size with h | h
        · refine absurd ?_ h0
          rw [toList_data]
          exact List.eq_nil_of_length_eq_zero (by rw [hl, h])
        · exact h
      have e : valueB s = !s.data.toList.any fun c => !seenC c := by
        unfold valueB
        rw [List.all_eq_not_any_not]
        simp only [decide_eq_true (show 1 ≤ s.size from hz), decide_eq_true (show s.size ≤ 20 by omega), Bool.true_and]
      rw [e]
      have H := containsFunc_any 69 (fun c => !seenC c) call2 value1_any s.data.toList w.heap.size (grownCap w s.size 0 5) (Lib.bytesWorld w 5 s) (by rw [hl]; omega) (fun i h => by
        rw [Lib.bytesWorld_cell w _ s i (by rw [← hl]; exact h)]
        have hi : i < s.data.size := by simpa using h
        simp [List.getD, Array.getElem?_eq_getElem hi])
      rw [hl] at H
      have H' := Lib.hid H
      clear H e hl h0
      go_enter Tryd.func48, Tryd.ntmps48
      go_wp2_with fail
      refine H'.out.mono ?_
      rintro e w' ⟨rfl, rfl⟩
      go_wp2_with fail
      go_ret
      exact ⟨by simp, bytes_below w s⟩
/-- the bytes before k are all low -/
def LowBefore (s : ByteArray) (k : Nat) : Prop := ∀ j, (h : j < s.size) → j < k → lowC s[j] = true
theorem all_low {s : ByteArray} : s.data.toList.all lowC = true ↔ LowBefore s s.size := by
  rw [List.all_eq_true]
  constructor
  · intro h j hj _
    have hj' : j < s.data.toList.length := by simpa using hj
    have hm := h _ (List.getElem_mem hj')
    simp only [Array.getElem_toList] at hm
    exact hm
  · intro h x hx
    obtain ⟨j, hj, rfl⟩ := List.getElem_of_mem hx
    have hj' : j < s.size := by simpa using hj
    exact h j hj' hj'
theorem nameMay_any (s : ByteArray) (w : World) (hm : s.size ≤ maxLen) : Calls Tryd.prog 55 #[.string s] w fun e w' => e = .returned (.bool (nameB s)) ∧ w = w' := by
  unfold maxLen at hm
  go_enter Tryd.func55, Tryd.ntmps55
  go_wp2_with fail
  go_loop [3] (fun i => ∃ k : Nat, k ≤ s.size ∧ i = .int .i64 k ∧ LowBefore s k) (fun i => s.size - (intOf i).toNat)
  case atStart => exact ⟨0, Nat.zero_le _, rfl, fun j _ hj => absurd hj (by omega)⟩
  case round =>
    obtain ⟨k, hk, rfl, hn⟩ := hrel
    by_cases hlt : k < s.size
    · obtain ⟨c, ec⟩ : ∃ c, s[k]'hlt = c := ⟨_, rfl⟩
      have EC := Lib.hid ec
      clear ec
      have hc := c.toNat_lt
      have hlc : lowC c = (decide (97 ≤ c.toNat) && decide (c.toNat ≤ 122)) := rfl
      cases hp : lowC c with
      | true =>
        have HN : LowBefore s (k + 1) := by
          intro j h hj
          rcases Nat.lt_or_ge j k with h1 | h1
          · exact hn j h h1
          · obtain rfl : j = k := by omega
            rw [EC.out]
            exact hp
        rw [hlc] at hp
        simp only [Bool.and_eq_true, decide_eq_true_eq] at hp
        obtain ⟨g1, g2⟩ := hp
        have HN' := Lib.hid HN
        clear HN hn hlc
        have hek := EC.out
        go_wp2_with fail
        refine (in_yes _ _ _ _ (by omega) (by omega)).mono ?_
        rintro e w' ⟨rfl, rfl⟩
        clear hek
        go_wp2_with fail
        go_round
        case rel => exact ⟨k + 1, by omega, by go_num, HN'.out⟩
        case measure => simp [intOf]; omega
      | false =>
        have HB : nameB s = false := by
          unfold nameB
          cases ha : s.data.toList.all lowC with
          | false => simp
          | true =>
            have := all_low.1 ha k hlt hlt
            rw [EC.out, hp] at this
            cases this
        rw [hlc] at hp
        simp only [Bool.and_eq_false_iff, decide_eq_false_iff_not, Nat.not_le] at hp
        have HB' := Lib.hid HB
        have HP := Lib.hid hp
        clear HB hn hlc hp
        have hek := EC.out
        go_wp2_with fail
        refine (in_no _ _ _ _ (by have := HP.out; omega)).mono ?_
        rintro e w' ⟨rfl, rfl⟩
        clear hek
        go_wp2_with fail
        go_ret
        exact ⟨by rw [HB'.out]; simp, rfl⟩
    · obtain rfl : k = s.size := by omega
      have ha := all_low.2 hn
      have HB : nameB s = (decide (1 ≤ s.size) && decide (s.size ≤ 8)) := by unfold nameB; rw [ha]; simp
      have HB' := Lib.hid HB
      clear HB ha hn
      by_cases hy : 1 ≤ s.size ∧ s.size ≤ 8
      · obtain ⟨y1, y2⟩ := hy
        go_wp2_with fail
        refine (in_yes _ _ _ _ (by omega) (by omega)).mono ?_
        rintro e w' ⟨rfl, rfl⟩
        go_wp2_with fail
        go_ret
        exact ⟨by rw [HB'.out]; simp; omega, rfl⟩
      · have HY := Lib.hid hy
        clear hy
        go_wp2_with fail
        refine (in_no _ _ _ _ (by have := HY.out; omega)).mono ?_
        rintro e w' ⟨rfl, rfl⟩
        go_wp2_with fail
        go_ret
        exact ⟨by rw [HB'.out]; have := HY.out; simp; omega, rfl⟩
/-- the bytes before k are all low -/
def SeenBefore (s : ByteArray) (k : Nat) : Prop := ∀ j, (h : j < s.size) → j < k → seenC s[j] = true
theorem all_seen {s : ByteArray} : s.data.toList.all seenC = true ↔ SeenBefore s s.size := by
  rw [List.all_eq_true]
  constructor
  · intro h j hj _
    have hj' : j < s.data.toList.length := by simpa using hj
    have hm := h _ (List.getElem_mem hj')
    simp only [Array.getElem_toList] at hm
    exact hm
  · intro h x hx
    obtain ⟨j, hj, rfl⟩ := List.getElem_of_mem hx
    have hj' : j < s.size := by simpa using hj
    exact h j hj' hj'
theorem valueMay_any (s : ByteArray) (w : World) (hm : s.size ≤ maxLen) : Calls Tryd.prog 56 #[.string s] w fun e w' => e = .returned (.bool (valueB s)) ∧ w = w' := by
  unfold maxLen at hm
  go_enter Tryd.func56, Tryd.ntmps56
  go_wp2_with fail
  go_loop [3] (fun i => ∃ k : Nat, k ≤ s.size ∧ i = .int .i64 k ∧ SeenBefore s k) (fun i => s.size - (intOf i).toNat)
  case atStart => exact ⟨0, Nat.zero_le _, rfl, fun j _ hj => absurd hj (by omega)⟩
  case round =>
    obtain ⟨k, hk, rfl, hn⟩ := hrel
    by_cases hlt : k < s.size
    · obtain ⟨c, ec⟩ : ∃ c, s[k]'hlt = c := ⟨_, rfl⟩
      have EC := Lib.hid ec
      clear ec
      have hc := c.toNat_lt
      have hlc : seenC c = (decide (33 ≤ c.toNat) && decide (c.toNat ≤ 126)) := rfl
      cases hp : seenC c with
      | true =>
        have HN : SeenBefore s (k + 1) := by
          intro j h hj
          rcases Nat.lt_or_ge j k with h1 | h1
          · exact hn j h h1
          · obtain rfl : j = k := by omega
            rw [EC.out]
            exact hp
        rw [hlc] at hp
        simp only [Bool.and_eq_true, decide_eq_true_eq] at hp
        obtain ⟨g1, g2⟩ := hp
        have HN' := Lib.hid HN
        clear HN hn hlc
        have hek := EC.out
        go_wp2_with fail
        refine (in_yes _ _ _ _ (by omega) (by omega)).mono ?_
        rintro e w' ⟨rfl, rfl⟩
        clear hek
        go_wp2_with fail
        go_round
        case rel => exact ⟨k + 1, by omega, by go_num, HN'.out⟩
        case measure => simp [intOf]; omega
      | false =>
        have HB : valueB s = false := by
          unfold valueB
          cases ha : s.data.toList.all seenC with
          | false => simp
          | true =>
            have := all_seen.1 ha k hlt hlt
            rw [EC.out, hp] at this
            cases this
        rw [hlc] at hp
        simp only [Bool.and_eq_false_iff, decide_eq_false_iff_not, Nat.not_le] at hp
        have HB' := Lib.hid HB
        have HP := Lib.hid hp
        clear HB hn hlc hp
        have hek := EC.out
        go_wp2_with fail
        refine (in_no _ _ _ _ (by have := HP.out; omega)).mono ?_
        rintro e w' ⟨rfl, rfl⟩
        clear hek
        go_wp2_with fail
        go_ret
        exact ⟨by rw [HB'.out]; simp, rfl⟩
    · obtain rfl : k = s.size := by omega
      have ha := all_seen.2 hn
      have HB : valueB s = (decide (1 ≤ s.size) && decide (s.size ≤ 20)) := by unfold valueB; rw [ha]; simp
      have HB' := Lib.hid HB
      clear HB ha hn
      by_cases hy : 1 ≤ s.size ∧ s.size ≤ 20
      · obtain ⟨y1, y2⟩ := hy
        go_wp2_with fail
        refine (in_yes _ _ _ _ (by omega) (by omega)).mono ?_
        rintro e w' ⟨rfl, rfl⟩
        go_wp2_with fail
        go_ret
        exact ⟨by rw [HB'.out]; simp; omega, rfl⟩
      · have HY := Lib.hid hy
        clear hy
        go_wp2_with fail
        refine (in_no _ _ _ _ (by have := HY.out; omega)).mono ?_
        rintro e w' ⟨rfl, rfl⟩
        go_wp2_with fail
        go_ret
        exact ⟨by rw [HB'.out]; have := HY.out; simp; omega, rfl⟩
end Go.Proofs.YtjbnfigpflambabDoor
