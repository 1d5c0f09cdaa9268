/- say.Show and the reference's StmtText: what each returns; the walk of SayShows. -/
import Derived.Test.YtjbnfigpflambabDoorStmtOf
namespace Go.Proofs.YtjbnfigpflambabDoor
open Go.ChangeShapes Go.WideShapes Go.ChangeAt Go.RowKit

def blank : ByteArray := ⟨#[32]⟩
def wordK (k : Int) : ByteArray := wordsL.getD (k.toNat - 1) ByteArray.empty
theorem wordK_size (k : Int) : (wordK k).size ≤ 8 := by
  unfold wordK
  generalize k.toNat - 1 = i
  rcases i with _ | _ | _ | _ | _ | _ | _ | _ | _ | _ | _ | i
  all_goals first | decide +kernel | exact Nat.zero_le _
/-- the text of a valid statement -/
def textOf (s : St) : ByteArray := if s.k < 6 then wordK s.k else if s.k < 9 then wordK s.k ++ (blank ++ s.key) else wordK s.k ++ (blank ++ s.key) ++ (blank ++ s.val)
def showS (s : St) : ByteArray := if checkE s = 0 then textOf s else ⟨#[]⟩

theorem prepB_ne {s : ByteArray} (h : prepB s = true) : s.toList.isEmpty = false := by
  cases e : s.toList.isEmpty with
  | false => rfl
  | true =>
    have : s = ⟨#[]⟩ := str_inj (by rw [List.isEmpty_iff] at e; rw [e, toList_data])
    subst this
    revert h
    decide +kernel
/-- the three sorts of valid statements -/
theorem valid_sorts {s : St} (h : checkE s = 0) : (1 ≤ s.k ∧ s.k ≤ 5 ∧ s.key.toList.isEmpty = true ∧ s.val.toList.isEmpty = true) ∨ (6 ≤ s.k ∧ s.k ≤ 8 ∧ s.key.toList.isEmpty = false ∧ s.val.toList.isEmpty = true) ∨ (9 ≤ s.k ∧ s.k ≤ 11 ∧ s.key.toList.isEmpty = false ∧ s.val.toList.isEmpty = false) := by
  unfold checkE at h
  by_cases h11 : s.k = 11
  · rw [if_pos h11] at h
    cases hn : nameB s.key <;> cases hp : prepB s.val <;> rw [hn, hp] at h <;> simp at h
    exact .inr (.inr ⟨by omega, by omega, nameB_ne hn, prepB_ne hp⟩)
  rw [if_neg h11] at h
  unfold plainE at h
  by_cases h0 : s.k < 1 ∨ 11 < s.k
  · rw [if_pos h0] at h; simp at h
  rw [if_neg h0] at h
  by_cases h6 : s.k < 6
  · rw [if_pos h6] at h
    cases h1 : isE s.key <;> cases h2 : isE s.val <;> rw [h1, h2] at h <;> simp at h
    exact .inl ⟨by omega, by omega, h1, h2⟩
  rw [if_neg h6] at h
  cases hn : nameB s.key with
  | false => rw [hn] at h; simp at h
  | true =>
    rw [hn] at h
    simp only [Bool.not_true, Bool.false_eq_true, if_false] at h
    by_cases h9 : s.k < 9
    · rw [if_pos h9] at h
      cases h2 : isE s.val <;> rw [h2] at h <;> simp at h
      exact .inr (.inl ⟨by omega, by omega, nameB_ne hn, h2⟩)
    · rw [if_neg h9] at h
      cases h2 : valueB s.val <;> rw [h2] at h <;> simp at h
      exact .inr (.inr ⟨by omega, by omega, nameB_ne hn, valueB_ne h2⟩)
theorem valid_sizes {s : St} (h : checkE s = 0) (h6 : 6 ≤ s.k) : s.key.size ≤ 60 ∧ (9 ≤ s.k → s.val.size ≤ 60) := by
  have hn : nameB s.key = true := by
    cases hn : nameB s.key with
    | true => rfl
    | false =>
      unfold checkE plainE at h
      rw [hn, if_neg (show ¬ s.k < 6 by omega)] at h
      split at h
      · simp at h
      · split at h <;> simp at h
  refine ⟨?_, fun h9 => ?_⟩
  · unfold nameB at hn
    simp only [Bool.and_eq_true, decide_eq_true_eq] at hn
    omega
  · unfold checkE plainE at h
    rw [hn, if_neg (show ¬ s.k < 6 by omega), if_neg (show ¬ s.k < 9 by omega)] at h
    split at h
    · cases hp : prepB s.val with
      | false => rw [hp] at h; simp at h
      | true =>
        unfold prepB at hp
        simp only [Bool.and_eq_true, decide_eq_true_eq] at hp
        omega
    · split at h
      · simp at h
      · cases hp : valueB s.val with
        | false => rw [hp] at h; simp at h
        | true =>
          unfold valueB at hp
          simp only [Bool.and_eq_true, decide_eq_true_eq] at hp
          omega
theorem tabs_cells {w : World} (h : Tabs w) : w.cell? ⟨0, 1, none⟩ = some (.string (wordK 1)) ∧ w.cell? ⟨0, 2, none⟩ = some (.string (wordK 2)) ∧ w.cell? ⟨0, 3, none⟩ = some (.string (wordK 3)) ∧ w.cell? ⟨0, 4, none⟩ = some (.string (wordK 4)) ∧
    w.cell? ⟨0, 5, none⟩ = some (.string (wordK 5)) ∧ w.cell? ⟨0, 6, none⟩ = some (.string (wordK 6)) ∧ w.cell? ⟨0, 7, none⟩ = some (.string (wordK 7)) ∧ w.cell? ⟨0, 8, none⟩ = some (.string (wordK 8)) ∧
    w.cell? ⟨0, 9, none⟩ = some (.string (wordK 9)) ∧ w.cell? ⟨0, 10, none⟩ = some (.string (wordK 10)) ∧ w.cell? ⟨0, 11, none⟩ = some (.string (wordK 11)) :=
  ⟨h.words 0 (by omega), h.words 1 (by omega), h.words 2 (by omega), h.words 3 (by omega), h.words 4 (by omega), h.words 5 (by omega), h.words 6 (by omega), h.words 7 (by omega), h.words 8 (by omega), h.words 9 (by omega), h.words 10 (by omega)⟩
theorem low5 {k : Int} (h1 : 1 ≤ k) (h2 : k ≤ 5) : k = 1 ∨ k = 2 ∨ k = 3 ∨ k = 4 ∨ k = 5 := by omega
theorem mid3 {k : Int} (h1 : 6 ≤ k) (h2 : k ≤ 8) : k = 6 ∨ k = 7 ∨ k = 8 := by omega
theorem top3 {k : Int} (h1 : 9 ≤ k) (h2 : k ≤ 11) : k = 9 ∨ k = 10 ∨ k = 11 := by omega

theorem show_bad (k : Int) (key val : ByteArray) (w : World) (hT : Tabs w) (hk : key.size ≤ maxLen) (hv : val.size ≤ maxLen) (h : checkE ⟨k, key, val⟩ ≠ 0) :
    Calls Tryd.prog 13 #[.agg #[.int .i64 k, .string key, .string val]] w fun e w' => e = .returned (.tuple #[.string ⟨#[]⟩, .int .i64 (checkE ⟨k, key, val⟩)]) ∧ Below w.heap.size w w' := by
  have HT := Lib.hid hT
  clear hT
  obtain ⟨e, he⟩ : ∃ e, checkE ⟨k, key, val⟩ = e := ⟨_, rfl⟩
  have hc := fun w hT => check_all ⟨k, key, val⟩ w hT hk hv
  rw [he] at h hc ⊢
  have HC := Lib.hid hc
  have hb0 : (e != 0) = true := by simp [h]
  clear he hc h
  go_enter Tryd.func13, Tryd.ntmps13
  go_wp2_with fail
  refine (HC.out _ (HT.out.alloc _)).mono ?_
  rintro e w1 ⟨rfl, hb1⟩
  have hb := below_of_alloc (Nat.le_refl _) hb1
  clear hb1
  go_wp2_with fail
  go_ret2
  exact ⟨rfl, hb⟩
set_option maxHeartbeats 4000000 in
theorem show_low (k : Int) (key val : ByteArray) (w : World) (hT : Tabs w) (hk : key.size ≤ maxLen) (hv : val.size ≤ maxLen) (h : checkE ⟨k, key, val⟩ = 0) (h1 : 1 ≤ k) (h2 : k ≤ 5) (e1 : key.toList.isEmpty = true) (e2 : val.toList.isEmpty = true) :
    Calls Tryd.prog 13 #[.agg #[.int .i64 k, .string key, .string val]] w fun e w' => e = .returned (.tuple #[.string (wordK k), .int .i64 0]) ∧ Below w.heap.size w w' := by
  have HT := Lib.hid hT
  have hc := fun w hT => check_all ⟨k, key, val⟩ w hT hk hv
  rw [h] at hc
  have f1 := e1
  have f2 := e2
  simp only [List.isEmpty_iff] at f1 f2
  have z0 := wordK_size k
  clear hT h hk hv
  rcases low5 h1 h2 with rfl | rfl | rfl | rfl | rfl
  all_goals
    have HC := Lib.hid hc
    clear hc
    go_enter Tryd.func13, Tryd.ntmps13
    go_wp2_with fail
    refine (HC.out _ (HT.out.alloc _)).mono ?_
    rintro e w1 ⟨rfl, hb1⟩
    have c0 := box_cell hb1 0
    have c1 := box_cell hb1 1
    have c2 := box_cell hb1 2
    have hb := below_of_alloc (Nat.le_refl _) hb1
    obtain ⟨t1, t2, t3, t4, t5, -⟩ := tabs_cells (HT.out.below hb)
    clear hb1
    go_wp2_with fail
    go_ret2
    exact ⟨rfl, hb⟩
set_option maxHeartbeats 4000000 in
theorem show_mid (k : Int) (key val : ByteArray) (w : World) (hT : Tabs w) (hk : key.size ≤ maxLen) (hv : val.size ≤ maxLen) (h : checkE ⟨k, key, val⟩ = 0) (h1 : 6 ≤ k) (h2 : k ≤ 8) (e1 : key.toList.isEmpty = false) (e2 : val.toList.isEmpty = true) (z1 : key.size ≤ 60) :
    Calls Tryd.prog 13 #[.agg #[.int .i64 k, .string key, .string val]] w fun e w' => e = .returned (.tuple #[.string (wordK k ++ (blank ++ key)), .int .i64 0]) ∧ Below w.heap.size w w' := by
  have HT := Lib.hid hT
  have hc := fun w hT => check_all ⟨k, key, val⟩ w hT hk hv
  rw [h] at hc
  have f1 := e1
  have f2 := e2
  simp only [List.isEmpty_iff, List.isEmpty_eq_false_iff] at f1 f2
  have z0 := wordK_size k
  clear hT h hk hv
  rcases mid3 h1 h2 with rfl | rfl | rfl
  all_goals
    have HC := Lib.hid hc
    clear hc
    go_enter Tryd.func13, Tryd.ntmps13
    go_wp2_with fail
    refine (HC.out _ (HT.out.alloc _)).mono ?_
    rintro e w1 ⟨rfl, hb1⟩
    have c0 := box_cell hb1 0
    have c1 := box_cell hb1 1
    have c2 := box_cell hb1 2
    have hb := below_of_alloc (Nat.le_refl _) hb1
    obtain ⟨-, -, -, -, -, t6, t7, t8, -⟩ := tabs_cells (HT.out.below hb)
    clear hb1
    go_wp2_with fail
    go_ret2
    exact ⟨rfl, hb⟩
set_option maxHeartbeats 4000000 in
theorem show_top (k : Int) (key val : ByteArray) (w : World) (hT : Tabs w) (hk : key.size ≤ maxLen) (hv : val.size ≤ maxLen) (h : checkE ⟨k, key, val⟩ = 0) (h1 : 9 ≤ k) (h2 : k ≤ 11) (e1 : key.toList.isEmpty = false) (e2 : val.toList.isEmpty = false) (z1 : key.size ≤ 60) (z2 : val.size ≤ 60) :
    Calls Tryd.prog 13 #[.agg #[.int .i64 k, .string key, .string val]] w fun e w' => e = .returned (.tuple #[.string (wordK k ++ (blank ++ key) ++ (blank ++ val)), .int .i64 0]) ∧ Below w.heap.size w w' := by
  have HT := Lib.hid hT
  have hc := fun w hT => check_all ⟨k, key, val⟩ w hT hk hv
  rw [h] at hc
  have f1 := e1
  have f2 := e2
  simp only [List.isEmpty_iff, List.isEmpty_eq_false_iff] at f1 f2
  have z0 := wordK_size k
  clear hT h hk hv
  rcases top3 h1 h2 with rfl | rfl | rfl
  all_goals
    have HC := Lib.hid hc
    clear hc
    go_enter Tryd.func13, Tryd.ntmps13
    go_wp2_with fail
    refine (HC.out _ (HT.out.alloc _)).mono ?_
    rintro e w1 ⟨rfl, hb1⟩
    have c0 := box_cell hb1 0
    have c1 := box_cell hb1 1
    have c2 := box_cell hb1 2
    have hb := below_of_alloc (Nat.le_refl _) hb1
    obtain ⟨-, -, -, -, -, -, -, -, t9, t10, t11⟩ := tabs_cells (HT.out.below hb)
    clear hb1
    go_wp2_with fail
    go_ret2
    exact ⟨rfl, hb⟩
theorem show_any (s : St) (w : World) (hT : Tabs w) (hk : s.key.size ≤ maxLen) (hv : s.val.size ≤ maxLen) :
    Calls Tryd.prog 13 #[s.v] w fun e w' => e = .returned (.tuple #[.string (showS s), .int .i64 (checkE s)]) ∧ Below w.heap.size w w' := by
  obtain ⟨k, key, val⟩ := s
  unfold showS
  by_cases h : checkE ⟨k, key, val⟩ = 0
  · rw [if_pos h, h]
    unfold textOf
    rcases valid_sorts h with ⟨h1, h2, e1, e2⟩ | ⟨h1, h2, e1, e2⟩ | ⟨h1, h2, e1, e2⟩
    · rw [if_pos (by show k < 6; have : k ≤ 5 := h2; omega)]
      exact show_low k key val w hT hk hv h h1 h2 e1 e2
    · rw [if_neg (by show ¬ k < 6; have : 6 ≤ k := h1; omega), if_pos (by show k < 9; have : k ≤ 8 := h2; omega)]
      exact show_mid k key val w hT hk hv h h1 h2 e1 e2 (valid_sizes h h1).1
    · rw [if_neg (by show ¬ k < 6; have : 9 ≤ k := h1; omega), if_neg (by show ¬ k < 9; have : 9 ≤ k := h1; omega)]
      exact show_top k key val w hT hk hv h h1 h2 e1 e2 (valid_sizes h (Int.le_trans (by decide) h1)).1 ((valid_sizes h (Int.le_trans (by decide) h1)).2 h1)
  · rw [if_neg h]
    exact show_bad k key val w hT hk hv h
theorem word_k (k : Int) (w : World) (h1 : 1 ≤ k) (h2 : k ≤ 11) :
    Calls Tryd.prog 31 #[.int .i64 k] w fun e w' => e = .returned (.string (wordK k)) ∧ Below w.heap.size w w' := word_any k w h1 h2
theorem text_bad (k : Int) (key val : ByteArray) (w : World) (hT : Tabs w) (hk : key.size ≤ maxLen) (hv : val.size ≤ maxLen) (h : checkE ⟨k, key, val⟩ ≠ 0) :
    Calls Tryd.prog 14 #[.agg #[.int .i64 k, .string key, .string val]] w fun e w' => e = .returned (.tuple #[.string ⟨#[]⟩, .int .i64 (checkE ⟨k, key, val⟩)]) ∧ Below w.heap.size w w' := by
  have HT := Lib.hid hT
  clear hT
  obtain ⟨e, he⟩ : ∃ e, checkE ⟨k, key, val⟩ = e := ⟨_, rfl⟩
  have hc := fun w hT => fault_all ⟨k, key, val⟩ w hT hk hv
  rw [he] at h hc ⊢
  have HC := Lib.hid hc
  have hb0 : (e != 0) = true := by simp [h]
  clear he hc h
  go_enter Tryd.func14, Tryd.ntmps14
  go_wp2_with fail
  refine (HC.out _ (HT.out.alloc _)).mono ?_
  rintro e w1 ⟨rfl, hb1⟩
  have hb := below_of_alloc (Nat.le_refl _) hb1
  clear hb1
  go_wp2_with fail
  go_ret2
  exact ⟨rfl, hb⟩
set_option maxHeartbeats 4000000 in
theorem text_low (k : Int) (key val : ByteArray) (w : World) (hT : Tabs w) (hk : key.size ≤ maxLen) (hv : val.size ≤ maxLen) (h : checkE ⟨k, key, val⟩ = 0) (h1 : 1 ≤ k) (h2 : k ≤ 5) (e1 : key.toList.isEmpty = true) (e2 : val.toList.isEmpty = true) :
    Calls Tryd.prog 14 #[.agg #[.int .i64 k, .string key, .string val]] w fun e w' => e = .returned (.tuple #[.string (wordK k), .int .i64 0]) ∧ Below w.heap.size w w' := by
  have HT := Lib.hid hT
  have hc := fun w hT => fault_all ⟨k, key, val⟩ w hT hk hv
  rw [h] at hc
  have f1 := e1
  have f2 := e2
  simp only [List.isEmpty_iff] at f1 f2
  have z0 := wordK_size k
  clear hT h hk hv
  rcases low5 h1 h2 with rfl | rfl | rfl | rfl | rfl
  all_goals
    have HC := Lib.hid hc
    clear hc
    go_enter Tryd.func14, Tryd.ntmps14
    go_wp2_with fail
    refine (HC.out _ (HT.out.alloc _)).mono ?_
    rintro e w1 ⟨rfl, hb1⟩
    have c0 := box_cell hb1 0
    have c1 := box_cell hb1 1
    have c2 := box_cell hb1 2
    have hb := below_of_alloc (Nat.le_refl _) hb1
    clear hb1
    go_wp2_with fail
    refine (word_k _ _ (by omega) (by omega)).mono ?_
    rintro e w2 ⟨rfl, hb2⟩
    replace c0 := keep_cell hb2 c0
    replace c1 := keep_cell hb2 c1
    replace c2 := keep_cell hb2 c2
    replace hb := below_step hb (Nat.le_refl _) hb2
    clear hb2
    go_wp2_with fail
    go_ret2
    exact ⟨by simp [blank, ByteArray.append_assoc], hb⟩
set_option maxHeartbeats 4000000 in
theorem text_mid (k : Int) (key val : ByteArray) (w : World) (hT : Tabs w) (hk : key.size ≤ maxLen) (hv : val.size ≤ maxLen) (h : checkE ⟨k, key, val⟩ = 0) (h1 : 6 ≤ k) (h2 : k ≤ 8) (e1 : key.toList.isEmpty = false) (e2 : val.toList.isEmpty = true) (z1 : key.size ≤ 60) :
    Calls Tryd.prog 14 #[.agg #[.int .i64 k, .string key, .string val]] w fun e w' => e = .returned (.tuple #[.string (wordK k ++ (blank ++ key)), .int .i64 0]) ∧ Below w.heap.size w w' := by
  have HT := Lib.hid hT
  have hc := fun w hT => fault_all ⟨k, key, val⟩ w hT hk hv
  rw [h] at hc
  have f1 := e1
  have f2 := e2
  simp only [List.isEmpty_iff, List.isEmpty_eq_false_iff] at f1 f2
  have z0 := wordK_size k
  clear hT h hk hv
  rcases mid3 h1 h2 with rfl | rfl | rfl
  all_goals
    have HC := Lib.hid hc
    clear hc
    go_enter Tryd.func14, Tryd.ntmps14
    go_wp2_with fail
    refine (HC.out _ (HT.out.alloc _)).mono ?_
    rintro e w1 ⟨rfl, hb1⟩
    have c0 := box_cell hb1 0
    have c1 := box_cell hb1 1
    have c2 := box_cell hb1 2
    have hb := below_of_alloc (Nat.le_refl _) hb1
    clear hb1
    go_wp2_with fail
    refine (word_k _ _ (by omega) (by omega)).mono ?_
    rintro e w2 ⟨rfl, hb2⟩
    replace c0 := keep_cell hb2 c0
    replace c1 := keep_cell hb2 c1
    replace c2 := keep_cell hb2 c2
    replace hb := below_step hb (Nat.le_refl _) hb2
    clear hb2
    go_wp2_with fail
    go_ret2
    exact ⟨by simp [blank, ByteArray.append_assoc], hb⟩
set_option maxHeartbeats 4000000 in
theorem text_top (k : Int) (key val : ByteArray) (w : World) (hT : Tabs w) (hk : key.size ≤ maxLen) (hv : val.size ≤ maxLen) (h : checkE ⟨k, key, val⟩ = 0) (h1 : 9 ≤ k) (h2 : k ≤ 11) (e1 : key.toList.isEmpty = false) (e2 : val.toList.isEmpty = false) (z1 : key.size ≤ 60) (z2 : val.size ≤ 60) :
    Calls Tryd.prog 14 #[.agg #[.int .i64 k, .string key, .string val]] w fun e w' => e = .returned (.tuple #[.string (wordK k ++ (blank ++ key) ++ (blank ++ val)), .int .i64 0]) ∧ Below w.heap.size w w' := by
  have HT := Lib.hid hT
  have hc := fun w hT => fault_all ⟨k, key, val⟩ w hT hk hv
  rw [h] at hc
  have f1 := e1
  have f2 := e2
  simp only [List.isEmpty_iff, List.isEmpty_eq_false_iff] at f1 f2
  have z0 := wordK_size k
  clear hT h hk hv
  rcases top3 h1 h2 with rfl | rfl | rfl
  all_goals
    have HC := Lib.hid hc
    clear hc
    go_enter Tryd.func14, Tryd.ntmps14
    go_wp2_with fail
    refine (HC.out _ (HT.out.alloc _)).mono ?_
    rintro e w1 ⟨rfl, hb1⟩
    have c0 := box_cell hb1 0
    have c1 := box_cell hb1 1
    have c2 := box_cell hb1 2
    have hb := below_of_alloc (Nat.le_refl _) hb1
    clear hb1
    go_wp2_with fail
    refine (word_k _ _ (by omega) (by omega)).mono ?_
    rintro e w2 ⟨rfl, hb2⟩
    replace c0 := keep_cell hb2 c0
    replace c1 := keep_cell hb2 c1
    replace c2 := keep_cell hb2 c2
    replace hb := below_step hb (Nat.le_refl _) hb2
    clear hb2
    go_wp2_with fail
    go_ret2
    exact ⟨by simp [blank, ByteArray.append_assoc], hb⟩
theorem text_any (s : St) (w : World) (hT : Tabs w) (hk : s.key.size ≤ maxLen) (hv : s.val.size ≤ maxLen) :
    Calls Tryd.prog 14 #[s.v] w fun e w' => e = .returned (.tuple #[.string (showS s), .int .i64 (checkE s)]) ∧ Below w.heap.size w w' := by
  obtain ⟨k, key, val⟩ := s
  unfold showS
  by_cases h : checkE ⟨k, key, val⟩ = 0
  · rw [if_pos h, h]
    unfold textOf
    rcases valid_sorts h with ⟨h1, h2, e1, e2⟩ | ⟨h1, h2, e1, e2⟩ | ⟨h1, h2, e1, e2⟩
    · rw [if_pos (by show k < 6; have : k ≤ 5 := h2; omega)]
      exact text_low k key val w hT hk hv h h1 h2 e1 e2
    · rw [if_neg (by show ¬ k < 6; have : 6 ≤ k := h1; omega), if_pos (by show k < 9; have : k ≤ 8 := h2; omega)]
      exact text_mid k key val w hT hk hv h h1 h2 e1 e2 (valid_sizes h h1).1
    · rw [if_neg (by show ¬ k < 6; have : 9 ≤ k := h1; omega), if_neg (by show ¬ k < 9; have : 9 ≤ k := h1; omega)]
      exact text_top k key val w hT hk hv h h1 h2 e1 e2 (valid_sizes h (Int.le_trans (by decide) h1)).1 ((valid_sizes h (Int.le_trans (by decide) h1)).2 h1)
  · rw [if_neg h]
    exact text_bad k key val w hT hk hv h
theorem sayShows_walk (W : World) (hT : Tabs W) (k : Int) (_ : (Lit.int .i64 k).wf = true) (key : ByteArray) (hk : key.size ≤ maxLen) (val : ByteArray) (hv : val.size ≤ maxLen) :
    Calls Tryd.prog 3 #[.agg #[.int .i64 k, .string key, .string val]] W fun e w' => e = .returned (.bool true) ∧ Below W.heap.size W w' := by
  have HT := Lib.hid hT
  clear hT
  go_enter Tryd.func3, Tryd.ntmps3
  go_wp2_with fail
  refine (show_any ⟨k, key, val⟩ _ (HT.out.alloc _) hk hv).mono ?_
  rintro e w1 ⟨rfl, hb1⟩
  have c0 := box_cell hb1 0
  have c1 := box_cell hb1 1
  have c2 := box_cell hb1 2
  have hb := below_of_alloc (Nat.le_refl _) hb1
  clear hb1
  go_wp2_with fail
  refine (text_any ⟨k, key, val⟩ _ (HT.out.below hb) hk hv).mono ?_
  rintro e w2 ⟨rfl, hb2⟩
  go_wp2_with fail
  go_ret
  exact ⟨by simp, below_step hb (Nat.le_refl _) hb2⟩
end Go.Proofs.YtjbnfigpflambabDoor
