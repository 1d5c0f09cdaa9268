/- The reference's StmtFault: what it returns, given what StmtOf returns for its value. -/
import Derived.Test.YtjbnfigpflambabDoorUpTo
namespace Go.Proofs.YtjbnfigpflambabDoor
open Go.ChangeShapes Go.WideShapes Go.ChangeAt Go.RowKit
section
variable (k : Int) (key val : ByteArray) (w : World)

theorem fault_kind (h : k < 1 ∨ 11 < k) :
    Calls Tryd.prog 30 #[.agg #[.int .i64 k, .string key, .string val]] w fun e w' => e = .returned (.int .i64 3) ∧ Below w.heap.size w w' := by
  go_enter Tryd.func30, Tryd.ntmps30
  go_wp2_with fail
  refine (in_no _ _ _ _ h).mono ?_
  rintro e w1 ⟨rfl, rfl⟩
  go_wp2_with fail
  go_ret
  exact ⟨rfl, boxed _ _⟩
theorem fault_low (h1 : 1 ≤ k) (h2 : k ≤ 5) :
    Calls Tryd.prog 30 #[.agg #[.int .i64 k, .string key, .string val]] w fun e w' => e = .returned (.int .i64 (if isE key && isE val then 0 else 4)) ∧ Below w.heap.size w w' := by
  have d1 : decide (k < 6) = true := by simp; omega
  unfold isE
  cases e1 : key.toList.isEmpty <;> cases e2 : val.toList.isEmpty
  all_goals
    have f1 := e1
    have f2 := e2
    simp only [List.isEmpty_iff, List.isEmpty_eq_false_iff] at f1 f2
    go_enter Tryd.func30, Tryd.ntmps30
    go_wp2_with fail
    refine (in_yes _ _ _ _ (by omega) (by omega)).mono ?_
    rintro e w1 ⟨rfl, rfl⟩
    go_wp2_with fail
    go_ret
    exact ⟨by simp, boxed _ _⟩
theorem fault_name (h1 : 6 ≤ k) (h2 : k ≤ 11) (hm : key.size ≤ maxLen) (hn : nameB key = false) :
    Calls Tryd.prog 30 #[.agg #[.int .i64 k, .string key, .string val]] w fun e w' => e = .returned (.int .i64 4) ∧ Below w.heap.size w w' := by
  have d1 : decide (k < 6) = false := by simp; omega
  have HN := Lib.hid hn
  clear hn
  go_enter Tryd.func30, Tryd.ntmps30
  go_wp2_with fail
  refine (in_yes _ _ _ _ (by omega) (by omega)).mono ?_
  rintro e w1 ⟨rfl, rfl⟩
  go_wp2_with fail
  refine (nameMay_any key _ hm).mono ?_
  rintro e w1 ⟨rfl, rfl⟩
  rw [HN.out]
  go_wp2_with fail
  go_ret
  exact ⟨rfl, boxed _ _⟩
theorem fault_mid (h : k = 6 ∨ k = 7 ∨ k = 8) (hm : key.size ≤ maxLen) (hn : nameB key = true) :
    Calls Tryd.prog 30 #[.agg #[.int .i64 k, .string key, .string val]] w fun e w' => e = .returned (.int .i64 (if isE val then 0 else 4)) ∧ Below w.heap.size w w' := by
  have HN := Lib.hid hn
  clear hn
  unfold isE
  cases e2 : val.toList.isEmpty <;> rcases h with rfl | rfl | rfl
  all_goals
    have f2 := e2
    simp only [List.isEmpty_iff, List.isEmpty_eq_false_iff] at f2
    go_enter Tryd.func30, Tryd.ntmps30
    go_wp2_with fail
    refine (in_yes _ _ _ _ (by omega) (by omega)).mono ?_
    rintro e w1 ⟨rfl, rfl⟩
    go_wp2_with fail
    refine (nameMay_any key _ hm).mono ?_
    rintro e w1 ⟨rfl, rfl⟩
    rw [HN.out]
    go_wp2_with fail
    go_ret
    exact ⟨by simp, boxed _ _⟩
theorem fault_set (h : k = 9 ∨ k = 10) (hm : key.size ≤ maxLen) (hm2 : val.size ≤ maxLen) (hn : nameB key = true) :
    Calls Tryd.prog 30 #[.agg #[.int .i64 k, .string key, .string val]] w fun e w' => e = .returned (.int .i64 (if valueB val then 0 else 4)) ∧ Below w.heap.size w w' := by
  have HN := Lib.hid hn
  clear hn
  cases hv : valueB val
  all_goals
    have HV := Lib.hid hv
    clear hv
    rcases h with rfl | rfl
  all_goals
    go_enter Tryd.func30, Tryd.ntmps30
    go_wp2_with fail
    refine (in_yes _ _ _ _ (by omega) (by omega)).mono ?_
    rintro e w1 ⟨rfl, rfl⟩
    go_wp2_with fail
    refine (nameMay_any key _ hm).mono ?_
    rintro e w1 ⟨rfl, rfl⟩
    rw [HN.out]
    go_wp2_with fail
    refine (valueMay_any val _ hm2).mono ?_
    rintro e w1 ⟨rfl, rfl⟩
    rw [HV.out]
    go_wp2_with fail
    go_ret
    exact ⟨by simp, boxed _ _⟩
theorem fault_prep (hT : Tabs w) (hm : key.size ≤ maxLen) (hn : nameB key = true) (hr : ReadOk 57 val) :
    Calls Tryd.prog 30 #[.agg #[.int .i64 11, .string key, .string val]] w fun e w' => e = .returned (.int .i64 (if prepB val then 0 else 4)) ∧ Below w.heap.size w w' := by
  have HN := Lib.hid hn
  have HR := Lib.hid hr
  have HT := Lib.hid hT
  clear hn hr hT
  obtain ⟨rk, hrk⟩ : ∃ rk, (readS val).k = rk := ⟨_, rfl⟩
  rw [prep_read, hrk]
  have RK := Lib.hid hrk
  clear hrk
  cases h0 : decide (readE val = 0) with
  | false =>
    have g0 : (readE val != 0) = true := by simpa using h0
    simp only [Bool.false_and, Bool.false_eq_true, if_false]
    have G := Lib.hid h0
    clear h0
    go_enter Tryd.func30, Tryd.ntmps30
    go_wp2_with fail
    refine (in_yes _ _ _ _ (by omega) (by omega)).mono ?_
    rintro e w1 ⟨rfl, rfl⟩
    go_wp2_with fail
    refine (nameMay_any key _ hm).mono ?_
    rintro e w1 ⟨rfl, rfl⟩
    rw [HN.out]
    go_wp2_with fail
    refine (HR.out _ (HT.out.alloc _)).mono ?_
    rintro e w2 ⟨rfl, hb2⟩
    have hb := below_of_alloc (Nat.le_refl _) hb2
    clear hb2
    unfold St.v
    rw [RK.out]
    go_wp2_with fail
    go_ret
    exact ⟨rfl, hb.alloc hb.size _⟩
  | true =>
    have g0 : (readE val != 0) = false := by simpa using h0
    rw [Bool.true_and]
    have G := Lib.hid h0
    clear h0
    by_cases h67 : 6 ≤ rk ∧ rk ≤ 7
    · obtain ⟨h6, h7⟩ := h67
      have e : (decide (rk = 6) || decide (rk = 7) || decide (rk = 10)) = true := by simp; omega
      simp only [e, if_true]
      clear e
      go_enter Tryd.func30, Tryd.ntmps30
      go_wp2_with fail
      refine (in_yes _ _ _ _ (by omega) (by omega)).mono ?_
      rintro e w1 ⟨rfl, rfl⟩
      go_wp2_with fail
      refine (nameMay_any key _ hm).mono ?_
      rintro e w1 ⟨rfl, rfl⟩
      rw [HN.out]
      go_wp2_with fail
      refine (HR.out _ (HT.out.alloc _)).mono ?_
      rintro e w2 ⟨rfl, hb2⟩
      have hb := below_of_alloc (Nat.le_refl _) hb2
      clear hb2
      unfold St.v
      rw [RK.out]
      go_wp2_with fail
      refine (in_yes _ _ _ _ (by omega) (by omega)).mono ?_
      rintro e w1 ⟨rfl, rfl⟩
      go_wp2_with fail
      go_ret
      exact ⟨rfl, hb.alloc hb.size _⟩
    · by_cases h10 : rk = 10
      · have b10 : (rk != 10) = false := by simp [h10]
        have e : (decide (rk = 6) || decide (rk = 7) || decide (rk = 10)) = true := by simp [h10]
        have h67' : rk < 6 ∨ 7 < rk := by omega
        have H67 := Lib.hid h67'
        simp only [e, if_true]
        clear e h10 h67 h67'
        go_enter Tryd.func30, Tryd.ntmps30
        go_wp2_with fail
        refine (in_yes _ _ _ _ (by omega) (by omega)).mono ?_
        rintro e w1 ⟨rfl, rfl⟩
        go_wp2_with fail
        refine (nameMay_any key _ hm).mono ?_
        rintro e w1 ⟨rfl, rfl⟩
        rw [HN.out]
        go_wp2_with fail
        refine (HR.out _ (HT.out.alloc _)).mono ?_
        rintro e w2 ⟨rfl, hb2⟩
        have hb := below_of_alloc (Nat.le_refl _) hb2
        clear hb2
        unfold St.v
        rw [RK.out]
        go_wp2_with fail
        refine (in_no _ _ _ _ H67.out).mono ?_
        rintro e w1 ⟨rfl, rfl⟩
        go_wp2_with fail
        go_ret
        exact ⟨rfl, hb.alloc hb.size _⟩
      · have b10 : (rk != 10) = true := by simp [h10]
        have e : (decide (rk = 6) || decide (rk = 7) || decide (rk = 10)) = false := by simp; omega
        have h67' : rk < 6 ∨ 7 < rk := by omega
        have H67 := Lib.hid h67'
        simp only [e, Bool.false_eq_true, if_false]
        clear e h10 h67 h67'
        go_enter Tryd.func30, Tryd.ntmps30
        go_wp2_with fail
        refine (in_yes _ _ _ _ (by omega) (by omega)).mono ?_
        rintro e w1 ⟨rfl, rfl⟩
        go_wp2_with fail
        refine (nameMay_any key _ hm).mono ?_
        rintro e w1 ⟨rfl, rfl⟩
        rw [HN.out]
        go_wp2_with fail
        refine (HR.out _ (HT.out.alloc _)).mono ?_
        rintro e w2 ⟨rfl, hb2⟩
        have hb := below_of_alloc (Nat.le_refl _) hb2
        clear hb2
        unfold St.v
        rw [RK.out]
        go_wp2_with fail
        refine (in_no _ _ _ _ H67.out).mono ?_
        rintro e w1 ⟨rfl, rfl⟩
        go_wp2_with fail
        go_ret
        exact ⟨rfl, hb.alloc hb.size _⟩
theorem fault_any (hT : Tabs w) (hm : key.size ≤ maxLen) (hm2 : val.size ≤ maxLen) (hr : k = 11 → ReadOk 57 val) :
    Calls Tryd.prog 30 #[.agg #[.int .i64 k, .string key, .string val]] w fun e w' => e = .returned (.int .i64 (checkE ⟨k, key, val⟩)) ∧ Below w.heap.size w w' := by
  unfold checkE plainE
  by_cases h0 : k < 1 ∨ 11 < k
  · rw [if_neg (by simp; omega), if_pos h0]
    exact fault_kind k key val w h0
  by_cases h6 : k < 6
  · rw [if_neg (by simp; omega), if_neg h0, if_pos h6]
    exact fault_low k key val w (by omega) (by omega)
  cases hn : nameB key with
  | false =>
    have e : (if k = 11 then (if (false && prepB val) = true then (0 : Int) else 4) else if k < 1 ∨ 11 < k then 3 else if k < 6 then (if (isE key && isE val) = true then 0 else 4) else if (!false) = true then 4 else if k < 9 then (if isE val = true then 0 else 4) else if valueB val = true then 0 else 4) = 4 := by
      rw [if_neg h0, if_neg h6]
      simp
    simp only [hn, e]
    exact fault_name k key val w (by omega) (by omega) hm hn
  | true =>
    simp only [hn, Bool.true_and, Bool.not_true, Bool.false_eq_true, if_false]
    by_cases h11 : k = 11
    · subst h11
      rw [if_pos rfl]
      exact fault_prep key val w hT hm hn (hr rfl)
    rw [if_neg h11, if_neg h0, if_neg h6]
    by_cases h9 : k < 9
    · rw [if_pos h9]
      exact fault_mid k key val w (by omega) hm hn
    · rw [if_neg h9]
      exact fault_set k key val w (by omega) hm hm2 hn
end
end Go.Proofs.YtjbnfigpflambabDoor
