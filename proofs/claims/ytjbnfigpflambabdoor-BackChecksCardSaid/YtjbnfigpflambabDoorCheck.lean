/- say.Check: what it returns, given what Read returns for its value. -/
import Derived.Test.YtjbnfigpflambabDoorName
import Derived.Test.YtjbnfigpflambabDoorTabs
namespace Go.Proofs.YtjbnfigpflambabDoor
open Go.ChangeShapes Go.WideShapes Go.ChangeAt Go.RowKit

/-- a statement's value -/
def St.v (s : St) : Value := .agg #[.int .i64 s.k, .string s.key, .string s.val]
/-- Read's contract at one text -/
def ReadOk (f : Nat) (t : ByteArray) : Prop := ∀ w : World, Tabs w → Calls Tryd.prog f #[.string t] w fun e w' => e = .returned (.tuple #[(readS t).v, .int .i64 (readE t)]) ∧ Below w.heap.size w w'

theorem isE_iff (s : ByteArray) : isE s = s.toList.isEmpty := rfl
theorem nameB_ne {s : ByteArray} (h : nameB s = true) : s.toList.isEmpty = false := by
  rw [toList_data]
  unfold nameB at h
  simp only [Bool.and_eq_true, decide_eq_true_eq] at h
  cases e : s.data.toList with
  | nil =>
    have : s.size = 0 := by simpa using congrArg List.length e
    omega
  | cons a l => rfl
theorem valueB_ne {s : ByteArray} (h : valueB s = true) : s.toList.isEmpty = false := by
  rw [toList_data]
  unfold valueB at h
  simp only [Bool.and_eq_true, decide_eq_true_eq] at h
  cases e : s.data.toList with
  | nil =>
    have : s.size = 0 := by simpa using congrArg List.length e
    omega
  | cons a l => rfl

section
variable (k : Int) (key val : ByteArray) (w : World)

theorem check_kind (h : k < 1 ∨ 11 < k) :
    Calls Tryd.prog 21 #[.agg #[.int .i64 k, .string key, .string val]] w fun e w' => e = .returned (.int .i64 3) ∧ Below w.heap.size w w' := by
  by_cases h1 : k < 1
  · go_enter Tryd.func21, Tryd.ntmps21
    go_wp2_with fail
    go_ret
    exact ⟨rfl, boxed _ _⟩
  · have h2 : 11 < k := by omega
    clear h
    go_enter Tryd.func21, Tryd.ntmps21
    go_wp2_with fail
    go_ret
    exact ⟨rfl, boxed _ _⟩
theorem check_low (h1 : 1 ≤ k) (h2 : k ≤ 5) :
    Calls Tryd.prog 21 #[.agg #[.int .i64 k, .string key, .string val]] w fun e w' => e = .returned (.int .i64 (if isE key && isE val then 0 else 4)) ∧ Below w.heap.size w w' := by
  have d1 : decide (6 ≤ k) = false := by simp; omega
  have d2 : decide (9 ≤ k) = false := by simp; omega
  have d3 : (k == 9) = false := by simp; omega
  have d4 : (k == 10) = false := by simp; omega
  have d5 : (k == 11) = false := by simp; omega
  unfold isE
  cases e1 : key.toList.isEmpty <;> cases e2 : val.toList.isEmpty
  all_goals
    have f1 := e1
    have f2 := e2
    simp only [List.isEmpty_iff, List.isEmpty_eq_false_iff] at f1 f2
    go_enter Tryd.func21, Tryd.ntmps21
    go_wp2_with fail
    go_ret
    exact ⟨by simp, boxed _ _⟩
theorem check_mid (h1 : 6 ≤ k) (h2 : k ≤ 8) (hm : key.size ≤ maxLen) :
    Calls Tryd.prog 21 #[.agg #[.int .i64 k, .string key, .string val]] w fun e w' => e = .returned (.int .i64 (if !nameB key then 4 else if isE val then 0 else 4)) ∧ Below w.heap.size w w' := by
  have d1 : decide (6 ≤ k) = true := by simp; omega
  have d2 : decide (9 ≤ k) = false := by simp; omega
  have d3 : (k == 9) = false := by simp; omega
  have d4 : (k == 10) = false := by simp; omega
  have d5 : (k == 11) = false := by simp; omega
  cases e1 : key.toList.isEmpty with
  | true =>
    have hn : nameB key = false := by
      cases h : nameB key with
      | false => rfl
      | true => rw [nameB_ne h] at e1; cases e1
    have f1 := e1
    simp only [List.isEmpty_iff] at f1
    rw [hn]
    clear hn
    go_enter Tryd.func21, Tryd.ntmps21
    go_wp2_with fail
    go_ret
    exact ⟨by simp, boxed _ _⟩
  | false =>
    have f1 := e1
    simp only [List.isEmpty_eq_false_iff] at f1
    unfold isE
    cases e2 : val.toList.isEmpty with
    | false =>
      have f2 := e2
      simp only [List.isEmpty_eq_false_iff] at f2
      simp only [Bool.false_eq_true, if_false, ite_self]
      go_enter Tryd.func21, Tryd.ntmps21
      go_wp2_with fail
      go_ret
      exact ⟨by simp, boxed _ _⟩
    | true =>
      have f2 := e2
      simp only [List.isEmpty_iff] at f2
      cases hn : nameB key
      all_goals
        have HN := Lib.hid hn
        clear hn
        go_enter Tryd.func21, Tryd.ntmps21
        go_wp2_with fail
        refine (name_any key _ hm).mono ?_
        rintro e w1 ⟨rfl, hb1⟩
        have c0 := box_cell hb1 0
        have c1 := box_cell hb1 1
        have c2 := box_cell hb1 2
        have hb := below_of_alloc (Nat.le_refl _) hb1
        clear hb1
        rw [HN.out]
        go_wp2_with fail
        go_ret
        exact ⟨by simp, hb⟩
theorem check_set (h : k = 9 ∨ k = 10) (hm : key.size ≤ maxLen) (hm2 : val.size ≤ maxLen) :
    Calls Tryd.prog 21 #[.agg #[.int .i64 k, .string key, .string val]] w fun e w' => e = .returned (.int .i64 (if !nameB key then 4 else if valueB val then 0 else 4)) ∧ Below w.heap.size w w' := by
  cases e1 : key.toList.isEmpty with
  | true =>
    have hn : nameB key = false := by
      cases h : nameB key with
      | false => rfl
      | true => rw [nameB_ne h] at e1; cases e1
    have f1 := e1
    simp only [List.isEmpty_iff] at f1
    rw [hn]
    clear hn
    rcases h with rfl | rfl
    all_goals
      go_enter Tryd.func21, Tryd.ntmps21
      go_wp2_with fail
      go_ret
      exact ⟨by simp, boxed _ _⟩
  | false =>
    have f1 := e1
    simp only [List.isEmpty_eq_false_iff] at f1
    cases e2 : val.toList.isEmpty with
    | true =>
      have hv : valueB val = false := by
        cases h : valueB val with
        | false => rfl
        | true => rw [valueB_ne h] at e2; cases e2
      have f2 := e2
      simp only [List.isEmpty_iff] at f2
      rw [hv]
      clear hv
      simp only [Bool.false_eq_true, if_false, ite_self]
      rcases h with rfl | rfl
      all_goals
        go_enter Tryd.func21, Tryd.ntmps21
        go_wp2_with fail
        go_ret
        exact ⟨by simp, boxed _ _⟩
    | false =>
      have f2 := e2
      simp only [List.isEmpty_eq_false_iff] at f2
      cases hn : nameB key with
      | false =>
        have HN := Lib.hid hn
        clear hn
        rcases h with rfl | rfl
        all_goals
          go_enter Tryd.func21, Tryd.ntmps21
          go_wp2_with fail
          refine (name_any key _ hm).mono ?_
          rintro e w1 ⟨rfl, hb1⟩
          have hb := below_of_alloc (Nat.le_refl _) hb1
          clear hb1
          rw [HN.out]
          go_wp2_with fail
          go_ret
          exact ⟨by simp, hb⟩
      | true =>
        have HN := Lib.hid hn
        clear hn
        cases hv : valueB val
        all_goals
          have HV := Lib.hid hv
          clear hv
          rcases h with rfl | rfl
        all_goals
          go_enter Tryd.func21, Tryd.ntmps21
          go_wp2_with fail
          refine (name_any key _ hm).mono ?_
          rintro e w1 ⟨rfl, hb1⟩
          have c0 := box_cell hb1 0
          have c1 := box_cell hb1 1
          have c2 := box_cell hb1 2
          have hb := below_of_alloc (Nat.le_refl _) hb1
          clear hb1
          rw [HN.out]
          go_wp2_with fail
          refine (value_any val _ hm2).mono ?_
          rintro e w2 ⟨rfl, hb2⟩
          replace c0 := keep_cell hb2 c0
          replace c1 := keep_cell hb2 c1
          replace c2 := keep_cell hb2 c2
          replace hb := below_step hb (Nat.le_refl _) hb2
          clear hb2
          rw [HV.out]
          go_wp2_with fail
          go_ret
          exact ⟨by simp, hb⟩
theorem check_prep (hT : Tabs w) (hm : key.size ≤ maxLen) (hr : ReadOk 19 val) :
    Calls Tryd.prog 21 #[.agg #[.int .i64 11, .string key, .string val]] w fun e w' => e = .returned (.int .i64 (if nameB key && prepB val then 0 else 4)) ∧ Below w.heap.size w w' := by
  have HR := Lib.hid hr
  have HT := Lib.hid hT
  clear hr hT
  cases e1 : key.toList.isEmpty with
  | true =>
    have hn : nameB key = false := by
      cases h : nameB key with
      | false => rfl
      | true => rw [nameB_ne h] at e1; cases e1
    have f1 := e1
    simp only [List.isEmpty_iff] at f1
    rw [hn]
    clear hn
    go_enter Tryd.func21, Tryd.ntmps21
    go_wp2_with fail
    go_ret
    exact ⟨by simp, boxed _ _⟩
  | false =>
    have f1 := e1
    simp only [List.isEmpty_eq_false_iff] at f1
    cases e2 : val.toList.isEmpty with
    | true =>
      have hv : prepB val = false := by
        rw [prep_read]
        have : val = ⟨#[]⟩ := str_inj (by rw [List.isEmpty_iff] at e2; rw [e2, toList_data])
        subst this
        decide +kernel
      have f2 := e2
      simp only [List.isEmpty_iff] at f2
      rw [hv, Bool.and_false]
      clear hv
      go_enter Tryd.func21, Tryd.ntmps21
      go_wp2_with fail
      go_ret
      exact ⟨by simp, boxed _ _⟩
    | false =>
      have f2 := e2
      simp only [List.isEmpty_eq_false_iff] at f2
      cases hn : nameB key with
      | false =>
        have HN := Lib.hid hn
        clear hn
        rw [Bool.false_and]
        go_enter Tryd.func21, Tryd.ntmps21
        go_wp2_with fail
        refine (name_any key _ hm).mono ?_
        rintro e w1 ⟨rfl, hb1⟩
        have hb := below_of_alloc (Nat.le_refl _) hb1
        clear hb1
        rw [HN.out]
        go_wp2_with fail
        go_ret
        exact ⟨by simp, hb⟩
      | true =>
        have HN := Lib.hid hn
        clear hn
        rw [Bool.true_and, prep_read]
        cases h0 : decide (readE val = 0) with
        | false =>
          have g0 : (readE val != 0) = true := by simpa using h0
          rw [Bool.false_and]
          have G := Lib.hid h0
          clear h0
          go_enter Tryd.func21, Tryd.ntmps21
          go_wp2_with fail
          refine (name_any key _ hm).mono ?_
          rintro e w1 ⟨rfl, hb1⟩
          have c0 := box_cell hb1 0
          have c1 := box_cell hb1 1
          have c2 := box_cell hb1 2
          have hb := below_of_alloc (Nat.le_refl _) hb1
          clear hb1
          rw [HN.out]
          go_wp2_with fail
          refine (HR.out _ (HT.out.below hb)).mono ?_
          rintro e w2 ⟨rfl, hb2⟩
          replace hb := below_step hb (Nat.le_refl _) hb2
          clear hb2
          unfold St.v
          go_wp2_with fail
          go_ret
          exact ⟨by simp, hb.alloc hb.size _⟩
        | true =>
          have g0 : (readE val != 0) = false := by simpa using h0
          rw [Bool.true_and]
          have G := Lib.hid h0
          clear h0
          obtain ⟨rk, hrk⟩ : ∃ rk, (readS val).k = rk := ⟨_, rfl⟩
          rw [hrk]
          have RK := Lib.hid hrk
          clear hrk
          by_cases h6 : rk = 6
          · have b6 : (rk != 6) = false := by simp [h6]
            simp only [h6, decide_true, Bool.true_or, if_true]
            clear h6
            go_enter Tryd.func21, Tryd.ntmps21
            go_wp2_with fail
            refine (name_any key _ hm).mono ?_
            rintro e w1 ⟨rfl, hb1⟩
            have c0 := box_cell hb1 0
            have c1 := box_cell hb1 1
            have c2 := box_cell hb1 2
            have hb := below_of_alloc (Nat.le_refl _) hb1
            clear hb1
            rw [HN.out]
            go_wp2_with fail
            refine (HR.out _ (HT.out.below hb)).mono ?_
            rintro e w2 ⟨rfl, hb2⟩
            replace hb := below_step hb (Nat.le_refl _) hb2
            clear hb2
            unfold St.v
            rw [RK.out]
            go_wp2_with fail
            go_ret
            exact ⟨by simp, hb.alloc hb.size _⟩
          have b6 : (rk != 6) = true := by simp [h6]
          by_cases h7 : rk = 7
          · have b7 : (rk != 7) = false := by simp [h7]
            simp only [h7, decide_true, Bool.true_or, Bool.or_true, if_true]
            clear h6 h7
            go_enter Tryd.func21, Tryd.ntmps21
            go_wp2_with fail
            refine (name_any key _ hm).mono ?_
            rintro e w1 ⟨rfl, hb1⟩
            have c0 := box_cell hb1 0
            have c1 := box_cell hb1 1
            have c2 := box_cell hb1 2
            have hb := below_of_alloc (Nat.le_refl _) hb1
            clear hb1
            rw [HN.out]
            go_wp2_with fail
            refine (HR.out _ (HT.out.below hb)).mono ?_
            rintro e w2 ⟨rfl, hb2⟩
            replace hb := below_step hb (Nat.le_refl _) hb2
            clear hb2
            unfold St.v
            rw [RK.out]
            go_wp2_with fail
            go_ret
            exact ⟨by simp, hb.alloc hb.size _⟩
          have b7 : (rk != 7) = true := by simp [h7]
          by_cases h10 : rk = 10
          · have b10 : (rk != 10) = false := by simp [h10]
            simp only [h10, decide_true, Bool.or_true, if_true]
            clear h6 h7 h10
            go_enter Tryd.func21, Tryd.ntmps21
            go_wp2_with fail
            refine (name_any key _ hm).mono ?_
            rintro e w1 ⟨rfl, hb1⟩
            have c0 := box_cell hb1 0
            have c1 := box_cell hb1 1
            have c2 := box_cell hb1 2
            have hb := below_of_alloc (Nat.le_refl _) hb1
            clear hb1
            rw [HN.out]
            go_wp2_with fail
            refine (HR.out _ (HT.out.below hb)).mono ?_
            rintro e w2 ⟨rfl, hb2⟩
            replace hb := below_step hb (Nat.le_refl _) hb2
            clear hb2
            unfold St.v
            rw [RK.out]
            go_wp2_with fail
            go_ret
            exact ⟨by simp, hb.alloc hb.size _⟩
          · have b10 : (rk != 10) = true := by simp [h10]
            simp only [h6, h7, h10, decide_false, Bool.or_false, Bool.false_eq_true, if_false]
            clear h6 h7 h10
            go_enter Tryd.func21, Tryd.ntmps21
            go_wp2_with fail
            refine (name_any key _ hm).mono ?_
            rintro e w1 ⟨rfl, hb1⟩
            have c0 := box_cell hb1 0
            have c1 := box_cell hb1 1
            have c2 := box_cell hb1 2
            have hb := below_of_alloc (Nat.le_refl _) hb1
            clear hb1
            rw [HN.out]
            go_wp2_with fail
            refine (HR.out _ (HT.out.below hb)).mono ?_
            rintro e w2 ⟨rfl, hb2⟩
            replace hb := below_step hb (Nat.le_refl _) hb2
            clear hb2
            unfold St.v
            rw [RK.out]
            go_wp2_with fail
            go_ret
            exact ⟨by simp, hb.alloc hb.size _⟩
theorem check_any (hT : Tabs w) (hm : key.size ≤ maxLen) (hm2 : val.size ≤ maxLen) (hr : k = 11 → ReadOk 19 val) :
    Calls Tryd.prog 21 #[.agg #[.int .i64 k, .string key, .string val]] w fun e w' => e = .returned (.int .i64 (checkE ⟨k, key, val⟩)) ∧ Below w.heap.size w w' := by
  unfold checkE plainE
  by_cases h11 : k = 11
  · subst h11
    rw [if_pos rfl]
    exact check_prep key val w hT hm (hr rfl)
  rw [if_neg h11]
  by_cases h0 : k < 1 ∨ 11 < k
  · rw [if_pos h0]
    exact check_kind k key val w h0
  rw [if_neg h0]
  by_cases h6 : k < 6
  · rw [if_pos h6]
    exact check_low k key val w (by omega) (by omega)
  rw [if_neg h6]
  by_cases h9 : k < 9
  · simp only [if_pos h9]
    exact check_mid k key val w (by omega) (by omega) hm
  · simp only [if_neg h9]
    exact check_set k key val w (by omega) hm hm2
end
end Go.Proofs.YtjbnfigpflambabDoor
