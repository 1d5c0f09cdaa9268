/- say.Check: what it returns, given what Read returns for its value. say.Read: what it returns, given what Check returns. What a row's list gives at the start of a call: the words' table; MaxLen by the world's shape. -/
import Derived.Test.YtjbnfigpflambacGreatDoorG05
import Derived.Test.YtjbnfigpflambacGreatDoorG07
import Derived.Test.YtjbnfigpflambacGreatDoorG10
import Derived.Deep.RegionHeld3
import Derived.Deep.DeepCutAuto
import Derived.Deep.DeepHandedRow
/- say.Check: what it returns, given what Read returns for its value. -/
namespace Go.Proofs.YtjbnfigpflambacGreatDoor
open Go.ChangeShapes Go.WideShapes Go.ChangeAt Go.RowKit
def St.v (s : St) : Value := .agg #[.int .i64 s.k, .string s.key, .string s.val]
def ReadOk (f : Nat) (t : ByteArray) : Prop := ∀ w : World, Tabs w → Calls Tryz.prog f #[.string t] w fun e w' => e = .returned (.tuple #[(readS t).v, .int .i64 (readE t)]) ∧ Below w.heap.size w w'
theorem nameB_ne {s : ByteArray} (h : nameB s = true) : s.toList.isEmpty = false := by
 rw [toList_data]
 unfold nameB at h
 simp only [Bool.and_eq_true, decide_eq_true_eq] at h
 cases e : s.data.toList with
 | nil =>
  have : s.size = 0 := by simpa using congrArg List.length e
  omega
 | cons a l => rfl
theorem valueB_ne {s : ByteArray} (h : valueB s = true) : s.toList.isEmpty = false := by
 rw [toList_data]
 unfold valueB at h
 simp only [Bool.and_eq_true, decide_eq_true_eq] at h
 cases e : s.data.toList with
 | nil =>
  have : s.size = 0 := by simpa using congrArg List.length e
  omega
 | cons a l => rfl
section
variable (k : Int) (key val : ByteArray) (w : World)
theorem check_kind (h : k < 1 ∨ 11 < k) :
  Calls Tryz.prog 63 #[.agg #[.int .i64 k, .string key, .string val]] w fun e w' => e = .returned (.int .i64 3) ∧ Below w.heap.size w w' := by
 by_cases h1 : k < 1
 ·go_enter Tryz.func63, Tryz.ntmps63
  go_wp2_with fail
  go_ret
  exact ⟨rfl, boxed _ _⟩
 ·have h2 : 11 < k := by omega
  clear h
  go_enter Tryz.func63, Tryz.ntmps63
  go_wp2_with fail
  go_ret
  exact ⟨rfl, boxed _ _⟩
theorem check_low (h1 : 1 ≤ k) (h2 : k ≤ 5) :
  Calls Tryz.prog 63 #[.agg #[.int .i64 k, .string key, .string val]] w fun e w' => e = .returned (.int .i64 (if isE key && isE val then 0 else 4)) ∧ Below w.heap.size w w' := by
 have d1 : decide (6 ≤ k) = false := by simp; omega
 have d2 : decide (9 ≤ k) = false := by simp; omega
 have d3 : (k == 9) = false := by simp; omega
 have d4 : (k == 10) = false := by simp; omega
 have d5 : (k == 11) = false := by simp; omega
 unfold isE
 cases e1 : key.toList.isEmpty <;> cases e2 : val.toList.isEmpty
 all_goals
  have f1 := e1
  have f2 := e2
  simp only [List.isEmpty_iff, List.isEmpty_eq_false_iff] at f1 f2
  go_enter Tryz.func63, Tryz.ntmps63
  go_wp2_with fail
  go_ret
  exact ⟨by simp, boxed _ _⟩
theorem check_mid (h1 : 6 ≤ k) (h2 : k ≤ 8) (hm : key.size ≤ maxLen) :
  Calls Tryz.prog 63 #[.agg #[.int .i64 k, .string key, .string val]] w fun e w' => e = .returned (.int .i64 (if !nameB key then 4 else if isE val then 0 else 4)) ∧ Below w.heap.size w w' := by
 have d1 : decide (6 ≤ k) = true := by simp; omega
 have d2 : decide (9 ≤ k) = false := by simp; omega
 have d3 : (k == 9) = false := by simp; omega
 have d4 : (k == 10) = false := by simp; omega
 have d5 : (k == 11) = false := by simp; omega
 cases e1 : key.toList.isEmpty with
 | true =>
  have hn : nameB key = false := by
   cases h : nameB key with
   | false => rfl
   | true => rw [nameB_ne h] at e1; cases e1
  have f1 := e1
  simp only [List.isEmpty_iff] at f1
  rw [hn]
  clear hn
  go_enter Tryz.func63, Tryz.ntmps63
  go_wp2_with fail
  go_ret
  exact ⟨by simp, boxed _ _⟩
 | false =>
  have f1 := e1
  simp only [List.isEmpty_eq_false_iff] at f1
  unfold isE
  cases e2 : val.toList.isEmpty with
  | false =>
   have f2 := e2
   simp only [List.isEmpty_eq_false_iff] at f2
   simp only [Bool.false_eq_true, if_false, ite_self]
   go_enter Tryz.func63, Tryz.ntmps63
   go_wp2_with fail
   go_ret
   exact ⟨by simp, boxed _ _⟩
  | true =>
   have f2 := e2
   simp only [List.isEmpty_iff] at f2
   cases hn : nameB key
   all_goals
    have HN := Lib.hid hn
    clear hn
    go_enter Tryz.func63, Tryz.ntmps63
    go_wp2_with fail
    refine (name_any key _ hm).mono ?_
    rintro e w1 ⟨rfl, hb1⟩
    have c0 := box_cell hb1 0
    have c1 := box_cell hb1 1
    have c2 := box_cell hb1 2
    have hb := below_of_alloc (Nat.le_refl _) hb1
    clear hb1
    rw [HN.out]
    go_wp2_with fail
    go_ret
    exact ⟨by simp, hb⟩
theorem check_set (h : k = 9 ∨ k = 10) (hm : key.size ≤ maxLen) (hm2 : val.size ≤ maxLen) :
  Calls Tryz.prog 63 #[.agg #[.int .i64 k, .string key, .string val]] w fun e w' => e = .returned (.int .i64 (if !nameB key then 4 else if valueB val then 0 else 4)) ∧ Below w.heap.size w w' := by
 cases e1 : key.toList.isEmpty with
 | true =>
  have hn : nameB key = false := by
   cases h : nameB key with
   | false => rfl
   | true => rw [nameB_ne h] at e1; cases e1
  have f1 := e1
  simp only [List.isEmpty_iff] at f1
  rw [hn]
  clear hn
  rcases h with rfl | rfl
  all_goals
   go_enter Tryz.func63, Tryz.ntmps63
   go_wp2_with fail
   go_ret
   exact ⟨by simp, boxed _ _⟩
 | false =>
  have f1 := e1
  simp only [List.isEmpty_eq_false_iff] at f1
  cases e2 : val.toList.isEmpty with
  | true =>
   have hv : valueB val = false := by
    cases h : valueB val with
    | false => rfl
    | true => rw [valueB_ne h] at e2; cases e2
   have f2 := e2
   simp only [List.isEmpty_iff] at f2
   rw [hv]
   clear hv
   simp only [Bool.false_eq_true, if_false, ite_self]
   rcases h with rfl | rfl
   all_goals
    go_enter Tryz.func63, Tryz.ntmps63
    go_wp2_with fail
    go_ret
    exact ⟨by simp, boxed _ _⟩
  | false =>
   have f2 := e2
   simp only [List.isEmpty_eq_false_iff] at f2
   cases hn : nameB key with
   | false =>
    have HN := Lib.hid hn
    clear hn
    rcases h with rfl | rfl
    all_goals
     go_enter Tryz.func63, Tryz.ntmps63
     go_wp2_with fail
     refine (name_any key _ hm).mono ?_
     rintro e w1 ⟨rfl, hb1⟩
     have hb := below_of_alloc (Nat.le_refl _) hb1
     clear hb1
     rw [HN.out]
     go_wp2_with fail
     go_ret
     exact ⟨by simp, hb⟩
   | true =>
    have HN := Lib.hid hn
    clear hn
    cases hv : valueB val
    all_goals
     have HV := Lib.hid hv
     clear hv
     rcases h with rfl | rfl
    all_goals
     go_enter Tryz.func63, Tryz.ntmps63
     go_wp2_with fail
     refine (name_any key _ hm).mono ?_
     rintro e w1 ⟨rfl, hb1⟩
     have c0 := box_cell hb1 0
     have c1 := box_cell hb1 1
     have c2 := box_cell hb1 2
     have hb := below_of_alloc (Nat.le_refl _) hb1
     clear hb1
     rw [HN.out]
     go_wp2_with fail
     refine (value_any val _ hm2).mono ?_
     rintro e w2 ⟨rfl, hb2⟩
     replace c0 := keep_cell hb2 c0
     replace c1 := keep_cell hb2 c1
     replace c2 := keep_cell hb2 c2
     replace hb := below_step hb (Nat.le_refl _) hb2
     clear hb2
     rw [HV.out]
     go_wp2_with fail
     go_ret
     exact ⟨by simp, hb⟩
theorem check_prep (hT : Tabs w) (hm : key.size ≤ maxLen) (hr : ReadOk 79 val) :
  Calls Tryz.prog 63 #[.agg #[.int .i64 11, .string key, .string val]] w fun e w' => e = .returned (.int .i64 (if nameB key && prepB val then 0 else 4)) ∧ Below w.heap.size w w' := by
 have HR := Lib.hid hr
 have HT := Lib.hid hT
 clear hr hT
 cases e1 : key.toList.isEmpty with
 | true =>
  have hn : nameB key = false := by
   cases h : nameB key with
   | false => rfl
   | true => rw [nameB_ne h] at e1; cases e1
  have f1 := e1
  simp only [List.isEmpty_iff] at f1
  rw [hn]
  clear hn
  go_enter Tryz.func63, Tryz.ntmps63
  go_wp2_with fail
  go_ret
  exact ⟨by simp, boxed _ _⟩
 | false =>
  have f1 := e1
  simp only [List.isEmpty_eq_false_iff] at f1
  cases e2 : val.toList.isEmpty with
  | true =>
   have hv : prepB val = false := by
    rw [prep_read]
    have : val = ⟨#[]⟩ := str_inj (by rw [List.isEmpty_iff] at e2; rw [e2, toList_data])
    subst this
    decide +kernel
   have f2 := e2
   simp only [List.isEmpty_iff] at f2
   rw [hv, Bool.and_false]
   clear hv
   go_enter Tryz.func63, Tryz.ntmps63
   go_wp2_with fail
   go_ret
   exact ⟨by simp, boxed _ _⟩
  | false =>
   have f2 := e2
   simp only [List.isEmpty_eq_false_iff] at f2
   cases hn : nameB key with
   | false =>
    have HN := Lib.hid hn
    clear hn
    rw [Bool.false_and]
    go_enter Tryz.func63, Tryz.ntmps63
    go_wp2_with fail
    refine (name_any key _ hm).mono ?_
    rintro e w1 ⟨rfl, hb1⟩
    have hb := below_of_alloc (Nat.le_refl _) hb1
    clear hb1
    rw [HN.out]
    go_wp2_with fail
    go_ret
    exact ⟨by simp, hb⟩
   | true =>
    have HN := Lib.hid hn
    clear hn
    rw [Bool.true_and, prep_read]
    cases h0 : decide (readE val = 0) with
    | false =>
     have g0 : (readE val != 0) = true := by simpa using h0
     rw [Bool.false_and]
     have G := Lib.hid h0
     clear h0
     go_enter Tryz.func63, Tryz.ntmps63
     go_wp2_with fail
     refine (name_any key _ hm).mono ?_
     rintro e w1 ⟨rfl, hb1⟩
     have c0 := box_cell hb1 0
     have c1 := box_cell hb1 1
     have c2 := box_cell hb1 2
     have hb := below_of_alloc (Nat.le_refl _) hb1
     clear hb1
     rw [HN.out]
     go_wp2_with fail
     refine (HR.out _ (HT.out.below hb)).mono ?_
     rintro e w2 ⟨rfl, hb2⟩
     replace hb := below_step hb (Nat.le_refl _) hb2
     clear hb2
     unfold St.v
     go_wp2_with fail
     go_ret
     exact ⟨by simp, hb.alloc hb.size _⟩
    | true =>
     have g0 : (readE val != 0) = false := by simpa using h0
     rw [Bool.true_and]
     have G := Lib.hid h0
     clear h0
     obtain ⟨rk, hrk⟩ : ∃ rk, (readS val).k = rk := ⟨_, rfl⟩
     rw [hrk]
     have RK := Lib.hid hrk
     clear hrk
     by_cases h6 : rk = 6
     ·have b6 : (rk != 6) = false := by simp [h6]
      simp only [h6, decide_true, Bool.true_or, if_true]
      clear h6
      go_enter Tryz.func63, Tryz.ntmps63
      go_wp2_with fail
      refine (name_any key _ hm).mono ?_
      rintro e w1 ⟨rfl, hb1⟩
      have c0 := box_cell hb1 0
      have c1 := box_cell hb1 1
      have c2 := box_cell hb1 2
      have hb := below_of_alloc (Nat.le_refl _) hb1
      clear hb1
      rw [HN.out]
      go_wp2_with fail
      refine (HR.out _ (HT.out.below hb)).mono ?_
      rintro e w2 ⟨rfl, hb2⟩
      replace hb := below_step hb (Nat.le_refl _) hb2
      clear hb2
      unfold St.v
      rw [RK.out]
      go_wp2_with fail
      go_ret
      exact ⟨by simp, hb.alloc hb.size _⟩
     have b6 : (rk != 6) = true := by simp [h6]
     by_cases h7 : rk = 7
     ·have b7 : (rk != 7) = false := by simp [h7]
      simp only [h7, decide_true, Bool.true_or, Bool.or_true, if_true]
      clear h6 h7
      go_enter Tryz.func63, Tryz.ntmps63
      go_wp2_with fail
      refine (name_any key _ hm).mono ?_
      rintro e w1 ⟨rfl, hb1⟩
      have c0 := box_cell hb1 0
      have c1 := box_cell hb1 1
      have c2 := box_cell hb1 2
      have hb := below_of_alloc (Nat.le_refl _) hb1
      clear hb1
      rw [HN.out]
      go_wp2_with fail
      refine (HR.out _ (HT.out.below hb)).mono ?_
      rintro e w2 ⟨rfl, hb2⟩
      replace hb := below_step hb (Nat.le_refl _) hb2
      clear hb2
      unfold St.v
      rw [RK.out]
      go_wp2_with fail
      go_ret
      exact ⟨by simp, hb.alloc hb.size _⟩
     have b7 : (rk != 7) = true := by simp [h7]
     by_cases h10 : rk = 10
     ·have b10 : (rk != 10) = false := by simp [h10]
      simp only [h10, decide_true, Bool.or_true, if_true]
      clear h6 h7 h10
      go_enter Tryz.func63, Tryz.ntmps63
      go_wp2_with fail
      refine (name_any key _ hm).mono ?_
      rintro e w1 ⟨rfl, hb1⟩
      have c0 := box_cell hb1 0
      have c1 := box_cell hb1 1
      have c2 := box_cell hb1 2
      have hb := below_of_alloc (Nat.le_refl _) hb1
      clear hb1
      rw [HN.out]
      go_wp2_with fail
      refine (HR.out _ (HT.out.below hb)).mono ?_
      rintro e w2 ⟨rfl, hb2⟩
      replace hb := below_step hb (Nat.le_refl _) hb2
      clear hb2
      unfold St.v
      rw [RK.out]
      go_wp2_with fail
      go_ret
      exact ⟨by simp, hb.alloc hb.size _⟩
     ·have b10 : (rk != 10) = true := by simp [h10]
      simp only [h6, h7, h10, decide_false, Bool.or_false, Bool.false_eq_true, if_false]
      clear h6 h7 h10
      go_enter Tryz.func63, Tryz.ntmps63
      go_wp2_with fail
      refine (name_any key _ hm).mono ?_
      rintro e w1 ⟨rfl, hb1⟩
      have c0 := box_cell hb1 0
      have c1 := box_cell hb1 1
      have c2 := box_cell hb1 2
      have hb := below_of_alloc (Nat.le_refl _) hb1
      clear hb1
      rw [HN.out]
      go_wp2_with fail
      refine (HR.out _ (HT.out.below hb)).mono ?_
      rintro e w2 ⟨rfl, hb2⟩
      replace hb := below_step hb (Nat.le_refl _) hb2
      clear hb2
      unfold St.v
      rw [RK.out]
      go_wp2_with fail
      go_ret
      exact ⟨by simp, hb.alloc hb.size _⟩
theorem check_any (hT : Tabs w) (hm : key.size ≤ maxLen) (hm2 : val.size ≤ maxLen) (hr : k = 11 → ReadOk 79 val) :
  Calls Tryz.prog 63 #[.agg #[.int .i64 k, .string key, .string val]] w fun e w' => e = .returned (.int .i64 (checkE ⟨k, key, val⟩)) ∧ Below w.heap.size w w' := by
 unfold checkE plainE
 by_cases h11 : k = 11
 ·subst h11
  rw [if_pos rfl]
  exact check_prep key val w hT hm (hr rfl)
 rw [if_neg h11]
 by_cases h0 : k < 1 ∨ 11 < k
 ·rw [if_pos h0]
  exact check_kind k key val w h0
 rw [if_neg h0]
 by_cases h6 : k < 6
 ·rw [if_pos h6]
  exact check_low k key val w (by omega) (by omega)
 rw [if_neg h6]
 by_cases h9 : k < 9
 ·simp only [if_pos h9]
  exact check_mid k key val w (by omega) (by omega) hm
 ·simp only [if_neg h9]
  exact check_set k key val w (by omega) hm hm2
end
end Go.Proofs.YtjbnfigpflambacGreatDoor
/- say.Read: what it returns, given what Check returns. -/
namespace Go.Proofs.YtjbnfigpflambacGreatDoor
open Go.ChangeShapes Go.WideShapes Go.ChangeAt Go.RowKit
theorem parts_cell (t : ByteArray) (n i : Nat) (hi : i < n) : (Lib.cellsOf (parts t) n)[i]? = some (.string (partAt t i)) := by
 unfold Lib.cellsOf partAt
 rw [List.getElem?_toArray, List.getElem?_append]
 by_cases h : i < (parts t).length
 ·rw [if_pos (by simpa using h)]
  simp [List.getD, h]
 ·rw [if_neg (by simpa using h), List.getElem?_replicate, if_pos (by simp; omega)]
  simp [List.getD, Nat.le_of_not_lt h]
  rfl
theorem split3 (t : ByteArray) (w : World) (hT : Tabs w) (ht : t.size ≤ 60) :
  Calls Tryz.prog 105 #[.string t, .string ⟨#[32]⟩, .int .i64 3] w fun e w' =>
   ∃ n : Nat, e = .returned (.slice (some ⟨w.heap.size, 0, none⟩) (parts t).length n) ∧ (parts t).length ≤ n ∧ n ≤ 3 ∧ Below w.heap.size w w' ∧ w'.heap.size = w.heap.size + 1 ∧
    ∀ i, i < n → w'.cell? ⟨w.heap.size, i, none⟩ = some (.string (partAt t i)) := by
 obtain ⟨m, hm⟩ := hT.maxLen
 have hl := parts_length t
 have e1 : 1 ≤ (⟨#[32]⟩ : ByteArray).size := Nat.le_refl _
 refine (Tryz.strings_SplitN t ⟨#[32]⟩ 3 m w (by omega) hm e1 (by omega) (by omega)).mono ?_
 rintro e w' ⟨rfl, rfl⟩
 rw [parts_eq]
 refine ⟨min 3 (t.size + 1), rfl, by omega, by omega, boxed _ _, by simp, fun i hi => ?_⟩
 exact (cell_of_row _ _ i _ _ (0, 0) (heap_alloc_new w _)).trans (parts_cell t _ i hi)
theorem read_long (t : ByteArray) (w : World) (ht : 60 < t.size) (hm : t.size ≤ maxLen) :
  Calls Tryz.prog 79 #[.string t] w fun e w' => e = .returned (.tuple #[St.none.v, .int .i64 1]) ∧ Below w.heap.size w w' := by
 unfold maxLen at hm
 go_enter Tryz.func79, Tryz.ntmps79
 go_wp2_with fail
 exact bodyPost_ret (v := .tuple #[St.none.v, .int .i64 1]) (by simp [results, Tryz.results79, go_sem, St.v, St.none]) rfl ⟨rfl, boxed _ _⟩
theorem index_word (x : ByteArray) (w : World) (hT : Tabs w) :
  Calls Tryz.prog 106 #[.slice (some ⟨0, 1, none⟩) 11 11, .string x] w fun e w' => e = .returned (.int .i64 (kindOf x - 1)) ∧ w' = w := by
 have h := Tryz.slices_Index_string 0 1 11 11 wordsL x w (by decide) (by omega) (fun j hj => hT.words j hj)
 have e : kindOf x - 1 = Lib.idxOfS (List.take 11 wordsL) x := by
  show Lib.idxOfS wordsL x + 1 - 1 = Lib.idxOfS wordsL x
  omega
 rw [e]
 exact h
theorem index_word_is (x : ByteArray) (K : Int) (w : World) (hK : Hid (kindOf x = K)) (hT : Tabs w) :
  Calls Tryz.prog 106 #[.slice (some ⟨0, 1, none⟩) 11 11, .string x] w fun e w' => e = .returned (.int .i64 (K - 1)) ∧ w = w' := by
 rw [← hK.out]
 exact (index_word x w hT).mono fun e w' ⟨he, hw⟩ => ⟨he, hw.symm⟩
theorem tabs_drew {w : World} (h : Tabs w) : Tabs w.drew := ⟨h.words, h.maxLen⟩
theorem part_out {t : ByteArray} {L i : Nat} (hL : (parts t).length = L) (h : L ≤ i) : partAt t i = ⟨#[]⟩ := by
 unfold partAt
 rw [List.getD, List.getElem?_eq_none (by omega)]
 rfl
structure Mid (w wx : World) (K : Int) (p1 p2 : ByteArray) : Prop where
 bel : Below w.heap.size w wx
 res : Blk wx w.heap.size 41 #[.int .i64 0, .string ⟨#[]⟩, .string ⟨#[]⟩]
 stm : Blk wx (w.heap.size + 2) 41 #[.int .i64 K, .string p1, .string p2]
section
variable {w wx : World} {K : Int} {p1 p2 : ByteArray}
theorem Mid.cells (m : Mid w wx K p1 p2) : wx.cell? ⟨w.heap.size, 0, none⟩ = some (.int .i64 0) ∧ wx.cell? ⟨w.heap.size, 1, none⟩ = some (.string ⟨#[]⟩) ∧ wx.cell? ⟨w.heap.size, 2, none⟩ = some (.string ⟨#[]⟩) ∧
  wx.cell? ⟨w.heap.size + 2, 0, none⟩ = some (.int .i64 K) ∧ wx.cell? ⟨w.heap.size + 2, 1, none⟩ = some (.string p1) ∧ wx.cell? ⟨w.heap.size + 2, 2, none⟩ = some (.string p2) ∧
  (∀ i, wx.frozen? ⟨w.heap.size, i, none⟩ = false) ∧ (∀ i, wx.frozen? ⟨w.heap.size + 2, i, none⟩ = false) :=
 ⟨m.res.cell 0, m.res.cell 1, m.res.cell 2, m.stm.cell 0, m.stm.cell 1, m.stm.cell 2, m.res.frozen, m.stm.frozen⟩
theorem Mid.set_1 (m : Mid w wx K p1 p2) (q : ByteArray) : Mid w (wx.setCell ⟨w.heap.size + 2, 1, none⟩ (.string q)) K q p2 :=
 ⟨m.bel.setCell (by show w.heap.size ≤ w.heap.size + 2; omega) _, m.res.far (by show w.heap.size ≠ w.heap.size + 2; omega) _, m.stm.set_ 1 _⟩
theorem Mid.set_2 (m : Mid w wx K p1 p2) (q : ByteArray) : Mid w (wx.setCell ⟨w.heap.size + 2, 2, none⟩ (.string q)) K p1 q :=
 ⟨m.bel.setCell (by show w.heap.size ≤ w.heap.size + 2; omega) _, m.res.far (by show w.heap.size ≠ w.heap.size + 2; omega) _, m.stm.set_ 2 _⟩
theorem Mid.keep {w3 : World} (m : Mid w wx K p1 p2) (hb : Below wx.heap.size wx w3) : Mid w w3 K p1 p2 :=
 ⟨below_step m.bel (Nat.le_refl _) hb, m.res.keep hb, m.stm.keep hb⟩
end
theorem read_go {t : ByteArray} {s : St} (ht : t.size ≤ 60) (hk : kindOf (partAt t 0) ≠ 0) (hb : bare t = false) (hr : rawOf t = s) : readE t = checkE s := by
 unfold readE
 rw [if_neg (by omega), if_neg hk, hb, hr]
 rfl
theorem read_bare {t : ByteArray} (ht : t.size ≤ 60) (hk : kindOf (partAt t 0) ≠ 0) (hb : bare t = true) : readE t = 4 := by
 unfold readE
 rw [if_neg (by omega), if_neg hk, hb]
 rfl
set_option maxRecDepth 100000 in
set_option maxHeartbeats 2000000 in
theorem read_1 (t : ByteArray) (w : World) (ht : t.size ≤ 60) (hT : Tabs w) (hsub : kindOf (partAt t 0) = 11 → ReadOk 79 (partAt t 2)) :
  Calls Tryz.prog 79 #[.string t] w fun e w' => e = .returned (.tuple #[(readS t).v, .int .i64 (readE t)]) ∧ Below w.heap.size w w' := by
 have HT := Lib.hid hT
 clear hT
 obtain ⟨L, hL⟩ : ∃ L, (parts t).length = L := ⟨_, rfl⟩
 obtain ⟨l1, l2, l3⟩ := parts_length t
 rw [hL] at l1 l2 l3
 obtain ⟨k1, k2⟩ := kindOf_bd (partAt t 0)
 obtain ⟨K, hK⟩ : ∃ K, kindOf (partAt t 0) = K := ⟨_, rfl⟩
 rw [hK] at k1 k2
 have LL := Lib.hid hL
 have KK := Lib.hid hK
 clear hL hK
 go_enter Tryz.func79, Tryz.ntmps79
 go_wp2_with fail
 refine (split3 t _ (HT.out.alloc _) ht).mono ?_
 rintro e w1 ⟨n, rfl, hn1, hn2, hb1, hz, hc⟩
 rw [LL.out] at hn1 ⊢
 have hT1 := (HT.out.alloc _).below hb1
 have hZ : w1.heap.size = w.heap.size + 2 := by rw [hz]; simp
 have hx : w1.heap[w.heap.size]? = some (.cells #[.int .i64 0, .string ⟨#[]⟩, .string ⟨#[]⟩] 41 (0, 0)) := (hb1.block _ (by simp)).trans (heap_alloc_new w _)
 have hb := below_of_alloc (Nat.le_refl _) hb1
 have ez : ∀ o : Obj, (w.alloc o).heap.size = w.heap.size + 1 := fun o => by simp
 rw [ez] at hc ⊢
 clear ez
 go_wp2_with fail
 go_cut [5] (fun c wx => c = .pointer (some ⟨w.heap.size + 2, 0, none⟩) ∧ Below w.heap.size w wx ∧ (∀ i, i < n → wx.cell? ⟨w.heap.size + 1, i, none⟩ = some (.string (partAt t i))) ∧
  wx.heap.size = w.heap.size + 3 ∧ wx.heap[w.heap.size]? = some (.cells #[.int .i64 0, .string ⟨#[]⟩, .string ⟨#[]⟩] 41 (0, 0)) ∧
  wx.heap[w.heap.size + 2]? = some (.cells #[.int .i64 K, .string ⟨#[]⟩, .string ⟨#[]⟩] 41 (0, 0)))
 case first =>
  have hc0 : w1.cell? ⟨w.heap.size + 1, 0, none⟩ = some (.string (partAt t 0)) := hc 0 (by omega)
  have hl0 : 0 < L := by omega
  have hl1 : (0 : Int) < (L : Int) := by omega
  have ew : IntKind.i64.wrap K = K := IntWalk.i64_in _ (by omega)
  have hT2 := Lib.hid hT1
  have HC := Lib.hid hc
  have HZ := Lib.hid hZ
  have HX := Lib.hid hx
  have HB := Lib.hid hb
  clear hc hz hx hb1 hT1 hb hZ
  have hne := World.new_ne w1 _ hc0
  go_region_held3 (fun w' => w'.cell? ⟨w.heap.size + 1, 0, none⟩ = some (.string (partAt t 0))) (go_keep)
   (first | (go_at_call 106; refine (index_word_is _ K _ KK (by repeat (first | exact hT2.out | apply tabs_drew | apply Tabs.alloc))).mono ?_; rintro e w' ⟨rfl, rfl⟩))
  all_goals
   go_wp2_with fail
   go_meet
   refine ⟨by rw [HZ.out], (HB.out.alloc HB.out.size _).drew, fun i hi => ?_, ?_, ?_, ?_⟩
   ·exact (World.cell?_alloc_lt w1 _ _ (by rw [HZ.out]; show w.heap.size + 1 < _; omega)).trans (HC.out i hi)
   ·show (w1.alloc _).heap.size = _
    simp [HZ.out]
   ·exact (Below.heap_alloc w1 _ _ (by rw [HZ.out]; omega)).trans HX.out
   ·have h := heap_alloc_new w1 (.cells #[.int .i64 K, .string ⟨#[]⟩, .string ⟨#[]⟩] 41)
    rw [HZ.out] at h
    exact h
 case rest =>
  obtain ⟨rfl, hbc, hcc, hzc, hr, hs⟩ := hcut
  have M : Mid w wc K ⟨#[]⟩ ⟨#[]⟩ := ⟨hbc, hr, hs⟩
  have HT1 := Lib.hid hT1
  clear hc hz hx hb1 hT1 hb hZ
  obtain ⟨r0, r1, r2, s0, s1, s2, fr, fs⟩ := M.cells
  clear hr hs
  by_cases hK0 : K = 0
  ·have hb0 : (K == 0) = true := by simp [hK0]
   have e1 : readE t = 3 := by unfold readE; rw [if_neg (by omega), if_pos (by rw [KK.out]; exact hK0)]
   have e2 : readS t = St.none := by unfold readS; rw [e1]; rfl
   have E1 := Lib.hid e1
   have E2 := Lib.hid e2
   have HM := Lib.hid M
   clear e1 e2 hK0 M
   go_wp2_with fail
   refine bodyPost_ret (v := .tuple #[St.none.v, .int .i64 3]) ?_ rfl ⟨by rw [E1.out, E2.out], ?_⟩
   ·simp [results, Tryz.results79, go_sem, St.v, St.none, r0, r1, r2]
   ·exact ((HM.out.bel.setCell (Nat.le_refl _) _).setCell (Nat.le_refl _) _).setCell (Nat.le_refl _) _
  ·have hb0 : (K == 0) = false := by simp [hK0]
   have hKK : kindOf (partAt t 0) ≠ 0 := by rw [KK.out]; exact hK0
   obtain ⟨p1, hp1⟩ : ∃ p, partAt t 1 = p := ⟨_, rfl⟩
   obtain ⟨p2, hp2⟩ : ∃ p, partAt t 2 = p := ⟨_, rfl⟩
   have q1 : L ≤ 1 → p1 = ⟨#[]⟩ := fun h => by rw [← hp1]; exact part_out LL.out h
   have q2 : L ≤ 2 → p2 = ⟨#[]⟩ := fun h => by rw [← hp2]; exact part_out LL.out h
   have hraw : rawOf t = ⟨K, p1, p2⟩ := by unfold rawOf; rw [KK.out, hp1, hp2]
   have hbare : bare t = ((decide (1 < L) && isE p1) || (decide (2 < L) && isE p2)) := by unfold bare; rw [LL.out, hp1, hp2]
   have c1 : 1 < n → wc.cell? ⟨w.heap.size + 1, 1, none⟩ = some (.string p1) := fun h => by rw [← hp1]; exact hcc 1 h
   have c2 : 2 < n → wc.cell? ⟨w.heap.size + 1, 2, none⟩ = some (.string p2) := fun h => by rw [← hp2]; exact hcc 2 h
   have hps : p1.size ≤ maxLen ∧ p2.size ≤ maxLen := by
    have h1 := part_size t 1
    have h2 := part_size t 2
    rw [hp1] at h1
    rw [hp2] at h2
    unfold maxLen
    omega
   have hck : K = 11 → ReadOk 79 p2 := fun h => by
    rw [← hp2]
    exact hsub (by rw [KK.out]; exact h)
   have HR := Lib.hid hraw
   have HBR := Lib.hid hbare
   have HKK := Lib.hid hKK
   have HPS := Lib.hid hps
   have HCK := Lib.hid hck
   have HM := Lib.hid M
   clear hraw hbare hp1 hp2 hKK hcc hK0 hps hck M
   have hL3 : L = 1 ∨ L = 2 ∨ L = 3 := by omega
   rcases hL3 with rfl | rfl | rfl
   ·obtain rfl : p1 = ⟨#[]⟩ := q1 (by omega)
    obtain rfl : p2 = ⟨#[]⟩ := q2 (by omega)
    clear q1 q2
    have hread : readE t = checkE ⟨K, ⟨#[]⟩, ⟨#[]⟩⟩ := read_go ht HKK.out (by rw [HBR.out]; rfl) HR.out
    have HRD := Lib.hid hread
    clear hread
    go_wp2_with fail
    have MM := Lib.hid HM.out
    clear r0 r1 r2 s0 s1 s2 fr fs
    refine (check_any K _ _ _ (HT.out.below MM.out.1) HPS.out.1 HPS.out.2 HCK.out).mono ?_
    rintro e w3 ⟨rfl, hb3⟩
    have N3 := MM.out.keep hb3
    obtain ⟨r0, r1, r2, s0, s1, s2, fr, fs⟩ := N3.cells
    have HN := Lib.hid N3
    clear N3 hb3 MM
    rw [← HRD.out]
    by_cases he : readE t = 0
    ·have hb0 : (readE t != 0) = false := by simp [he]
     have HE := Lib.hid he
     clear he
     go_wp2_with fail
     refine bodyPost_ret (v := .tuple #[(rawOf t).v, .int .i64 0]) ?_ rfl ⟨by rw [HE.out]; unfold readS; rw [if_pos HE.out], ?_⟩
     ·rw [HR.out]
      simp [results, Tryz.results79, go_sem, St.v, r0, r1, r2]
     ·exact ((HN.out.bel.setCell (Nat.le_refl _) _).setCell (Nat.le_refl _) _).setCell (Nat.le_refl _) _
    ·have hb0 : (readE t != 0) = true := by simp [he]
     have HE := Lib.hid he
     clear he
     go_wp2_with fail
     refine bodyPost_ret (v := .tuple #[St.none.v, .int .i64 (readE t)]) ?_ rfl ⟨by unfold readS; rw [if_neg HE.out], ?_⟩
     ·simp [results, Tryz.results79, go_sem, St.v, St.none, r0, r1, r2]
     ·exact ((HN.out.bel.setCell (Nat.le_refl _) _).setCell (Nat.le_refl _) _).setCell (Nat.le_refl _) _
   ·obtain rfl : p2 = ⟨#[]⟩ := q2 (by omega)
    have d1 := c1 (by omega)
    clear q1 q2 c1 c2
    cases he1 : p1.toList.isEmpty with
    | true =>
     have f1 := he1
     simp only [List.isEmpty_iff] at f1
     have hread : readE t = 4 := read_bare ht HKK.out (by rw [HBR.out]; simp [isE, he1])
     have HRD := Lib.hid hread
     clear hread
     go_wp2_with fail
     have MM := Lib.hid (HM.out.set_1 p1)
     refine bodyPost_ret (v := .tuple #[St.none.v, .int .i64 4]) ?_ rfl ⟨by unfold readS; rw [HRD.out]; rfl, ?_⟩
     ·simp [results, Tryz.results79, go_sem, St.v, St.none, r0, r1, r2]
     ·exact ((MM.out.bel.setCell (Nat.le_refl _) _).setCell (Nat.le_refl _) _).setCell (Nat.le_refl _) _
    | false =>
     have f1 := he1
     simp only [List.isEmpty_eq_false_iff] at f1
     have hread : readE t = checkE ⟨K, p1, ⟨#[]⟩⟩ := read_go ht HKK.out (by rw [HBR.out]; simp [isE, he1]) HR.out
     have HRD := Lib.hid hread
     clear hread
     go_wp2_with fail
     have MM := Lib.hid (HM.out.set_1 p1)
     clear r0 r1 r2 s0 s1 s2 fr fs
     refine (check_any K _ _ _ (HT.out.below MM.out.1) HPS.out.1 HPS.out.2 HCK.out).mono ?_
     rintro e w3 ⟨rfl, hb3⟩
     have N3 := MM.out.keep hb3
     obtain ⟨r0, r1, r2, s0, s1, s2, fr, fs⟩ := N3.cells
     have HN := Lib.hid N3
     clear N3 hb3 MM
     rw [← HRD.out]
     by_cases he : readE t = 0
     ·have hb0 : (readE t != 0) = false := by simp [he]
      have HE := Lib.hid he
      clear he
      go_wp2_with fail
      refine bodyPost_ret (v := .tuple #[(rawOf t).v, .int .i64 0]) ?_ rfl ⟨by rw [HE.out]; unfold readS; rw [if_pos HE.out], ?_⟩
      ·rw [HR.out]
       simp [results, Tryz.results79, go_sem, St.v, r0, r1, r2]
      ·exact ((HN.out.bel.setCell (Nat.le_refl _) _).setCell (Nat.le_refl _) _).setCell (Nat.le_refl _) _
     ·have hb0 : (readE t != 0) = true := by simp [he]
      have HE := Lib.hid he
      clear he
      go_wp2_with fail
      refine bodyPost_ret (v := .tuple #[St.none.v, .int .i64 (readE t)]) ?_ rfl ⟨by unfold readS; rw [if_neg HE.out], ?_⟩
      ·simp [results, Tryz.results79, go_sem, St.v, St.none, r0, r1, r2]
      ·exact ((HN.out.bel.setCell (Nat.le_refl _) _).setCell (Nat.le_refl _) _).setCell (Nat.le_refl _) _
   ·have d1 := c1 (by omega)
    have d2 := c2 (by omega)
    clear q1 q2 c1 c2
    cases he1 : p1.toList.isEmpty with
    | true =>
     have f1 := he1
     simp only [List.isEmpty_iff] at f1
     have hread : readE t = 4 := read_bare ht HKK.out (by rw [HBR.out]; simp [isE, he1])
     have HRD := Lib.hid hread
     clear hread
     go_wp2_with fail
     have MM := Lib.hid ((HM.out.set_1 p1).set_2 p2)
     refine bodyPost_ret (v := .tuple #[St.none.v, .int .i64 4]) ?_ rfl ⟨by unfold readS; rw [HRD.out]; rfl, ?_⟩
     ·simp [results, Tryz.results79, go_sem, St.v, St.none, r0, r1, r2]
     ·exact ((MM.out.bel.setCell (Nat.le_refl _) _).setCell (Nat.le_refl _) _).setCell (Nat.le_refl _) _
    | false =>
     have f1 := he1
     simp only [List.isEmpty_eq_false_iff] at f1
     cases he2 : p2.toList.isEmpty with
     | true =>
      have f2 := he2
      simp only [List.isEmpty_iff] at f2
      have hread : readE t = 4 := read_bare ht HKK.out (by rw [HBR.out]; simp [isE, he2])
      have HRD := Lib.hid hread
      clear hread
      go_wp2_with fail
      have MM := Lib.hid ((HM.out.set_1 p1).set_2 p2)
      refine bodyPost_ret (v := .tuple #[St.none.v, .int .i64 4]) ?_ rfl ⟨by unfold readS; rw [HRD.out]; rfl, ?_⟩
      ·simp [results, Tryz.results79, go_sem, St.v, St.none, r0, r1, r2]
      ·exact ((MM.out.bel.setCell (Nat.le_refl _) _).setCell (Nat.le_refl _) _).setCell (Nat.le_refl _) _
     | false =>
      have f2 := he2
      simp only [List.isEmpty_eq_false_iff] at f2
      have hread : readE t = checkE ⟨K, p1, p2⟩ := read_go ht HKK.out (by rw [HBR.out]; simp [isE, he1, he2]) HR.out
      have HRD := Lib.hid hread
      clear hread
      go_wp2_with fail
      have MM := Lib.hid ((HM.out.set_1 p1).set_2 p2)
      clear r0 r1 r2 s0 s1 s2 fr fs
      refine (check_any K _ _ _ (HT.out.below MM.out.1) HPS.out.1 HPS.out.2 HCK.out).mono ?_
      rintro e w3 ⟨rfl, hb3⟩
      have N3 := MM.out.keep hb3
      obtain ⟨r0, r1, r2, s0, s1, s2, fr, fs⟩ := N3.cells
      have HN := Lib.hid N3
      clear N3 hb3 MM
      rw [← HRD.out]
      by_cases he : readE t = 0
      ·have hb0 : (readE t != 0) = false := by simp [he]
       have HE := Lib.hid he
       clear he
       go_wp2_with fail
       refine bodyPost_ret (v := .tuple #[(rawOf t).v, .int .i64 0]) ?_ rfl ⟨by rw [HE.out]; unfold readS; rw [if_pos HE.out], ?_⟩
       ·rw [HR.out]
        simp [results, Tryz.results79, go_sem, St.v, r0, r1, r2]
       ·exact ((HN.out.bel.setCell (Nat.le_refl _) _).setCell (Nat.le_refl _) _).setCell (Nat.le_refl _) _
      ·have hb0 : (readE t != 0) = true := by simp [he]
       have HE := Lib.hid he
       clear he
       go_wp2_with fail
       refine bodyPost_ret (v := .tuple #[St.none.v, .int .i64 (readE t)]) ?_ rfl ⟨by unfold readS; rw [if_neg HE.out], ?_⟩
       ·simp [results, Tryz.results79, go_sem, St.v, St.none, r0, r1, r2]
       ·exact ((HN.out.bel.setCell (Nat.le_refl _) _).setCell (Nat.le_refl _) _).setCell (Nat.le_refl _) _
theorem read_small : ∀ (n : Nat) (t : ByteArray), t.size ≤ n → t.size ≤ 60 → ReadOk 79 t
 | 0, t, h, h60 => fun w hT => read_1 t w h60 hT fun hk => absurd (part_lt hk) (by omega)
 | n + 1, t, h, h60 => fun w hT => read_1 t w h60 hT fun hk => read_small n _ (by have := part_lt hk; omega) (by have := part_lt hk; omega)
theorem read_any (t : ByteArray) (hm : t.size ≤ maxLen) : ReadOk 79 t := by
 by_cases h : 60 < t.size
 ·intro w _
  have e : readE t = 1 := by unfold readE; rw [if_pos h]
  unfold readS
  rw [e]
  exact read_long t w h hm
 ·exact read_small t.size t (Nat.le_refl _) (by omega)
theorem check_all (s : St) (w : World) (hT : Tabs w) (hk : s.key.size ≤ maxLen) (hv : s.val.size ≤ maxLen) :
  Calls Tryz.prog 63 #[s.v] w fun e w' => e = .returned (.int .i64 (checkE s)) ∧ Below w.heap.size w w' :=
 check_any s.k s.key s.val w hT hk hv fun _ => read_any s.val hv
end Go.Proofs.YtjbnfigpflambacGreatDoor
/- What a row's list gives at the start of a call: the words' table; MaxLen by the world's shape. -/
namespace Go.Proofs.YtjbnfigpflambacGreatDoor
open Go.ChangeShapes Go.WideShapes Go.ChangeAt Go.RowKit
theorem cells_of_strs {H : Type} {enc : TypeId × Value → H} {P : Program} {w : World} {base : Nat} {sp : Nat → Bool} {held : Bool} {fuel : Nat} {t e : TypeId} {n : Nat} {cs : List Value} {zs : List (List UInt8)} {p : List MemPlace}
  (ht : P.underlying t = some (.array n e)) (he : P.underlying e = some .string) (hce : P.cellsOf e = 1) (hct : P.cellsOf t = n)
  (h : DataW.trod enc P w base sp held fuel t cs = some (.agg (zs.map fun z => (DataW.lit (Lit.string z) : DataW H)), p)) : ∀ (i : Nat) (z : List UInt8), zs[i]? = some z → cs[i]? = some (Value.string ⟨z.toArray⟩) := by
 cases fuel with
 | zero => simp [DataW.trod] at h
 | succ fuel =>
  simp only [DataW.trod, ht, hce, hct, Nat.mul_one] at h
  split at h
  ·rename_i hl
   obtain ⟨xs, hm, hx⟩ := Option.map_eq_some_iff.1 h
   have hxs : xs.map (·.1) = zs.map fun z => (DataW.lit (.string z) : DataW H) := by
    have := congrArg Prod.fst hx
    simpa using this
   have hxl : xs.length = n := by simpa using Lib.mapM_length hm
   have hzl : zs.length = n := by
    have := congrArg List.length hxs
    simp at this
    omega
   intro i z hz
   have hi : i < n := by rw [← hzl]; exact (List.getElem?_eq_some_iff.1 hz).1
   obtain ⟨b, hb, hf⟩ := Lib.mapM_at hm i i (by simp [hi])
   obtain ⟨s, hc, rfl, _⟩ := DataW.trod_string he hf
   have h1 : cs[i]? = some (.string s) := by
    have := congrArg (·[0]?) hc
    simpa [List.getElem?_take, List.getElem?_drop] using this
   have h2 : (xs.map (·.1))[i]? = some (DataW.lit (.string s.data.toList) : DataW H) := by simp [hb]
   rw [hxs] at h2
   simp only [List.getElem?_map, hz, Option.map_some, Option.some.injEq, DataW.lit.injEq, Lit.string.injEq] at h2
   rw [h1, h2]
  ·cases h
theorem typeWords : (Tryz.prog.globals[0]?).map (·.type) = some 150 := by kernel_rfl
theorem cellsWords : Tryz.prog.cellsOf 150 = 12 := by kernel_rfl
theorem cellsString : Tryz.prog.cellsOf 9 = 1 := by kernel_rfl
def words12 : List (List UInt8) := [] :: wordsL.map fun w => w.data.toList
theorem words_of {W : World} {d0 : String × DataW Unit} {rest : List (String × DataW Unit)} (h : laidMet Tryz.prog (d0 :: ("tillerman/say.words", .agg (words12.map fun z => DataW.lit (Lit.string z))) :: rest) W) :
  ∀ i, i < 11 → W.cell? ⟨0, 1 + i, none⟩ = some (.string (wordsL.getD i ByteArray.empty)) := by
 obtain ⟨ps, ⟨_, _, _, _, _, _, _, _, _, _, ⟨g', t', cs, fuel, p, q, hg', ht', hvar, hd, _, _⟩, _⟩, _⟩ := h
 obtain rfl := Option.some.inj (gWords.symm.trans hg')
 obtain rfl := Option.some.inj (typeWords.symm.trans ht')
 have hc := cells_of_strs Tryz.underlying150 Tryz.underlying9 cellsString cellsWords hd
 intro i hi
 have h1 := World.var?_cell gWords hvar (1 + i)
 rw [h1]
 have hz : words12[1 + i]? = some (wordsL.getD i ByteArray.empty).data.toList := by
  have hl : i < wordsL.length := hi
  rw [Nat.add_comm]
  simp [words12, List.getD, hl]
 have h2 := hc (1 + i) _ hz
 simpa using h2
theorem laid_mem {w : World} : ∀ {l : List (String × DataW Unit)} {ps : List MemPlace}, DataW.LaidVars Tryz.prog w l ps → ∀ {i : Nat} {n : String} {d : DataW Unit}, l[i]? = some (n, d) →
  ∃ g t cs fuel p, Tryz.prog.globalNamed n = some g ∧ (Tryz.prog.globals[g]?).map (·.type) = some t ∧ w.var? Tryz.prog n = some cs ∧ DataW.trod (fun _ => ()) Tryz.prog w 0 (fun _ => true) false fuel t cs.toList = some (d, p)
 | [], ps, _, i, n, d, hi => by simp at hi
 | (m, e) :: r, ps, h, i, n, d, hi => by
  obtain ⟨g, t, cs, fuel, p, q, h1, h2, h3, h4, h5, -⟩ := h
  cases i with
  | zero =>
   have hi2 : (m, e) = (n, d) := by simpa using hi
   obtain ⟨rfl, rfl⟩ := Prod.mk.inj hi2
   exact ⟨g, t, cs, fuel, p, h1, h2, h3, h4⟩
  | succ i => exact laid_mem h5 (by simpa using hi)
theorem words_in {W : World} {l : List (String × DataW Unit)} (k : Nat) (h : laidMet Tryz.prog l W) (hk : l[k]? = some ("tillerman/say.words", .agg (words12.map fun z => DataW.lit (Lit.string z)))) :
  ∀ i, i < 11 → W.cell? ⟨0, 1 + i, none⟩ = some (.string (wordsL.getD i ByteArray.empty)) := by
 obtain ⟨ps, hv, -⟩ := h
 obtain ⟨g', t', cs, fuel, p, hg', ht', hvar, hd⟩ := laid_mem hv hk
 obtain rfl := Option.some.inj (gWords.symm.trans hg')
 obtain rfl := Option.some.inj (typeWords.symm.trans ht')
 have hc := cells_of_strs Tryz.underlying150 Tryz.underlying9 cellsString cellsWords hd
 intro i hi
 have h1 := World.var?_cell gWords hvar (1 + i)
 rw [h1]
 have hz : words12[1 + i]? = some (wordsL.getD i ByteArray.empty).data.toList := by
  have hl : i < wordsL.length := hi
  rw [Nat.add_comm]
  simp [words12, List.getD, hl]
 have h2 := hc (1 + i) _ hz
 simpa using h2
theorem maxLen_of {W : World} (h : W.ShapedOpen Tryz.prog) : ∃ m, W.cell? ⟨1, 0, none⟩ = some (.int .i64 m) :=
 Tryz.laysM143.s1_3 W h
theorem tabs_of {W : World} {d0 : String × DataW Unit} {rest : List (String × DataW Unit)} (h : laidMet Tryz.prog (d0 :: ("tillerman/say.words", .agg (words12.map fun z => DataW.lit (Lit.string z))) :: rest) W) (hs : W.ShapedOpen Tryz.prog) : Tabs W :=
 ⟨words_of h, maxLen_of hs⟩
theorem tabs_in {W : World} {l : List (String × DataW Unit)} (k : Nat) (h : laidMet Tryz.prog l W) (hk : l[k]? = some ("tillerman/say.words", .agg (words12.map fun z => DataW.lit (Lit.string z)))) (hs : W.ShapedOpen Tryz.prog) : Tabs W :=
 ⟨words_in k h hk, maxLen_of hs⟩
def flatN : Nat → DataW Unit → List Value
 | 0, _ => []
 | _ + 1, .lit (.int k n) => [.int k n]
 | _ + 1, .lit (.string b) => [.string ⟨b.toArray⟩]
 | f + 1, .agg ps => ps.flatMap (flatN f)
 | _ + 1, _ => []
def putObj (d : DataW Unit) : Obj → Obj
 | .cells _ t frozen => .cells (flatN 4 d).toArray t frozen
 | o => o
noncomputable def putTab (h : Array Obj) (x : String × DataW Unit) : Array Obj :=
 match Tryz.prog.globalNamed x.1 with
 | some g => h.modify g (putObj x.2)
 | none => h
noncomputable def listWorld (laid : List (String × DataW Unit)) (os : Os) : World :=
 { World.holding Tryz.prog os ⟨#[], #[], []⟩ with heap := laid.foldl putTab (World.holding Tryz.prog os ⟨#[], #[], []⟩).heap }
end Go.Proofs.YtjbnfigpflambacGreatDoor
