/- Plain laws of the texts of statements: text that was read is the text of the statement; the statements of raw things are valid and read back. The walk of StmtsBack. -/
import Derived.Test.YtjbnfigpflambabDoorShow
import Derived.Test.YtjbnfigpflambabDoorRaw
import Derived.Lib.IndexLaws
namespace Go.Proofs.YtjbnfigpflambabDoor
open Go.ChangeShapes Go.WideShapes Go.ChangeAt Go.RowKit

theorem blank_cut {t : ByteArray} {o : Nat} (h : Lib.indexB t ⟨#[32]⟩ = o) : t.extract 0 o ++ (blank ++ t.extract (o + 1) t.size) = t := by
  have h1 : Lib.indexByte t.data.toList 32 = o := (Lib.index_one t.data.toList 32).symm.trans h
  obtain ⟨h2, -⟩ := Lib.indexByte_some h1
  apply str_inj
  rw [toList_data, toList_data]
  have e1 := Lib.extract_from_zero t o
  have e2 := Lib.extract_to_end t (o + 1)
  have hlt : o < t.data.toList.length := (List.getElem?_eq_some_iff.1 h2).1
  have hv := (List.getElem?_eq_some_iff.1 h2).2
  rw [ByteArray.data_append, ByteArray.data_append, Array.toList_append, Array.toList_append, e1, e2]
  show t.data.toList.take o ++ ([32] ++ t.data.toList.drop (o + 1)) = _
  rw [← hv]
  simp only [List.singleton_append]
  rw [List.getElem_cons_drop hlt, List.take_append_drop]
theorem kind_text {w : ByteArray} (h : kindOf w ≠ 0) : wordK (kindOf w) = w := by
  obtain ⟨h0, h1⟩ := kindOf_bd w
  obtain ⟨k, hk⟩ : ∃ k : Nat, kindOf w = ((k + 1 : Nat) : Int) := ⟨(kindOf w).toNat - 1, by omega⟩
  have hx : Lib.idxFromS wordsL w 0 = ((0 + k : Nat) : Int) := by
    have h2 : Lib.idxOfS wordsL w + 1 = ((k + 1 : Nat) : Int) := hk
    have h3 : Lib.idxOfS wordsL w = Lib.idxFromS wordsL w 0 := rfl
    omega
  have := idx_at w wordsL 0 k hx
  unfold wordK
  rw [hk]
  exact this
theorem read_text {t : ByteArray} (h : readE t = 0) : checkE (readS t) = 0 ∧ textOf (readS t) = t := by
  have hs : readS t = rawOf t := by unfold readS; rw [if_pos h]
  unfold readE at h
  by_cases hz : 60 < t.size
  · rw [if_pos hz] at h; simp at h
  rw [if_neg hz] at h
  by_cases hk : kindOf (partAt t 0) = 0
  · rw [if_pos hk] at h; simp at h
  rw [if_neg hk] at h
  cases hb : bare t with
  | true => rw [hb] at h; simp at h
  | false =>
    rw [hb] at h
    simp only [Bool.false_eq_true, if_false] at h
    rw [hs]
    refine ⟨h, ?_⟩
    have hw := kind_text hk
    have hK : (rawOf t).k = kindOf (partAt t 0) := rfl
    have hk1 : (rawOf t).key = partAt t 1 := rfl
    have hk2 : (rawOf t).val = partAt t 2 := rfl
    have hv := valid_sorts h
    rw [hK, hk1, hk2] at hv
    unfold textOf
    rw [hK, hk1, hk2, hw]
    unfold bare isE at hb
    rcases index_cases t with h1 | ⟨o, h1⟩
    · have hp := parts_none h1
      have p0 : partAt t 0 = t := by unfold partAt; rw [hp]; rfl
      have p1 : partAt t 1 = ⟨#[]⟩ := by unfold partAt; rw [hp]; rfl
      have e1 : (partAt t 1).toList.isEmpty = true := by rw [p1]; decide +kernel
      have hlo : kindOf (partAt t 0) < 6 := by
        rcases hv with ⟨a, b, -⟩ | ⟨-, -, a, -⟩ | ⟨-, -, a, -⟩
        · omega
        · rw [e1] at a; simp at a
        · rw [e1] at a; simp at a
      rw [if_pos hlo, p0]
    · rcases index_cases (t.extract (o + 1) t.size) with h2 | ⟨p, h2⟩
      · have hp := parts_two h1 h2
        have p0 : partAt t 0 = t.extract 0 o := by unfold partAt; rw [hp]; rfl
        have p1 : partAt t 1 = t.extract (o + 1) t.size := by unfold partAt; rw [hp]; rfl
        have p2 : partAt t 2 = ⟨#[]⟩ := by unfold partAt; rw [hp]; rfl
        have e2 : (partAt t 2).toList.isEmpty = true := by rw [p2]; decide +kernel
        have e1 : (partAt t 1).toList.isEmpty = false := by
          rw [hp] at hb
          simp only [List.length_cons, List.length_nil, Nat.zero_add, Nat.reduceAdd, Nat.reduceLT, decide_true, Bool.true_and, decide_false, Bool.false_and, Bool.or_false] at hb
          exact hb
        have hmid : 6 ≤ kindOf (partAt t 0) ∧ kindOf (partAt t 0) < 9 := by
          rcases hv with ⟨-, -, a, -⟩ | ⟨a, b, -⟩ | ⟨-, -, -, a⟩
          · rw [e1] at a; simp at a
          · omega
          · rw [e2] at a; simp at a
        rw [if_neg (by omega), if_pos hmid.2, p0, p1]
        exact blank_cut h1
      · have hp := parts_three h1 h2
        have p0 : partAt t 0 = t.extract 0 o := by unfold partAt; rw [hp]; rfl
        have p1 : partAt t 1 = (t.extract (o + 1) t.size).extract 0 p := by unfold partAt; rw [hp]; rfl
        have p2 : partAt t 2 = (t.extract (o + 1) t.size).extract (p + 1) (t.extract (o + 1) t.size).size := by unfold partAt; rw [hp]; rfl
        rw [hp] at hb
        simp only [List.length_cons, List.length_nil, Nat.zero_add, Nat.reduceAdd, Nat.reduceLT, decide_true, Bool.true_and, Bool.or_eq_false_iff] at hb
        obtain ⟨e1, e2⟩ := hb
        have htop : 9 ≤ kindOf (partAt t 0) := by
          rcases hv with ⟨-, -, a, -⟩ | ⟨-, -, -, a⟩ | ⟨a, -⟩
          · rw [e1] at a; simp at a
          · rw [e2] at a; simp at a
          · exact a
        rw [if_neg (by omega), if_neg (by omega), p0, p1, p2]
        have c1 := blank_cut h1
        have c2 := blank_cut h2
        rw [ByteArray.append_assoc, ByteArray.append_assoc, c2]
        exact c1

/-- a statement is valid, and its text reads back -/
def okB (s : St) : Bool := decide (checkE s = 0) && decide (readE (textOf s) = 0) && decide ((readS (textOf s)).k = s.k) && decide ((readS (textOf s)).key = s.key) && decide ((readS (textOf s)).val = s.val)
theorem ok_of {s : St} (h : okB s = true) : checkE s = 0 ∧ readE (textOf s) = 0 ∧ readS (textOf s) = s := by
  unfold okB at h
  simp only [Bool.and_eq_true, decide_eq_true_eq] at h
  obtain ⟨⟨⟨⟨h1, h2⟩, h3⟩, h4⟩, h5⟩ := h
  refine ⟨h1, h2, ?_⟩
  obtain ⟨k, key, val⟩ := s
  generalize readS (textOf ⟨k, key, val⟩) = r at h3 h4 h5
  obtain ⟨k', key', val'⟩ := r
  simp only at h3 h4 h5
  rw [h3, h4, h5]
def four : List Int := [0, 1, 2, 3]
def twelve : List Int := [0, 1, 2, 3, 4, 5, 6, 7, 8, 9, 10, 11]
theorem in4 {n : Int} (h0 : 0 ≤ n) (h1 : n < 4) : n ∈ four := by
  rcases below4 h0 h1 with rfl | rfl | rfl | rfl <;> simp [four]
theorem in12 {n : Int} (h0 : 0 ≤ n) (h1 : n < 12) : n ∈ twelve := by
  rcases below12 h0 h1 with rfl | rfl | rfl | rfl | rfl | rfl | rfl | rfl | rfl | rfl | rfl | rfl <;> simp [twelve]
theorem ok_low : [1, 2, 3, 4, 5].all (fun k => okB ⟨k, ⟨#[]⟩, ⟨#[]⟩⟩) = true := by decide +kernel
theorem ok_mid : [6, 7, 8].all (fun k => four.all fun a => okB ⟨k, keyT a, ⟨#[]⟩⟩) = true := by decide +kernel
theorem ok_top : [9, 10].all (fun k => four.all fun a => twelve.all fun b => okB ⟨k, keyT a, valT b⟩) = true := by decide +kernel
theorem ok_prep : four.all (fun a => twelve.all fun b => four.all fun d => okB ⟨11, keyT a, prepT d (valT b)⟩) = true := by decide +kernel
theorem ok_raw (K I V C D : Int) (k0 : 0 ≤ K) (k1 : K < 24) (a0 : 0 ≤ I) (a1 : I < 4) (b0 : 0 ≤ V) (b1 : V < 12) (d0 : 0 ≤ D) (d1 : D < 4) : okB (stAt K I V C D) = true := by
  have mI := in4 a0 a1
  have mV := in12 b0 b1
  have mD := in4 d0 d1
  have low : ∀ k ∈ [(1 : Int), 2, 3, 4, 5], okB ⟨k, ⟨#[]⟩, ⟨#[]⟩⟩ = true := List.all_eq_true.1 ok_low
  have mid : ∀ k ∈ [(6 : Int), 7, 8], okB ⟨k, keyT I, ⟨#[]⟩⟩ = true := fun k hk => List.all_eq_true.1 (List.all_eq_true.1 ok_mid k hk) I mI
  have top : ∀ k ∈ [(9 : Int), 10], okB ⟨k, keyT I, valT V⟩ = true := fun k hk => List.all_eq_true.1 (List.all_eq_true.1 (List.all_eq_true.1 ok_top k hk) I mI) V mV
  have prep : okB ⟨11, keyT I, prepT D (valT V)⟩ = true := List.all_eq_true.1 (List.all_eq_true.1 (List.all_eq_true.1 ok_prep I mI) V mV) D mD
  rcases st_cases K I V C D with ⟨-, e⟩ | ⟨-, -, e⟩ | ⟨-, e⟩ | ⟨-, e⟩ | ⟨-, -, e⟩ | ⟨-, -, e⟩ | ⟨-, -, e⟩ | ⟨-, -, e⟩ | ⟨-, -, e⟩ | ⟨-, e⟩
  all_goals rw [e]
  · exact low 1 (by simp)
  · exact low 2 (by simp)
  · exact low 3 (by simp)
  · split
    · exact low 4 (by simp)
    · exact low 5 (by simp)
  · exact mid 6 (by simp)
  · exact mid 7 (by simp)
  · exact mid 8 (by simp)
  · exact top 9 (by simp)
  · exact top 10 (by simp)
  · exact prep
theorem raw_ok (k a b c : Int) : checkE (rawS k a b c) = 0 ∧ readE (textOf (rawS k a b c)) = 0 ∧ readS (textOf (rawS k a b c)) = rawS k a b c :=
  ok_of (ok_raw _ _ _ _ _ (pick_bd k 24 (by decide)).1 (pick_bd k 24 (by decide)).2 (pick_bd a 4 (by decide)).1 (pick_bd a 4 (by decide)).2 (pick_bd b 12 (by decide)).1 (pick_bd b 12 (by decide)).2 (pick_bd c 4 (by decide)).1 (pick_bd c 4 (by decide)).2)
theorem raw_size (k a b c : Int) : (rawS k a b c).key.size ≤ 60 ∧ (rawS k a b c).val.size ≤ 60 := by
  have h := (raw_ok k a b c).1
  have hv := valid_sorts h
  have hz := valid_sizes h
  have he : ∀ x : ByteArray, x.toList.isEmpty = true → x.size ≤ 60 := fun x hx => by
    have := size_of_nil (by simpa using hx)
    omega
  rcases hv with ⟨-, -, e1, e2⟩ | ⟨h1, -, -, e2⟩ | ⟨h1, -⟩
  · exact ⟨he _ e1, he _ e2⟩
  · exact ⟨(hz h1).1, he _ e2⟩
  · exact ⟨(hz (by omega)).1, (hz (by omega)).2 h1⟩
end Go.Proofs.YtjbnfigpflambabDoor
