/- Plain laws, no program: statements, their words, how a text is read as a statement. -/
import Derived.Lib.Split
import Derived.Lib.SplitLaws
import Derived.Lib.SlicesS
import Derived.Lib.IndexBytes
namespace Go.Proofs.YtjbnfigpflambabDoor
open Go

def lowC (c : UInt8) : Bool := decide (97 ≤ c.toNat) && decide (c.toNat ≤ 122)
def nameB (s : ByteArray) : Bool := decide (1 ≤ s.size) && decide (s.size ≤ 8) && s.data.toList.all lowC
def seenC (c : UInt8) : Bool := decide (33 ≤ c.toNat) && decide (c.toNat ≤ 126)
def valueB (s : ByteArray) : Bool := decide (1 ≤ s.size) && decide (s.size ≤ 20) && s.data.toList.all seenC

/-- a statement -/
structure St where
  k : Int
  key : ByteArray
  val : ByteArray
def St.none : St := ⟨0, ⟨#[]⟩, ⟨#[]⟩⟩
def isE (s : ByteArray) : Bool := s.toList.isEmpty

def wordsL : List ByteArray := [⟨#[98, 101, 103, 105, 110]⟩, ⟨#[99, 111, 109, 109, 105, 116]⟩, ⟨#[114, 111, 108, 108, 98, 97, 99, 107]⟩, ⟨#[114, 101, 115, 101, 116]⟩, ⟨#[102, 97, 105, 108]⟩,
  ⟨#[103, 101, 116]⟩, ⟨#[114, 101, 97, 100]⟩, ⟨#[101, 120, 101, 99]⟩, ⟨#[115, 101, 116]⟩, ⟨#[112, 117, 116]⟩, ⟨#[112, 114, 101, 112]⟩]
/-- the kind of a word; 0: there is none -/
def kindOf (w : ByteArray) : Int := Lib.idxOfS wordsL w + 1

/-- the parts of a text between its first two blanks -/
def parts (t : ByteArray) : List ByteArray := Lib.splitB ⟨#[32]⟩ 0 2 t
def partAt (t : ByteArray) (i : Nat) : ByteArray := (parts t).getD i ⟨#[]⟩
/-- what a text says, if it says anything -/
def rawOf (t : ByteArray) : St := ⟨kindOf (partAt t 0), partAt t 1, partAt t 2⟩
/-- a blank with nothing behind it -/
def bare (t : ByteArray) : Bool := (decide (1 < (parts t).length) && isE (partAt t 1)) || (decide (2 < (parts t).length) && isE (partAt t 2))

/-- what is wrong with a statement that is no Prep -/
def plainE (s : St) : Int :=
  if s.k < 1 ∨ 11 < s.k then 3
  else if s.k < 6 then (if isE s.key && isE s.val then 0 else 4)
  else if !nameB s.key then 4
  else if s.k < 9 then (if isE s.val then 0 else 4)
  else if valueB s.val then 0 else 4
/-- may a text be prepared? -/
def prepB (t : ByteArray) : Bool :=
  decide (t.size ≤ 60) && !bare t && (decide ((rawOf t).k = 6) || decide ((rawOf t).k = 7) || decide ((rawOf t).k = 10)) && decide (plainE (rawOf t) = 0)
def checkE (s : St) : Int := if s.k = 11 then (if nameB s.key && prepB s.val then 0 else 4) else plainE s
def readE (t : ByteArray) : Int := if 60 < t.size then 1 else if kindOf (partAt t 0) = 0 then 3 else if bare t then 4 else checkE (rawOf t)
def readS (t : ByteArray) : St := if readE t = 0 then rawOf t else St.none

theorem idx_bd (x : ByteArray) : ∀ (zs : List ByteArray) (i : Nat), Lib.idxFromS zs x i = -1 ∨ (0 ≤ Lib.idxFromS zs x i ∧ Lib.idxFromS zs x i < i + zs.length)
  | [], i => .inl rfl
  | z :: zs, i => by
    unfold Lib.idxFromS
    by_cases h : z = x
    · rw [if_pos h]; exact .inr ⟨by omega, by simp; omega⟩
    · rw [if_neg h]
      rcases idx_bd x zs (i + 1) with h | ⟨h1, h2⟩
      · exact .inl h
      · exact .inr ⟨h1, by simp; omega⟩
theorem kindOf_bd (w : ByteArray) : 0 ≤ kindOf w ∧ kindOf w ≤ 11 := by
  unfold kindOf Lib.idxOfS
  rcases idx_bd w wordsL 0 with h | ⟨h1, h2⟩
  · rw [h]; omega
  · have : wordsL.length = 11 := rfl
    omega
theorem plainE_cases (s : St) : plainE s = 0 ∨ plainE s = 3 ∨ plainE s = 4 := by
  unfold plainE
  repeat' split
  all_goals simp
theorem prep_read (t : ByteArray) : prepB t = (decide (readE t = 0) && (decide ((readS t).k = 6) || decide ((readS t).k = 7) || decide ((readS t).k = 10))) := by
  have hk : (rawOf t).k = kindOf (partAt t 0) := rfl
  unfold prepB readS
  by_cases hz : 60 < t.size
  · have e : readE t = 1 := by unfold readE; rw [if_pos hz]
    have d : decide (t.size ≤ 60) = false := by simp; omega
    rw [e, d]; simp
  have d : decide (t.size ≤ 60) = true := by simp; omega
  rw [d]
  by_cases h0 : kindOf (partAt t 0) = 0
  · have e : readE t = 3 := by unfold readE; rw [if_neg hz, if_pos h0]
    rw [e, hk, h0]; simp
  by_cases hb : bare t = true
  · have e : readE t = 4 := by unfold readE; rw [if_neg hz, if_neg h0, if_pos hb]
    rw [e, hb]; simp
  have e : readE t = checkE (rawOf t) := by unfold readE; rw [if_neg hz, if_neg h0, if_neg hb]
  rw [e]
  simp only [Bool.not_eq_true] at hb
  rw [hb]
  unfold checkE
  by_cases h11 : (rawOf t).k = 11
  · rw [if_pos h11]
    simp only [h11]
    split <;> simp [h11]
  · rw [if_neg h11]
    by_cases hp : plainE (rawOf t) = 0
    · rw [if_pos hp, hp]; simp
    · rw [if_neg hp]; simp [hp]
theorem indexB_short {s : ByteArray} (h : s.size = 0) : Lib.indexB s ⟨#[32]⟩ = -1 := by
  have e : s = ⟨#[]⟩ := by
    obtain ⟨d⟩ := s
    have : d = #[] := Array.eq_empty_of_size_eq_zero h
    rw [this]
  subst e
  decide +kernel
theorem parts_eq (t : ByteArray) : Lib.splitB ⟨#[32]⟩ 0 (min 3 (t.size + 1) - 1) t = parts t := by
  unfold parts
  by_cases h2 : 2 ≤ t.size
  · have e : min 3 (t.size + 1) - 1 = 2 := by omega
    rw [e]
  by_cases h0 : t.size = 0
  · rw [Lib.splitB_miss _ _ _ _ (indexB_short h0), Lib.splitB_miss _ _ _ _ (indexB_short h0)]
  · have e : min 3 (t.size + 1) - 1 = 1 := by omega
    rw [e]
    by_cases hm : Lib.indexB t ⟨#[32]⟩ = -1
    · rw [Lib.splitB_miss _ _ _ _ hm, Lib.splitB_miss _ _ _ _ hm]
    · have e1 : (⟨#[32]⟩ : ByteArray).size = 1 := rfl
      have hr : (t.extract ((Lib.indexB t ⟨#[32]⟩).toNat + (⟨#[32]⟩ : ByteArray).size) t.size).size = 0 := by rw [ByteArray.size_extract, e1]; omega
      have hb : ¬ (Lib.indexB t ⟨#[32]⟩ == -1) = true := by simpa using hm
      show Lib.splitB _ _ (0 + 1) t = Lib.splitB _ _ (1 + 1) t
      have hs : ∀ k, Lib.splitB ⟨#[32]⟩ 0 (k + 1) t = t.extract 0 ((Lib.indexB t ⟨#[32]⟩).toNat + 0) :: Lib.splitB ⟨#[32]⟩ 0 k (t.extract ((Lib.indexB t ⟨#[32]⟩).toNat + (⟨#[32]⟩ : ByteArray).size) t.size) := fun k => by rw [Lib.splitB, if_neg hb]
      rw [hs, hs, Lib.splitB_miss _ _ _ _ (indexB_short hr), Lib.splitB_miss _ _ _ _ (indexB_short hr)]
theorem parts_length (t : ByteArray) : 1 ≤ (parts t).length ∧ (parts t).length ≤ 3 ∧ (parts t).length ≤ t.size + 1 := by
  have h1 : (parts t).length ≤ 2 + 1 := Lib.splitB_length_le _ _ _ _
  have h2 : (Lib.splitB ⟨#[32]⟩ 0 (min 3 (t.size + 1) - 1) t).length ≤ min 3 (t.size + 1) - 1 + 1 := Lib.splitB_length_le _ _ _ _
  rw [parts_eq] at h2
  refine ⟨?_, h1, by omega⟩
  unfold parts
  cases hm : (Lib.indexB t ⟨#[32]⟩ == -1) <;> simp [Lib.splitB, hm]
theorem split_le (sep : ByteArray) : ∀ (k : Nat) (s : ByteArray), ∀ x ∈ Lib.splitB sep 0 k s, x.size ≤ s.size
  | 0, s, x, h => by
    simp only [Lib.splitB_zero, List.mem_singleton] at h
    rw [h]
    exact Nat.le_refl _
  | k + 1, s, x, h => by
    unfold Lib.splitB at h
    split at h
    · simp only [List.mem_singleton] at h
      rw [h]
      exact Nat.le_refl _
    · rcases List.mem_cons.1 h with rfl | h
      · rw [ByteArray.size_extract]; omega
      · have := split_le sep k _ x h
        rw [ByteArray.size_extract] at this
        omega
theorem part_size (t : ByteArray) (i : Nat) : (partAt t i).size ≤ t.size := by
  unfold partAt
  by_cases h : i < (parts t).length
  · simp only [List.getD, List.getElem?_eq_getElem h, Option.getD_some]
    exact split_le _ _ _ _ (List.getElem_mem h)
  · rw [List.getD, List.getElem?_eq_none (by omega)]
    exact Nat.zero_le _
theorem part_lt {t : ByteArray} (h : kindOf (partAt t 0) = 11) : (partAt t 2).size < t.size := by
  have hne : t.size ≠ 0 := by
    intro h0
    have e : t = ⟨#[]⟩ := by
      obtain ⟨d⟩ := t
      have : d = #[] := Array.eq_empty_of_size_eq_zero h0
      rw [this]
    subst e
    revert h
    decide +kernel
  by_cases h2 : 2 < (parts t).length
  · unfold partAt
    simp only [List.getD, List.getElem?_eq_getElem h2, Option.getD_some]
    have hm : ¬ (Lib.indexB t ⟨#[32]⟩ == -1) = true := by
      intro hm
      have : (parts t).length = 1 := by unfold parts; rw [Lib.splitB, if_pos hm]; rfl
      omega
    have e1 : (⟨#[32]⟩ : ByteArray).size = 1 := rfl
    have hp : parts t = t.extract 0 ((Lib.indexB t ⟨#[32]⟩).toNat + 0) :: Lib.splitB ⟨#[32]⟩ 0 1 (t.extract ((Lib.indexB t ⟨#[32]⟩).toNat + (⟨#[32]⟩ : ByteArray).size) t.size) := by
      unfold parts
      rw [Lib.splitB, if_neg hm]
    have hx : (parts t)[2] ∈ Lib.splitB ⟨#[32]⟩ 0 1 (t.extract ((Lib.indexB t ⟨#[32]⟩).toNat + (⟨#[32]⟩ : ByteArray).size) t.size) := by
      have : (parts t)[2] = (Lib.splitB ⟨#[32]⟩ 0 1 (t.extract ((Lib.indexB t ⟨#[32]⟩).toNat + (⟨#[32]⟩ : ByteArray).size) t.size))[1]'(by rw [hp] at h2; simp only [List.length_cons] at h2; omega) := by
        simp only [hp, List.getElem_cons_succ]
      rw [this]
      exact List.getElem_mem _
    have := split_le _ _ _ _ hx
    rw [ByteArray.size_extract, e1] at this
    omega
  · unfold partAt
    rw [List.getD, List.getElem?_eq_none (by omega)]
    show 0 < t.size
    omega
end Go.Proofs.YtjbnfigpflambabDoor
