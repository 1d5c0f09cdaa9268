/- Plain laws, no program: statements, their words, how a text is read as a statement. Plain laws, no program: pairs by their keys, sessions, worlds of a server; what a statement does to them. -/
import Derived.Lib.Split
import Derived.Lib.SplitLaws
import Derived.Lib.SlicesS
import Derived.Lib.IndexBytes
import Derived.Lib.Bytealg
import GoSem.Op.String
/- Plain laws, no program: statements, their words, how a text is read as a statement. -/
namespace Go.Proofs.YtjbnfigpflambacGreatDoor
open Go
def lowC (c : UInt8) : Bool := decide (97 ≤ c.toNat) && decide (c.toNat ≤ 122)
def nameB (s : ByteArray) : Bool := decide (1 ≤ s.size) && decide (s.size ≤ 8) && s.data.toList.all lowC
def seenC (c : UInt8) : Bool := decide (33 ≤ c.toNat) && decide (c.toNat ≤ 126)
def valueB (s : ByteArray) : Bool := decide (1 ≤ s.size) && decide (s.size ≤ 20) && s.data.toList.all seenC
structure St where
 k : Int
 key : ByteArray
 val : ByteArray
def St.none : St := ⟨0, ⟨#[]⟩, ⟨#[]⟩⟩
def isE (s : ByteArray) : Bool := s.toList.isEmpty
def wordsL : List ByteArray := [⟨#[98, 101, 103, 105, 110]⟩, ⟨#[99, 111, 109, 109, 105, 116]⟩, ⟨#[114, 111, 108, 108, 98, 97, 99, 107]⟩, ⟨#[114, 101, 115, 101, 116]⟩, ⟨#[102, 97, 105, 108]⟩,
 ⟨#[103, 101, 116]⟩, ⟨#[114, 101, 97, 100]⟩, ⟨#[101, 120, 101, 99]⟩, ⟨#[115, 101, 116]⟩, ⟨#[112, 117, 116]⟩, ⟨#[112, 114, 101, 112]⟩]
def kindOf (w : ByteArray) : Int := Lib.idxOfS wordsL w + 1
def parts (t : ByteArray) : List ByteArray := Lib.splitB ⟨#[32]⟩ 0 2 t
def partAt (t : ByteArray) (i : Nat) : ByteArray := (parts t).getD i ⟨#[]⟩
def rawOf (t : ByteArray) : St := ⟨kindOf (partAt t 0), partAt t 1, partAt t 2⟩
def bare (t : ByteArray) : Bool := (decide (1 < (parts t).length) && isE (partAt t 1)) || (decide (2 < (parts t).length) && isE (partAt t 2))
def plainE (s : St) : Int :=
 if s.k < 1 ∨ 11 < s.k then 3
 else if s.k < 6 then (if isE s.key && isE s.val then 0 else 4)
 else if !nameB s.key then 4
 else if s.k < 9 then (if isE s.val then 0 else 4)
 else if valueB s.val then 0 else 4
def prepB (t : ByteArray) : Bool :=
 decide (t.size ≤ 60) && !bare t && (decide ((rawOf t).k = 6) || decide ((rawOf t).k = 7) || decide ((rawOf t).k = 10)) && decide (plainE (rawOf t) = 0)
def checkE (s : St) : Int := if s.k = 11 then (if nameB s.key && prepB s.val then 0 else 4) else plainE s
def readE (t : ByteArray) : Int := if 60 < t.size then 1 else if kindOf (partAt t 0) = 0 then 3 else if bare t then 4 else checkE (rawOf t)
def readS (t : ByteArray) : St := if readE t = 0 then rawOf t else St.none
theorem idx_bd (x : ByteArray) : ∀ (zs : List ByteArray) (i : Nat), Lib.idxFromS zs x i = -1 ∨ (0 ≤ Lib.idxFromS zs x i ∧ Lib.idxFromS zs x i < i + zs.length)
 | [], i => .inl rfl
 | z :: zs, i => by
  unfold Lib.idxFromS
  by_cases h : z = x
  ·rw [if_pos h]; exact .inr ⟨by omega, by simp; omega⟩
  ·rw [if_neg h]
   rcases idx_bd x zs (i + 1) with h | ⟨h1, h2⟩
   ·exact .inl h
   ·exact .inr ⟨h1, by simp; omega⟩
theorem kindOf_bd (w : ByteArray) : 0 ≤ kindOf w ∧ kindOf w ≤ 11 := by
 unfold kindOf Lib.idxOfS
 rcases idx_bd w wordsL 0 with h | ⟨h1, h2⟩
 ·rw [h]; omega
 ·have : wordsL.length = 11 := rfl
  omega
theorem prep_read (t : ByteArray) : prepB t = (decide (readE t = 0) && (decide ((readS t).k = 6) || decide ((readS t).k = 7) || decide ((readS t).k = 10))) := by
 have hk : (rawOf t).k = kindOf (partAt t 0) := rfl
 unfold prepB readS
 by_cases hz : 60 < t.size
 ·have e : readE t = 1 := by unfold readE; rw [if_pos hz]
  have d : decide (t.size ≤ 60) = false := by simp; omega
  rw [e, d]; simp
 have d : decide (t.size ≤ 60) = true := by simp; omega
 rw [d]
 by_cases h0 : kindOf (partAt t 0) = 0
 ·have e : readE t = 3 := by unfold readE; rw [if_neg hz, if_pos h0]
  rw [e, hk, h0]; simp
 by_cases hb : bare t = true
 ·have e : readE t = 4 := by unfold readE; rw [if_neg hz, if_neg h0, if_pos hb]
  rw [e, hb]; simp
 have e : readE t = checkE (rawOf t) := by unfold readE; rw [if_neg hz, if_neg h0, if_neg hb]
 rw [e]
 simp only [Bool.not_eq_true] at hb
 rw [hb]
 unfold checkE
 by_cases h11 : (rawOf t).k = 11
 ·rw [if_pos h11]
  simp only [h11]
  split <;> simp [h11]
 ·rw [if_neg h11]
  by_cases hp : plainE (rawOf t) = 0
  ·rw [if_pos hp, hp]; simp
  ·rw [if_neg hp]; simp [hp]
theorem indexB_short {s : ByteArray} (h : s.size = 0) : Lib.indexB s ⟨#[32]⟩ = -1 := by
 have e : s = ⟨#[]⟩ := by
  obtain ⟨d⟩ := s
  have : d = #[] := Array.eq_empty_of_size_eq_zero h
  rw [this]
 subst e
 decide +kernel
theorem parts_eq (t : ByteArray) : Lib.splitB ⟨#[32]⟩ 0 (min 3 (t.size + 1) - 1) t = parts t := by
 unfold parts
 by_cases h2 : 2 ≤ t.size
 ·have e : min 3 (t.size + 1) - 1 = 2 := by omega
  rw [e]
 by_cases h0 : t.size = 0
 ·rw [Lib.splitB_miss _ _ _ _ (indexB_short h0), Lib.splitB_miss _ _ _ _ (indexB_short h0)]
 ·have e : min 3 (t.size + 1) - 1 = 1 := by omega
  rw [e]
  by_cases hm : Lib.indexB t ⟨#[32]⟩ = -1
  ·rw [Lib.splitB_miss _ _ _ _ hm, Lib.splitB_miss _ _ _ _ hm]
  ·have e1 : (⟨#[32]⟩ : ByteArray).size = 1 := rfl
   have hr : (t.extract ((Lib.indexB t ⟨#[32]⟩).toNat + (⟨#[32]⟩ : ByteArray).size) t.size).size = 0 := by rw [ByteArray.size_extract, e1]; omega
   have hb : ¬ (Lib.indexB t ⟨#[32]⟩ == -1) = true := by simpa using hm
   show Lib.splitB _ _ (0 + 1) t = Lib.splitB _ _ (1 + 1) t
   have hs : ∀ k, Lib.splitB ⟨#[32]⟩ 0 (k + 1) t = t.extract 0 ((Lib.indexB t ⟨#[32]⟩).toNat + 0) :: Lib.splitB ⟨#[32]⟩ 0 k (t.extract ((Lib.indexB t ⟨#[32]⟩).toNat + (⟨#[32]⟩ : ByteArray).size) t.size) := fun k => by rw [Lib.splitB, if_neg hb]
   rw [hs, hs, Lib.splitB_miss _ _ _ _ (indexB_short hr), Lib.splitB_miss _ _ _ _ (indexB_short hr)]
theorem parts_length (t : ByteArray) : 1 ≤ (parts t).length ∧ (parts t).length ≤ 3 ∧ (parts t).length ≤ t.size + 1 := by
 have h1 : (parts t).length ≤ 2 + 1 := Lib.splitB_length_le _ _ _ _
 have h2 : (Lib.splitB ⟨#[32]⟩ 0 (min 3 (t.size + 1) - 1) t).length ≤ min 3 (t.size + 1) - 1 + 1 := Lib.splitB_length_le _ _ _ _
 rw [parts_eq] at h2
 refine ⟨?_, h1, by omega⟩
 unfold parts
 cases hm : (Lib.indexB t ⟨#[32]⟩ == -1) <;> simp [Lib.splitB, hm]
theorem split_le (sep : ByteArray) : ∀ (k : Nat) (s : ByteArray), ∀ x ∈ Lib.splitB sep 0 k s, x.size ≤ s.size
 | 0, s, x, h => by
  simp only [Lib.splitB_zero, List.mem_singleton] at h
  rw [h]
  exact Nat.le_refl _
 | k + 1, s, x, h => by
  unfold Lib.splitB at h
  split at h
  ·simp only [List.mem_singleton] at h
   rw [h]
   exact Nat.le_refl _
  ·rcases List.mem_cons.1 h with rfl | h
   ·rw [ByteArray.size_extract]; omega
   ·have := split_le sep k _ x h
    rw [ByteArray.size_extract] at this
    omega
theorem part_size (t : ByteArray) (i : Nat) : (partAt t i).size ≤ t.size := by
 unfold partAt
 by_cases h : i < (parts t).length
 ·simp only [List.getD, List.getElem?_eq_getElem h, Option.getD_some]
  exact split_le _ _ _ _ (List.getElem_mem h)
 ·rw [List.getD, List.getElem?_eq_none (by omega)]
  exact Nat.zero_le _
theorem part_lt {t : ByteArray} (h : kindOf (partAt t 0) = 11) : (partAt t 2).size < t.size := by
 have hne : t.size ≠ 0 := by
  intro h0
  have e : t = ⟨#[]⟩ := by
   obtain ⟨d⟩ := t
   have : d = #[] := Array.eq_empty_of_size_eq_zero h0
   rw [this]
  subst e
  revert h
  decide +kernel
 by_cases h2 : 2 < (parts t).length
 ·unfold partAt
  simp only [List.getD, List.getElem?_eq_getElem h2, Option.getD_some]
  have hm : ¬ (Lib.indexB t ⟨#[32]⟩ == -1) = true := by
   intro hm
   have : (parts t).length = 1 := by unfold parts; rw [Lib.splitB, if_pos hm]; rfl
   omega
  have e1 : (⟨#[32]⟩ : ByteArray).size = 1 := rfl
  have hp : parts t = t.extract 0 ((Lib.indexB t ⟨#[32]⟩).toNat + 0) :: Lib.splitB ⟨#[32]⟩ 0 1 (t.extract ((Lib.indexB t ⟨#[32]⟩).toNat + (⟨#[32]⟩ : ByteArray).size) t.size) := by
   unfold parts
   rw [Lib.splitB, if_neg hm]
  have hx : (parts t)[2] ∈ Lib.splitB ⟨#[32]⟩ 0 1 (t.extract ((Lib.indexB t ⟨#[32]⟩).toNat + (⟨#[32]⟩ : ByteArray).size) t.size) := by
   have : (parts t)[2] = (Lib.splitB ⟨#[32]⟩ 0 1 (t.extract ((Lib.indexB t ⟨#[32]⟩).toNat + (⟨#[32]⟩ : ByteArray).size) t.size))[1]'(by rw [hp] at h2; simp only [List.length_cons] at h2; omega) := by
    simp only [hp, List.getElem_cons_succ]
   rw [this]
   exact List.getElem_mem _
  have := split_le _ _ _ _ hx
  rw [ByteArray.size_extract, e1] at this
  omega
 ·unfold partAt
  rw [List.getD, List.getElem?_eq_none (by omega)]
  show 0 < t.size
  omega
end Go.Proofs.YtjbnfigpflambacGreatDoor
/- Plain laws, no program: pairs by their keys, sessions, worlds of a server; what a statement does to them. -/
namespace Go.Proofs.YtjbnfigpflambacGreatDoor
open Go
structure Pr where
 k : ByteArray
 v : ByteArray
def ltS (a b : ByteArray) : Bool := Op.bytesLess a.toList b.toList
theorem less_irrefl : ∀ l : List UInt8, Op.bytesLess l l = false
 | [] => rfl
 | a :: l => by simp [Op.bytesLess, less_irrefl l, UInt8.lt_irrefl]
theorem less_trans : ∀ a b c : List UInt8, Op.bytesLess a b = true → Op.bytesLess b c = true → Op.bytesLess a c = true
 | _, _, [], _, h => by simp [Op.bytesLess] at h
 | [], _, _ :: _, _, _ => by simp [Op.bytesLess]
 | _ :: _, [], _ :: _, h, _ => by simp [Op.bytesLess] at h
 | a :: x, b :: y, c :: z, h1, h2 => by
  simp only [Op.bytesLess, Bool.or_eq_true, decide_eq_true_eq, Bool.and_eq_true, beq_iff_eq] at h1 h2 ⊢
  rcases h1 with h1 | ⟨rfl, h1⟩ <;> rcases h2 with h2 | ⟨rfl, h2⟩
  ·exact .inl (UInt8.lt_trans h1 h2)
  ·exact .inl h1
  ·exact .inl h2
  ·exact .inr ⟨rfl, less_trans x y z h1 h2⟩
theorem less_total : ∀ a b : List UInt8, Op.bytesLess a b = false → Op.bytesLess b a = false → a = b
 | [], [], _, _ => rfl
 | [], _ :: _, h, _ => by simp [Op.bytesLess] at h
 | _ :: _, [], _, h => by simp [Op.bytesLess] at h
 | a :: x, b :: y, h1, h2 => by
  simp only [Op.bytesLess, Bool.or_eq_false_iff, decide_eq_false_iff_not] at h1 h2
  have e : a = b := UInt8.le_antisymm (UInt8.not_lt.1 h2.1) (UInt8.not_lt.1 h1.1)
  subst e
  have := less_total x y (by simpa using h1.2) (by simpa using h2.2)
  rw [this]
theorem less_cmp : ∀ a b : List UInt8, Lib.compareBytes a b = if Op.bytesLess a b = true then -1 else if Op.bytesLess b a = true then 1 else 0
 | [], [] => by simp [Lib.compareBytes, Op.bytesLess]
 | [], _ :: _ => by simp [Lib.compareBytes, Op.bytesLess]
 | _ :: _, [] => by simp [Lib.compareBytes, Op.bytesLess]
 | a :: x, b :: y => by
  unfold Lib.compareBytes
  simp only [Op.bytesLess, Bool.or_eq_true, decide_eq_true_eq, Bool.and_eq_true, beq_iff_eq]
  by_cases h1 : a < b
  ·simp [h1]
  ·by_cases h2 : b < a
   ·have : a ≠ b := by rintro rfl; exact UInt8.lt_irrefl a h2
    simp [h1, h2, this]
   ·have e : a = b := UInt8.le_antisymm (UInt8.not_lt.1 h2) (UInt8.not_lt.1 h1)
    subst e
    simp [h1, less_cmp x y]
theorem bytes_eq {a b : ByteArray} (h : a.toList = b.toList) : a = b := by
 rw [ByteArray.toList_eq, ByteArray.toList_eq] at h
 obtain ⟨⟨x⟩⟩ := a
 obtain ⟨⟨y⟩⟩ := b
 simp only at h
 rw [h]
theorem ltS_irrefl (a : ByteArray) : ltS a a = false := less_irrefl _
theorem ltS_trans {a b c : ByteArray} (h1 : ltS a b = true) (h2 : ltS b c = true) : ltS a c = true := less_trans _ _ _ h1 h2
theorem ltS_total {a b : ByteArray} (h1 : ltS a b = false) (h2 : ltS b a = false) : a = b := bytes_eq (less_total _ _ h1 h2)
theorem ltS_ne {a b : ByteArray} (h : ltS a b = true) : a ≠ b := by rintro rfl; rw [ltS_irrefl] at h; cases h
def cmpS (a b : ByteArray) : Int := Lib.compareBytes a.data.toList b.data.toList
theorem cmpS_eq (a b : ByteArray) : cmpS a b = if ltS a b = true then -1 else if ltS b a = true then 1 else 0 := by
 unfold cmpS ltS
 rw [ByteArray.toList_eq, ByteArray.toList_eq]
 exact less_cmp _ _
theorem cmpS_neg (a b : ByteArray) : decide (cmpS a b < 0) = ltS a b := by
 rw [cmpS_eq]
 cases h : ltS a b
 ·cases ltS b a <;> simp
 ·simp
theorem cmpS_zero (a b : ByteArray) : (cmpS a b == 0) = decide (a = b) := by
 rw [cmpS_eq, Bool.eq_iff_iff]
 simp only [beq_iff_eq, decide_eq_true_eq]
 constructor
 ·intro h
  cases h1 : ltS a b
  ·cases h2 : ltS b a
   ·exact ltS_total h1 h2
   ·rw [h1, h2] at h; simp at h
  ·rw [h1] at h; simp at h
 ·rintro rfl
  rw [ltS_irrefl]; simp
def Sorted (l : List Pr) : Prop := l.Pairwise fun p q => ltS p.k q.k = true
def hasK (l : List Pr) (k : ByteArray) : Bool := l.any fun p => decide (p.k = k)
def atP (l : List Pr) (k : ByteArray) : Option ByteArray := (l.find? fun p => decide (p.k = k)).map (·.v)
def posP (l : List Pr) (k : ByteArray) : Nat := l.countP fun p => ltS p.k k
def plusP : List Pr → ByteArray → ByteArray → List Pr
 | [], k, v => [⟨k, v⟩]
 | p :: l, k, v => if ltS p.k k = true then p :: plusP l k v else ⟨k, v⟩ :: (p :: l).filter fun q => !decide (q.k = k)
theorem hasK_atP (l : List Pr) (k : ByteArray) : (atP l k).isSome = hasK l k := by
 induction l with
 | nil => rfl
 | cons p l ih =>
  unfold atP hasK at *
  by_cases h : p.k = k <;> simp_all
theorem hasK_iff (l : List Pr) (k : ByteArray) : hasK l k = true ↔ k ∈ l.map (·.k) := by
 unfold hasK
 simp
theorem Sorted.tail {p : Pr} {l : List Pr} (h : Sorted (p :: l)) : Sorted l := (List.pairwise_cons.1 h).2
theorem Sorted.head {p : Pr} {l : List Pr} (h : Sorted (p :: l)) : ∀ q ∈ l, ltS p.k q.k = true := (List.pairwise_cons.1 h).1
theorem Sorted.at_lt {l : List Pr} (h : Sorted l) {i j : Nat} (hij : i < j) (hj : j < l.length) : ltS (l[i]'(by omega)).k l[j].k = true :=
 List.pairwise_iff_getElem.1 h i j (by omega) hj hij
theorem Sorted.nodup {l : List Pr} (h : Sorted l) : (l.map (·.k)).Nodup := by
 unfold List.Nodup
 rw [List.pairwise_map]
 exact h.imp fun h => ltS_ne h
theorem pos_lt {l : List Pr} (h : Sorted l) (k : ByteArray) : ∀ (i : Nat) (hi : i < l.length), ltS l[i].k k = decide (i < posP l k) := by
 induction l with
 | nil => intro i hi; simp at hi
 | cons p l ih =>
  intro i hi
  have hs := ih h.tail
  unfold posP at *
  rw [List.countP_cons]
  cases hp : ltS p.k k with
  | true =>
   rcases i with _ | i
   ·simp [hp]
   ·have := hs i (by simpa using hi)
    simp only [List.getElem_cons_succ, this]
    simp
  | false =>
   have hz : l.countP (fun q => ltS q.k k) = 0 := by
    rw [List.countP_eq_zero]
    intro q hq hqk
    have := ltS_trans (h.head q hq) hqk
    rw [this] at hp; cases hp
   rw [hz]
   rcases i with _ | i
   ·simp [hp]
   ·have := hs i (by simpa using hi)
    rw [hz] at this
    simp only [List.getElem_cons_succ, this]
    simp
theorem pos_le (l : List Pr) (k : ByteArray) : posP l k ≤ l.length := List.countP_le_length
theorem has_pos {l : List Pr} (h : Sorted l) (k : ByteArray) : hasK l k = true ↔ ∃ hi : posP l k < l.length, l[posP l k].k = k := by
 rw [hasK_iff]
 constructor
 ·intro hm
  obtain ⟨p, hp, rfl⟩ := List.mem_map.1 hm
  obtain ⟨i, hi, rfl⟩ := List.getElem_of_mem hp
  have e : posP l l[i].k = i := by
   have h1 := pos_lt h l[i].k i hi
   rw [ltS_irrefl] at h1
   have h2 : ¬ i < posP l l[i].k := by simpa using h1.symm
   rcases Nat.lt_or_ge (posP l l[i].k) i with h3 | h3
   ·have h4 := h.at_lt h3 hi
    have h5 := pos_lt h l[i].k _ (Nat.lt_trans h3 hi)
    rw [h4] at h5
    simp at h5
   ·omega
  simp only [e]
  exact ⟨hi, trivial⟩
 ·rintro ⟨hi, e⟩
  exact List.mem_map.2 ⟨_, List.getElem_mem hi, e⟩
theorem at_pos {l : List Pr} (h : Sorted l) (k : ByteArray) (hi : posP l k < l.length) (e : l[posP l k].k = k) : atP l k = some l[posP l k].v := by
 induction l with
 | nil => simp at hi
 | cons p l ih =>
  unfold atP posP at *
  by_cases hp : p.k = k
  ·have hz : l.countP (fun q => ltS q.k k) = 0 := by
    rw [List.countP_eq_zero]
    intro q hq hqk
    have := ltS_trans (h.head q hq) hqk
    rw [hp, ltS_irrefl] at this; cases this
   have hpl : ltS p.k k = false := by rw [hp]; exact ltS_irrefl k
   have hcnt : (p :: l).countP (fun q => ltS q.k k) = 0 := by rw [List.countP_cons, hz, hpl]; rfl
   simp [hp, hcnt]
  ·have hpl : ltS p.k k = true := by
    cases hpl : ltS p.k k with
    | true => rfl
    | false =>
     exfalso
     have hz : l.countP (fun q => ltS q.k k) = 0 := by
      rw [List.countP_eq_zero]
      intro q hq hqk
      have := ltS_trans (h.head q hq) hqk
      rw [hpl] at this; cases this
     have hcnt : (p :: l).countP (fun q => ltS q.k k) = 0 := by rw [List.countP_cons, hz, hpl]; rfl
     simp only [hcnt] at e
     exact hp e
   have hcnt : (p :: l).countP (fun q => ltS q.k k) = l.countP (fun q => ltS q.k k) + 1 := by rw [List.countP_cons, hpl]; rfl
   simp only [hcnt, List.getElem_cons_succ] at e ⊢
   rw [hcnt] at hi
   have := ih h.tail (by simpa using hi) e
   simp [hp, this]
theorem at_none {l : List Pr} {k : ByteArray} (h : hasK l k = false) : atP l k = none := by
 have := hasK_atP l k
 rw [h] at this
 simpa using this
theorem plus_there {l : List Pr} (h : Sorted l) (k v : ByteArray) (hi : posP l k < l.length) (e : l[posP l k].k = k) : plusP l k v = l.set (posP l k) ⟨k, v⟩ := by
 induction l with
 | nil => simp at hi
 | cons p l ih =>
  unfold posP at *
  unfold plusP
  cases hpl : ltS p.k k with
  | true =>
   have hcnt : (p :: l).countP (fun q => ltS q.k k) = l.countP (fun q => ltS q.k k) + 1 := by rw [List.countP_cons, hpl]; rfl
   simp only [hcnt, List.getElem_cons_succ] at e
   rw [hcnt] at hi
   rw [if_pos rfl, hcnt, List.set_cons_succ, ih h.tail (by simpa using hi) e]
  | false =>
   have hz : l.countP (fun q => ltS q.k k) = 0 := by
    rw [List.countP_eq_zero]
    intro q hq hqk
    have := ltS_trans (h.head q hq) hqk
    rw [hpl] at this; cases this
   have hcnt : (p :: l).countP (fun q => ltS q.k k) = 0 := by rw [List.countP_cons, hz, hpl]; rfl
   simp only [hcnt, List.getElem_cons_zero] at e
   rw [if_neg (by simp), hcnt, List.set_cons_zero]
   congr 1
   rw [List.filter_cons, if_neg (by simp [e])]
   rw [List.filter_eq_self]
   intro q hq
   have := ltS_ne (h.head q hq)
   rw [e] at this
   simpa using Ne.symm this
theorem plus_new {l : List Pr} (h : Sorted l) (k v : ByteArray) (hn : hasK l k = false) : plusP l k v = l.take (posP l k) ++ ⟨k, v⟩ :: l.drop (posP l k) := by
 induction l with
 | nil => rfl
 | cons p l ih =>
  unfold posP at *
  unfold plusP
  have hn2 : p.k ≠ k ∧ hasK l k = false := by
   unfold hasK at *
   simpa using hn
  cases hpl : ltS p.k k with
  | true =>
   have hcnt : (p :: l).countP (fun q => ltS q.k k) = l.countP (fun q => ltS q.k k) + 1 := by rw [List.countP_cons, hpl]; rfl
   rw [if_pos rfl, hcnt, ih h.tail hn2.2]
   rfl
  | false =>
   have hz : l.countP (fun q => ltS q.k k) = 0 := by
    rw [List.countP_eq_zero]
    intro q hq hqk
    have := ltS_trans (h.head q hq) hqk
    rw [hpl] at this; cases this
   have hcnt : (p :: l).countP (fun q => ltS q.k k) = 0 := by rw [List.countP_cons, hz, hpl]; rfl
   rw [if_neg (by simp), hcnt]
   show _ :: List.filter _ (p :: l) = ⟨k, v⟩ :: p :: l
   congr 1
   rw [List.filter_eq_self]
   intro q hq
   have : ¬ k ∈ (p :: l).map (·.k) := by
    intro hm
    have := (hasK_iff (p :: l) k).2 hm
    rw [hn] at this; cases this
   simp only [Bool.not_eq_true', decide_eq_false_iff_not]
   intro e
   exact this (List.mem_map.2 ⟨q, hq, e⟩)
theorem plus_mem {l : List Pr} {k v : ByteArray} {q : Pr} (h : q ∈ plusP l k v) : q = ⟨k, v⟩ ∨ (q ∈ l ∧ q.k ≠ k) := by
 induction l with
 | nil => simp [plusP] at h; exact .inl h
 | cons p l ih =>
  unfold plusP at h
  split at h
  ·rename_i hp
   rcases List.mem_cons.1 h with rfl | h
   ·exact .inr ⟨List.mem_cons_self, ltS_ne hp⟩
   ·rcases ih h with h | ⟨h1, h2⟩
    ·exact .inl h
    ·exact .inr ⟨List.mem_cons_of_mem _ h1, h2⟩
  ·rcases List.mem_cons.1 h with h | h
   ·exact .inl h
   ·have := List.mem_filter.1 h
    exact .inr ⟨this.1, by simpa using this.2⟩
theorem plus_self (l : List Pr) (k v : ByteArray) : ⟨k, v⟩ ∈ plusP l k v := by
 induction l with
 | nil => simp [plusP]
 | cons p l ih =>
  unfold plusP
  split
  ·exact List.mem_cons_of_mem _ ih
  ·exact List.mem_cons_self
theorem plus_keep {l : List Pr} {k v : ByteArray} {q : Pr} (h : q ∈ l) (hq : q.k ≠ k) : q ∈ plusP l k v := by
 induction l with
 | nil => simp at h
 | cons p l ih =>
  unfold plusP
  split
  ·rcases List.mem_cons.1 h with rfl | h
   ·exact List.mem_cons_self
   ·exact List.mem_cons_of_mem _ (ih h)
  ·refine List.mem_cons_of_mem _ (List.mem_filter.2 ⟨h, by simpa using hq⟩)
theorem plus_keys (l : List Pr) (k v x : ByteArray) : x ∈ (plusP l k v).map (·.k) ↔ x = k ∨ x ∈ l.map (·.k) := by
 constructor
 ·intro h
  obtain ⟨q, hq, rfl⟩ := List.mem_map.1 h
  rcases plus_mem hq with rfl | ⟨h1, _⟩
  ·exact .inl rfl
  ·exact .inr (List.mem_map.2 ⟨q, h1, rfl⟩)
 ·rintro (rfl | h)
  ·exact List.mem_map.2 ⟨_, plus_self l x v, rfl⟩
  ·obtain ⟨q, hq, rfl⟩ := List.mem_map.1 h
   by_cases hk : q.k = k
   ·exact List.mem_map.2 ⟨⟨k, v⟩, plus_self l k v, hk.symm⟩
   ·exact List.mem_map.2 ⟨q, plus_keep hq hk, rfl⟩
theorem plus_sorted {l : List Pr} (h : Sorted l) (k v : ByteArray) : Sorted (plusP l k v) := by
 induction l with
 | nil => simp [plusP, Sorted]
 | cons p l ih =>
  unfold plusP
  split
  ·rename_i hp
   refine List.pairwise_cons.2 ⟨fun q hq => ?_, ih h.tail⟩
   rcases plus_mem hq with rfl | ⟨h1, _⟩
   ·exact hp
   ·exact h.head q h1
  ·rename_i hp
   refine List.pairwise_cons.2 ⟨fun q hq => ?_, h.sublist List.filter_sublist⟩
   obtain ⟨h1, h2⟩ := List.mem_filter.1 hq
   have h2 : q.k ≠ k := by simpa using h2
   simp only [Bool.not_eq_true] at hp
   cases hk : ltS k q.k with
   | true => rfl
   | false =>
    exfalso
    have hqk : ltS q.k k = true := by
     cases e : ltS q.k k with
     | true => rfl
     | false => exact absurd (ltS_total e hk) h2
    rcases List.mem_cons.1 h1 with rfl | h1
    ·rw [hqk] at hp; cases hp
    ·have := ltS_trans (h.head q h1) hqk
     rw [this] at hp; cases hp
theorem plus_length (l : List Pr) (k v : ByteArray) (h : Sorted l) : (plusP l k v).length = if hasK l k = true then l.length else l.length + 1 := by
 cases e : hasK l k with
 | true =>
  obtain ⟨hi, e2⟩ := (has_pos h k).1 e
  rw [if_pos rfl, plus_there h k v hi e2, List.length_set]
 | false =>
  rw [if_neg (by simp), plus_new h k v e, List.length_append, List.length_cons, List.length_take, List.length_drop]
  have := pos_le l k
  omega
end Go.Proofs.YtjbnfigpflambacGreatDoor
