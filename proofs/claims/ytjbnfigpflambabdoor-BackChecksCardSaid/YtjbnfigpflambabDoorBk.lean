/- Plain laws, no program: pairs by their keys, sessions, worlds of a server; what a statement does to them. -/
import Derived.Test.YtjbnfigpflambabDoorSpec
import Derived.Lib.Bytealg
import GoSem.Op.String
namespace Go.Proofs.YtjbnfigpflambabDoor
open Go

/-- a key and its value -/
structure Pr where
  k : ByteArray
  v : ByteArray
/-- less, as the language orders strings -/
def ltS (a b : ByteArray) : Bool := Op.bytesLess a.toList b.toList

theorem less_irrefl : ∀ l : List UInt8, Op.bytesLess l l = false
  | [] => rfl
  | a :: l => by simp [Op.bytesLess, less_irrefl l, UInt8.lt_irrefl]
theorem less_trans : ∀ a b c : List UInt8, Op.bytesLess a b = true → Op.bytesLess b c = true → Op.bytesLess a c = true
  | _, _, [], _, h => by simp [Op.bytesLess] at h
  | [], _, _ :: _, _, _ => by simp [Op.bytesLess]
  | _ :: _, [], _ :: _, h, _ => by simp [Op.bytesLess] at h
  | a :: x, b :: y, c :: z, h1, h2 => by
    simp only [Op.bytesLess, Bool.or_eq_true, decide_eq_true_eq, Bool.and_eq_true, beq_iff_eq] at h1 h2 ⊢
    rcases h1 with h1 | ⟨rfl, h1⟩ <;> rcases h2 with h2 | ⟨rfl, h2⟩
    · exact .inl (UInt8.lt_trans h1 h2)
    · exact .inl h1
    · exact .inl h2
    · exact .inr ⟨rfl, less_trans x y z h1 h2⟩
theorem less_total : ∀ a b : List UInt8, Op.bytesLess a b = false → Op.bytesLess b a = false → a = b
  | [], [], _, _ => rfl
  | [], _ :: _, h, _ => by simp [Op.bytesLess] at h
  | _ :: _, [], _, h => by simp [Op.bytesLess] at h
  | a :: x, b :: y, h1, h2 => by
    simp only [Op.bytesLess, Bool.or_eq_false_iff, decide_eq_false_iff_not] at h1 h2
    have e : a = b := UInt8.le_antisymm (UInt8.not_lt.1 h2.1) (UInt8.not_lt.1 h1.1)
    subst e
    have := less_total x y (by simpa using h1.2) (by simpa using h2.2)
    rw [this]
theorem less_cmp : ∀ a b : List UInt8, Lib.compareBytes a b = if Op.bytesLess a b = true then -1 else if Op.bytesLess b a = true then 1 else 0
  | [], [] => by simp [Lib.compareBytes, Op.bytesLess]
  | [], _ :: _ => by simp [Lib.compareBytes, Op.bytesLess]
  | _ :: _, [] => by simp [Lib.compareBytes, Op.bytesLess]
  | a :: x, b :: y => by
    unfold Lib.compareBytes
    simp only [Op.bytesLess, Bool.or_eq_true, decide_eq_true_eq, Bool.and_eq_true, beq_iff_eq]
    by_cases h1 : a < b
    · simp [h1]
    · by_cases h2 : b < a
      · have : a ≠ b := by rintro rfl; exact UInt8.lt_irrefl a h2
        simp [h1, h2, this]
      · have e : a = b := UInt8.le_antisymm (UInt8.not_lt.1 h2) (UInt8.not_lt.1 h1)
        subst e
        simp [h1, less_cmp x y]
theorem bytes_eq {a b : ByteArray} (h : a.toList = b.toList) : a = b := by
  rw [ByteArray.toList_eq, ByteArray.toList_eq] at h
  obtain ⟨⟨x⟩⟩ := a
  obtain ⟨⟨y⟩⟩ := b
  simp only at h
  rw [h]
theorem ltS_irrefl (a : ByteArray) : ltS a a = false := less_irrefl _
theorem ltS_trans {a b c : ByteArray} (h1 : ltS a b = true) (h2 : ltS b c = true) : ltS a c = true := less_trans _ _ _ h1 h2
theorem ltS_total {a b : ByteArray} (h1 : ltS a b = false) (h2 : ltS b a = false) : a = b := bytes_eq (less_total _ _ h1 h2)
theorem ltS_asymm {a b : ByteArray} (h1 : ltS a b = true) : ltS b a = false := by
  cases h : ltS b a with
  | false => rfl
  | true => have := ltS_trans h1 h; rw [ltS_irrefl] at this; cases this
theorem ltS_ne {a b : ByteArray} (h : ltS a b = true) : a ≠ b := by rintro rfl; rw [ltS_irrefl] at h; cases h
/-- a three-way comparison, as the library's Compare gives it -/
def cmpS (a b : ByteArray) : Int := Lib.compareBytes a.data.toList b.data.toList
theorem cmpS_eq (a b : ByteArray) : cmpS a b = if ltS a b = true then -1 else if ltS b a = true then 1 else 0 := by
  unfold cmpS ltS
  rw [ByteArray.toList_eq, ByteArray.toList_eq]
  exact less_cmp _ _
theorem cmpS_neg (a b : ByteArray) : decide (cmpS a b < 0) = ltS a b := by
  rw [cmpS_eq]
  cases h : ltS a b
  · cases ltS b a <;> simp
  · simp
theorem cmpS_zero (a b : ByteArray) : (cmpS a b == 0) = decide (a = b) := by
  rw [cmpS_eq, Bool.eq_iff_iff]
  simp only [beq_iff_eq, decide_eq_true_eq]
  constructor
  · intro h
    cases h1 : ltS a b
    · cases h2 : ltS b a
      · exact ltS_total h1 h2
      · rw [h1, h2] at h; simp at h
    · rw [h1] at h; simp at h
  · rintro rfl
    rw [ltS_irrefl]; simp

/-- pairs whose keys rise -/
def Sorted (l : List Pr) : Prop := l.Pairwise fun p q => ltS p.k q.k = true
/-- is there the key? -/
def hasK (l : List Pr) (k : ByteArray) : Bool := l.any fun p => decide (p.k = k)
/-- what stands at a key -/
def atP (l : List Pr) (k : ByteArray) : Option ByteArray := (l.find? fun p => decide (p.k = k)).map (·.v)
/-- how many keys are less -/
def posP (l : List Pr) (k : ByteArray) : Nat := l.countP fun p => ltS p.k k
/-- pairs with one more, instead of that with its key -/
def plusP : List Pr → ByteArray → ByteArray → List Pr
  | [], k, v => [⟨k, v⟩]
  | p :: l, k, v => if ltS p.k k = true then p :: plusP l k v else ⟨k, v⟩ :: (p :: l).filter fun q => !decide (q.k = k)
theorem hasK_atP (l : List Pr) (k : ByteArray) : (atP l k).isSome = hasK l k := by
  induction l with
  | nil => rfl
  | cons p l ih =>
    unfold atP hasK at *
    by_cases h : p.k = k <;> simp_all
theorem hasK_iff (l : List Pr) (k : ByteArray) : hasK l k = true ↔ k ∈ l.map (·.k) := by
  unfold hasK
  simp
theorem Sorted.tail {p : Pr} {l : List Pr} (h : Sorted (p :: l)) : Sorted l := (List.pairwise_cons.1 h).2
theorem Sorted.head {p : Pr} {l : List Pr} (h : Sorted (p :: l)) : ∀ q ∈ l, ltS p.k q.k = true := (List.pairwise_cons.1 h).1
theorem Sorted.at_lt {l : List Pr} (h : Sorted l) {i j : Nat} (hij : i < j) (hj : j < l.length) : ltS (l[i]'(by omega)).k l[j].k = true :=
  List.pairwise_iff_getElem.1 h i j (by omega) hj hij
theorem Sorted.nodup {l : List Pr} (h : Sorted l) : (l.map (·.k)).Nodup := by
  unfold List.Nodup
  rw [List.pairwise_map]
  exact h.imp fun h => ltS_ne h
/-- in a sorted list the keys before posP are less, the others are not -/
theorem pos_lt {l : List Pr} (h : Sorted l) (k : ByteArray) : ∀ (i : Nat) (hi : i < l.length), ltS l[i].k k = decide (i < posP l k) := by
  induction l with
  | nil => intro i hi; simp at hi
  | cons p l ih =>
    intro i hi
    have hs := ih h.tail
    unfold posP at *
    rw [List.countP_cons]
    cases hp : ltS p.k k with
    | true =>
      rcases i with _ | i
      · simp [hp]
      · have := hs i (by simpa using hi)
        simp only [List.getElem_cons_succ, this]
        simp
    | false =>
      have hz : l.countP (fun q => ltS q.k k) = 0 := by
        rw [List.countP_eq_zero]
        intro q hq hqk
        have := ltS_trans (h.head q hq) hqk
        rw [this] at hp; cases hp
      rw [hz]
      rcases i with _ | i
      · simp [hp]
      · have := hs i (by simpa using hi)
        rw [hz] at this
        simp only [List.getElem_cons_succ, this]
        simp
theorem pos_le (l : List Pr) (k : ByteArray) : posP l k ≤ l.length := List.countP_le_length
theorem has_pos {l : List Pr} (h : Sorted l) (k : ByteArray) : hasK l k = true ↔ ∃ hi : posP l k < l.length, l[posP l k].k = k := by
  rw [hasK_iff]
  constructor
  · intro hm
    obtain ⟨p, hp, rfl⟩ := List.mem_map.1 hm
    obtain ⟨i, hi, rfl⟩ := List.getElem_of_mem hp
    have e : posP l l[i].k = i := by
      have h1 := pos_lt h l[i].k i hi
      rw [ltS_irrefl] at h1
      have h2 : ¬ i < posP l l[i].k := by simpa using h1.symm
      rcases Nat.lt_or_ge (posP l l[i].k) i with h3 | h3
      · have h4 := h.at_lt h3 hi
        have h5 := pos_lt h l[i].k _ (Nat.lt_trans h3 hi)
        rw [h4] at h5
        simp at h5
      · omega
    simp only [e]
    exact ⟨hi, trivial⟩
  · rintro ⟨hi, e⟩
    exact List.mem_map.2 ⟨_, List.getElem_mem hi, e⟩
theorem at_pos {l : List Pr} (h : Sorted l) (k : ByteArray) (hi : posP l k < l.length) (e : l[posP l k].k = k) : atP l k = some l[posP l k].v := by
  induction l with
  | nil => simp at hi
  | cons p l ih =>
    unfold atP posP at *
    by_cases hp : p.k = k
    · have hz : l.countP (fun q => ltS q.k k) = 0 := by
        rw [List.countP_eq_zero]
        intro q hq hqk
        have := ltS_trans (h.head q hq) hqk
        rw [hp, ltS_irrefl] at this; cases this
      have hpl : ltS p.k k = false := by rw [hp]; exact ltS_irrefl k
      have hcnt : (p :: l).countP (fun q => ltS q.k k) = 0 := by rw [List.countP_cons, hz, hpl]; rfl
      simp [hp, hcnt]
    · have hpl : ltS p.k k = true := by
        cases hpl : ltS p.k k with
        | true => rfl
        | false =>
          exfalso
          have hz : l.countP (fun q => ltS q.k k) = 0 := by
            rw [List.countP_eq_zero]
            intro q hq hqk
            have := ltS_trans (h.head q hq) hqk
            rw [hpl] at this; cases this
          have hcnt : (p :: l).countP (fun q => ltS q.k k) = 0 := by rw [List.countP_cons, hz, hpl]; rfl
          simp only [hcnt] at e
          exact hp e
      have hcnt : (p :: l).countP (fun q => ltS q.k k) = l.countP (fun q => ltS q.k k) + 1 := by rw [List.countP_cons, hpl]; rfl
      simp only [hcnt, List.getElem_cons_succ] at e ⊢
      rw [hcnt] at hi
      have := ih h.tail (by simpa using hi) e
      simp [hp, this]
theorem at_none {l : List Pr} {k : ByteArray} (h : hasK l k = false) : atP l k = none := by
  have := hasK_atP l k
  rw [h] at this
  simpa using this
/-- what the program makes: the value replaced, or the pair inserted -/
theorem plus_there {l : List Pr} (h : Sorted l) (k v : ByteArray) (hi : posP l k < l.length) (e : l[posP l k].k = k) : plusP l k v = l.set (posP l k) ⟨k, v⟩ := by
  induction l with
  | nil => simp at hi
  | cons p l ih =>
    unfold posP at *
    unfold plusP
    cases hpl : ltS p.k k with
    | true =>
      have hcnt : (p :: l).countP (fun q => ltS q.k k) = l.countP (fun q => ltS q.k k) + 1 := by rw [List.countP_cons, hpl]; rfl
      simp only [hcnt, List.getElem_cons_succ] at e
      rw [hcnt] at hi
      rw [if_pos rfl, hcnt, List.set_cons_succ, ih h.tail (by simpa using hi) e]
    | false =>
      have hz : l.countP (fun q => ltS q.k k) = 0 := by
        rw [List.countP_eq_zero]
        intro q hq hqk
        have := ltS_trans (h.head q hq) hqk
        rw [hpl] at this; cases this
      have hcnt : (p :: l).countP (fun q => ltS q.k k) = 0 := by rw [List.countP_cons, hz, hpl]; rfl
      simp only [hcnt, List.getElem_cons_zero] at e
      rw [if_neg (by simp), hcnt, List.set_cons_zero]
      congr 1
      rw [List.filter_cons, if_neg (by simp [e])]
      rw [List.filter_eq_self]
      intro q hq
      have := ltS_ne (h.head q hq)
      rw [e] at this
      simpa using Ne.symm this
theorem plus_new {l : List Pr} (h : Sorted l) (k v : ByteArray) (hn : hasK l k = false) : plusP l k v = l.take (posP l k) ++ ⟨k, v⟩ :: l.drop (posP l k) := by
  induction l with
  | nil => rfl
  | cons p l ih =>
    unfold posP at *
    unfold plusP
    have hn2 : p.k ≠ k ∧ hasK l k = false := by
      unfold hasK at *
      simpa using hn
    cases hpl : ltS p.k k with
    | true =>
      have hcnt : (p :: l).countP (fun q => ltS q.k k) = l.countP (fun q => ltS q.k k) + 1 := by rw [List.countP_cons, hpl]; rfl
      rw [if_pos rfl, hcnt, ih h.tail hn2.2]
      rfl
    | false =>
      have hz : l.countP (fun q => ltS q.k k) = 0 := by
        rw [List.countP_eq_zero]
        intro q hq hqk
        have := ltS_trans (h.head q hq) hqk
        rw [hpl] at this; cases this
      have hcnt : (p :: l).countP (fun q => ltS q.k k) = 0 := by rw [List.countP_cons, hz, hpl]; rfl
      rw [if_neg (by simp), hcnt]
      show _ :: List.filter _ (p :: l) = ⟨k, v⟩ :: p :: l
      congr 1
      rw [List.filter_eq_self]
      intro q hq
      have : ¬ k ∈ (p :: l).map (·.k) := by
        intro hm
        have := (hasK_iff (p :: l) k).2 hm
        rw [hn] at this; cases this
      simp only [Bool.not_eq_true', decide_eq_false_iff_not]
      intro e
      exact this (List.mem_map.2 ⟨q, hq, e⟩)
theorem plus_mem {l : List Pr} {k v : ByteArray} {q : Pr} (h : q ∈ plusP l k v) : q = ⟨k, v⟩ ∨ (q ∈ l ∧ q.k ≠ k) := by
  induction l with
  | nil => simp [plusP] at h; exact .inl h
  | cons p l ih =>
    unfold plusP at h
    split at h
    · rename_i hp
      rcases List.mem_cons.1 h with rfl | h
      · exact .inr ⟨List.mem_cons_self, ltS_ne hp⟩
      · rcases ih h with h | ⟨h1, h2⟩
        · exact .inl h
        · exact .inr ⟨List.mem_cons_of_mem _ h1, h2⟩
    · rcases List.mem_cons.1 h with h | h
      · exact .inl h
      · have := List.mem_filter.1 h
        exact .inr ⟨this.1, by simpa using this.2⟩
theorem plus_self (l : List Pr) (k v : ByteArray) : ⟨k, v⟩ ∈ plusP l k v := by
  induction l with
  | nil => simp [plusP]
  | cons p l ih =>
    unfold plusP
    split
    · exact List.mem_cons_of_mem _ ih
    · exact List.mem_cons_self
theorem plus_keep {l : List Pr} {k v : ByteArray} {q : Pr} (h : q ∈ l) (hq : q.k ≠ k) : q ∈ plusP l k v := by
  induction l with
  | nil => simp at h
  | cons p l ih =>
    unfold plusP
    split
    · rcases List.mem_cons.1 h with rfl | h
      · exact List.mem_cons_self
      · exact List.mem_cons_of_mem _ (ih h)
    · refine List.mem_cons_of_mem _ (List.mem_filter.2 ⟨h, by simpa using hq⟩)
theorem plus_keys (l : List Pr) (k v x : ByteArray) : x ∈ (plusP l k v).map (·.k) ↔ x = k ∨ x ∈ l.map (·.k) := by
  constructor
  · intro h
    obtain ⟨q, hq, rfl⟩ := List.mem_map.1 h
    rcases plus_mem hq with rfl | ⟨h1, _⟩
    · exact .inl rfl
    · exact .inr (List.mem_map.2 ⟨q, h1, rfl⟩)
  · rintro (rfl | h)
    · exact List.mem_map.2 ⟨_, plus_self l x v, rfl⟩
    · obtain ⟨q, hq, rfl⟩ := List.mem_map.1 h
      by_cases hk : q.k = k
      · exact List.mem_map.2 ⟨⟨k, v⟩, plus_self l k v, hk.symm⟩
      · exact List.mem_map.2 ⟨q, plus_keep hq hk, rfl⟩
theorem plus_sorted {l : List Pr} (h : Sorted l) (k v : ByteArray) : Sorted (plusP l k v) := by
  induction l with
  | nil => simp [plusP, Sorted]
  | cons p l ih =>
    unfold plusP
    split
    · rename_i hp
      refine List.pairwise_cons.2 ⟨fun q hq => ?_, ih h.tail⟩
      rcases plus_mem hq with rfl | ⟨h1, _⟩
      · exact hp
      · exact h.head q h1
    · rename_i hp
      refine List.pairwise_cons.2 ⟨fun q hq => ?_, h.sublist List.filter_sublist⟩
      obtain ⟨h1, h2⟩ := List.mem_filter.1 hq
      have h2 : q.k ≠ k := by simpa using h2
      simp only [Bool.not_eq_true] at hp
      cases hk : ltS k q.k with
      | true => rfl
      | false =>
        exfalso
        have hqk : ltS q.k k = true := by
          cases e : ltS q.k k with
          | true => rfl
          | false => exact absurd (ltS_total e hk) h2
        rcases List.mem_cons.1 h1 with rfl | h1
        · rw [hqk] at hp; cases hp
        · have := ltS_trans (h.head q h1) hqk
          rw [this] at hp; cases hp
/-- two sorted lists with the same pairs are one -/
theorem sorted_ext : ∀ {l m : List Pr}, Sorted l → Sorted m → (∀ q, q ∈ l ↔ q ∈ m) → l = m
  | [], [], _, _, _ => rfl
  | [], q :: m, _, _, h => absurd ((h q).2 List.mem_cons_self) (by simp)
  | p :: l, [], _, _, h => absurd ((h p).1 List.mem_cons_self) (by simp)
  | p :: l, q :: m, hl, hm, h => by
    have e : p = q := by
      rcases List.mem_cons.1 ((h p).1 List.mem_cons_self) with e | e
      · exact e
      · rcases List.mem_cons.1 ((h q).2 List.mem_cons_self) with e' | e'
        · exact e'.symm
        · have h1 := hm.head p e
          have h2 := hl.head q e'
          rw [ltS_asymm h1] at h2; cases h2
    subst e
    congr 1
    refine sorted_ext hl.tail hm.tail fun x => ?_
    constructor
    · intro hx
      rcases List.mem_cons.1 ((h x).1 (List.mem_cons_of_mem _ hx)) with rfl | h'
      · have := hl.head x hx; rw [ltS_irrefl] at this; cases this
      · exact h'
    · intro hx
      rcases List.mem_cons.1 ((h x).2 (List.mem_cons_of_mem _ hx)) with rfl | h'
      · have := hm.head x hx; rw [ltS_irrefl] at this; cases this
      · exact h'
/-- in a list whose keys differ, what stands at a key is the pair's value -/
theorem atP_mem {l : List Pr} (h : Sorted l) {k v : ByteArray} : atP l k = some v ↔ ⟨k, v⟩ ∈ l := by
  induction l with
  | nil => simp [atP]
  | cons p l ih =>
    have ih := ih h.tail
    unfold atP at *
    by_cases hp : p.k = k
    · have hnot : ⟨k, v⟩ ∉ l := fun hm => by
        have := ltS_ne (h.head _ hm)
        exact this hp
      simp only [List.find?_cons, hp, decide_true, Option.map_some, Option.some.injEq, List.mem_cons]
      constructor
      · rintro rfl
        left
        cases p
        simp_all
      · rintro (e | e)
        · rw [← e]
        · exact absurd e hnot
    · simp only [List.find?_cons, hp, decide_false, List.mem_cons]
      rw [ih]
      constructor
      · exact .inr
      · rintro (e | e)
        · exact absurd (by rw [← e]) hp
        · exact e
theorem atP_plus {l : List Pr} (h : Sorted l) (k v x : ByteArray) : atP (plusP l k v) x = if x = k then some v else atP l x := by
  have hs := plus_sorted h k v
  by_cases e : x = k
  · subst e
    rw [if_pos rfl]
    exact (atP_mem hs).2 (plus_self l x v)
  · rw [if_neg e]
    cases ha : atP l x with
    | some y => exact (atP_mem hs).2 (plus_keep ((atP_mem h).1 ha) e)
    | none =>
      cases hb : atP (plusP l k v) x with
      | none => rfl
      | some y =>
        rcases plus_mem ((atP_mem hs).1 hb) with e' | ⟨h1, _⟩
        · injection e' with e' _
          exact absurd e' e
        · have := (atP_mem h).2 h1
          rw [ha] at this; cases this
theorem plus_length (l : List Pr) (k v : ByteArray) (h : Sorted l) : (plusP l k v).length = if hasK l k = true then l.length else l.length + 1 := by
  cases e : hasK l k with
  | true =>
    obtain ⟨hi, e2⟩ := (has_pos h k).1 e
    rw [if_pos rfl, plus_there h k v hi e2, List.length_set]
  | false =>
    rw [if_neg (by simp), plus_new h k v e, List.length_append, List.length_cons, List.length_take, List.length_drop]
    have := pos_le l k
    omega
end Go.Proofs.YtjbnfigpflambabDoor
