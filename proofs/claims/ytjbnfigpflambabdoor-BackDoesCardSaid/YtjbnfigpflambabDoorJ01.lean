/- Plain laws, no program: worlds of a server, which are valid, what a statement does; a valid world stays valid. Slices of pairs in memory: what reads as a list of pairs; copies of such slices; the laws' comparison. The reference's at and isHeld. -/
import Derived.Test.YtjbnfigpflambabDoorJ00
import Derived.Deep.QuietTactic
import Derived.BigQuiet
import Derived.WalkSpells
import Derived.WalkLawsBesides
import Derived.Deep.RegionHeld3
import Derived.Deep.CutBlock
/- Plain laws, no program: worlds of a server, which are valid, what a statement does; a valid world stays valid. -/
namespace Go.Proofs.YtjbnfigpflambabDoor
open Go
/-- is the name in the list? -/
def hasN (l : List ByteArray) (k : ByteArray) : Bool := l.any fun x => decide (x = k)
theorem hasN_iff (l : List ByteArray) (k : ByteArray) : hasN l k = true ↔ k ∈ l := by
 unfold hasN
 rw [List.any_eq_true]
 constructor
 ·rintro ⟨x, hx, h⟩
  have := of_decide_eq_true h
  subst this
  exact hx
 ·intro h
  exact ⟨k, h, by simp⟩
/-- the names of a list, each once -/
def dd : List ByteArray → List ByteArray
 | [] => []
 | k :: l => if hasN (dd l) k = true then dd l else k :: dd l
theorem mem_dd (x : ByteArray) (l : List ByteArray) : x ∈ dd l ↔ x ∈ l := by
 induction l with
 | nil => simp [dd]
 | cons k l ih =>
  unfold dd
  split
  ·rename_i h
   rw [ih, List.mem_cons]
   constructor
   ·exact .inr
   ·rintro (rfl | h')
    ·exact ih.1 ((hasN_iff _ _).1 h)
    ·exact h'
  ·rw [List.mem_cons, List.mem_cons, ih]
theorem nodup_dd (l : List ByteArray) : (dd l).Nodup := by
 induction l with
 | nil => simp [dd]
 | cons k l ih =>
  unfold dd
  split
  ·exact ih
  ·rename_i h
   exact List.nodup_cons.2 ⟨fun h' => h ((hasN_iff _ _).2 h'), ih⟩
/-- how many names -/
def card (l : List ByteArray) : Nat := (dd l).length
theorem card_mono {l m : List ByteArray} (h : ∀ x, x ∈ l → x ∈ m) : card l ≤ card m :=
 (nodup_dd l).length_le_of_subset fun x hx => (mem_dd x m).2 (h x ((mem_dd x l).1 hx))
theorem card_congr {l m : List ByteArray} (h : ∀ x, x ∈ l ↔ x ∈ m) : card l = card m :=
 Nat.le_antisymm (card_mono fun x hx => (h x).1 hx) (card_mono fun x hx => (h x).2 hx)
theorem dd_nodup {l : List ByteArray} (h : l.Nodup) : dd l = l := by
 induction l with
 | nil => rfl
 | cons k l ih =>
  obtain ⟨h1, h2⟩ := List.nodup_cons.1 h
  unfold dd
  rw [ih h2, if_neg (fun h' => h1 ((hasN_iff _ _).1 h'))]
theorem card_nodup {l : List ByteArray} (h : l.Nodup) : card l = l.length := by unfold card; rw [dd_nodup h]
theorem card_cons (k : ByteArray) (l : List ByteArray) : card (k :: l) = if hasN l k = true then card l else card l + 1 := by
 unfold card
 rw [dd]
 have e : hasN (dd l) k = hasN l k := by rw [Bool.eq_iff_iff, hasN_iff, hasN_iff]; exact mem_dd k l
 rw [e]
 split <;> rfl
/-- a session: its state, its settings, what it prepared, its settings when the transaction began, its writes -/
structure Se where
 st : Int
 set : List Pr
 pre : List Pr
 sav : List Pr
 wri : List Pr
def Se.new : Se := ⟨0, [], [], [], []⟩
/-- a world: rows and sessions -/
structure Wo where
 rows : List Pr
 ses : List Se
/-- an answer: its kind, its text, the state behind it -/
structure An where
 kind : Int
 text : ByteArray
 st : Int
def Pr.no : Pr := ⟨⟨#[]⟩, ⟨#[]⟩⟩
/-- may the i-th pair be? -/
def pairB (kind : Int) (l : List Pr) (i : Nat) : Bool :=
 decide (checkE ⟨kind, (l.getD i Pr.no).k, (l.getD i Pr.no).v⟩ = 0) && (decide (i = 0) || ltS (l.getD (i - 1) Pr.no).k (l.getD i Pr.no).k)
def pairsB (kind : Int) (most : Nat) (l : List Pr) : Bool := (List.range l.length).all (pairB kind l) && decide (l.length ≤ most)
theorem getD_at {α : Type} {l : List α} {i : Nat} (h : i < l.length) (d : α) : l.getD i d = l[i] := by
 rw [List.getD_eq_getElem?_getD, List.getElem?_eq_getElem h]; rfl
theorem sorted_of {l : List Pr} (h : ∀ i (hi : i + 1 < l.length), ltS (l[i]'(by omega)).k l[i + 1].k = true) : Sorted l := by
 refine List.pairwise_iff_getElem.2 fun i j hi hj hij => ?_
 obtain ⟨d, rfl⟩ : ∃ d, j = i + 1 + d := ⟨j - i - 1, by omega⟩
 clear hij
 induction d with
 | zero => exact h i hj
 | succ d ih => exact ltS_trans (ih (by omega)) (h (i + 1 + d) hj)
theorem pairs_iff (kind : Int) (most : Nat) (l : List Pr) : pairsB kind most l = true ↔ (∀ p ∈ l, checkE ⟨kind, p.k, p.v⟩ = 0) ∧ Sorted l ∧ l.length ≤ most := by
 unfold pairsB
 rw [Bool.and_eq_true, List.all_eq_true, decide_eq_true_eq]
 constructor
 ·rintro ⟨h, hl⟩
  have hp : ∀ i (hi : i < l.length), checkE ⟨kind, l[i].k, l[i].v⟩ = 0 ∧ (i = 0 ∨ ltS (l.getD (i - 1) Pr.no).k l[i].k = true) := by
   intro i hi
   have := h i (List.mem_range.2 hi)
   unfold pairB at this
   rw [getD_at hi] at this
   simpa using this
  refine ⟨fun p hp' => ?_, sorted_of fun i hi => ?_, hl⟩
  ·obtain ⟨i, hi, rfl⟩ := List.getElem_of_mem hp'
   exact (hp i hi).1
  ·have := (hp (i + 1) hi).2
   rw [Nat.add_sub_cancel, getD_at (by omega)] at this
   simpa using this
 ·rintro ⟨h1, h2, hl⟩
  refine ⟨fun i hi => ?_, hl⟩
  have hi := List.mem_range.1 hi
  unfold pairB
  rw [getD_at hi, h1 _ (List.getElem_mem hi)]
  rcases Nat.eq_zero_or_pos i with rfl | h0
  ·simp
  ·rw [getD_at (by omega), h2.at_lt (by omega) hi]
   simp
/-- valid by itself -/
def seOk (s : Se) : Bool :=
 decide (0 ≤ s.st) && decide (s.st ≤ 2) && pairsB 9 6 s.set && pairsB 11 6 s.pre && pairsB 9 6 s.sav && pairsB 10 100 s.wri && !(decide (s.st = 0) && !s.sav.isEmpty) && !(decide (s.st ≠ 1) && !s.wri.isEmpty)
/-- has another session a write of the row? -/
def heldB (ss : List Se) (i : Nat) (k : ByteArray) : Bool := (List.range ss.length).any fun j => decide (j ≠ i) && hasK (ss.getD j Se.new).wri k
def sesOk (ss : List Se) (i : Nat) : Bool := seOk (ss.getD i Se.new) && (ss.getD i Se.new).wri.all fun p => !heldB ss i p.k
/-- the names of rows that there are, and of those that are written -/
def keysW (W : Wo) : List ByteArray := W.rows.map (·.k) ++ W.ses.flatMap fun s => s.wri.map (·.k)
def goodW (W : Wo) : Bool := pairsB 10 100 W.rows && decide (W.ses.length ≤ 8) && (List.range W.ses.length).all (sesOk W.ses) && decide (card (keysW W) ≤ 100)
structure GoodSe (s : Se) : Prop where
 st0 : 0 ≤ s.st
 st2 : s.st ≤ 2
 set : pairsB 9 6 s.set = true
 pre : pairsB 11 6 s.pre = true
 sav : pairsB 9 6 s.sav = true
 wri : pairsB 10 100 s.wri = true
 idle : s.st = 0 → s.sav = []
 calm : s.st ≠ 1 → s.wri = []
theorem seOk_iff (s : Se) : seOk s = true ↔ GoodSe s := by
 unfold seOk
 simp only [Bool.and_eq_true, decide_eq_true_eq, Bool.not_eq_true', Bool.and_eq_false_iff, decide_eq_false_iff_not, Bool.not_eq_false', List.isEmpty_iff]
 constructor
 ·rintro ⟨⟨⟨⟨⟨⟨⟨h1, h2⟩, h3⟩, h4⟩, h5⟩, h6⟩, h7⟩, h8⟩
  exact ⟨h1, h2, h3, h4, h5, h6, fun h => h7.resolve_left (fun h' => h' h), fun h => h8.resolve_left (fun h' => h' h)⟩
 ·intro g
  refine ⟨⟨⟨⟨⟨⟨⟨g.st0, g.st2⟩, g.set⟩, g.pre⟩, g.sav⟩, g.wri⟩, ?_⟩, ?_⟩
  ·by_cases h : s.st = 0
   ·exact .inr (g.idle h)
   ·exact .inl h
  ·by_cases h : s.st = 1
   ·exact .inl (fun h' => h' h)
   ·exact .inr (g.calm h)
theorem held_iff (ss : List Se) (i : Nat) (k : ByteArray) : heldB ss i k = true ↔ ∃ j, j < ss.length ∧ j ≠ i ∧ hasK (ss.getD j Se.new).wri k = true := by
 unfold heldB
 simp
structure Good (W : Wo) : Prop where
 rows : pairsB 10 100 W.rows = true
 few : W.ses.length ≤ 8
 ses : ∀ i, i < W.ses.length → GoodSe (W.ses.getD i Se.new)
 apart : ∀ i j, i < W.ses.length → j < W.ses.length → j ≠ i → ∀ k, hasK (W.ses.getD i Se.new).wri k = true → hasK (W.ses.getD j Se.new).wri k = false
 room : card (keysW W) ≤ 100
theorem good_iff (W : Wo) : goodW W = true ↔ Good W := by
 unfold goodW
 simp only [Bool.and_eq_true, decide_eq_true_eq, List.all_eq_true, List.mem_range]
 constructor
 ·rintro ⟨⟨⟨h1, h2⟩, h3⟩, h4⟩
  refine ⟨h1, h2, fun i hi => ?_, fun i j hi hj hij k hk => ?_, h4⟩
  ·have := h3 i hi
   unfold sesOk at this
   rw [Bool.and_eq_true] at this
   exact (seOk_iff _).1 this.1
  ·have := h3 i hi
   unfold sesOk at this
   rw [Bool.and_eq_true, List.all_eq_true] at this
   obtain ⟨p, hp, rfl⟩ := List.mem_map.1 ((hasK_iff _ _).1 hk)
   have h5 := this.2 p hp
   cases h6 : hasK (W.ses.getD j Se.new).wri p.k with
   | false => rfl
   | true =>
    have := (held_iff W.ses i p.k).2 ⟨j, hj, hij, h6⟩
    rw [this] at h5
    cases h5
 ·intro g
  refine ⟨⟨⟨g.rows, g.few⟩, fun i hi => ?_⟩, g.room⟩
  unfold sesOk
  rw [Bool.and_eq_true, List.all_eq_true]
  refine ⟨(seOk_iff _).2 (g.ses i hi), fun p hp => ?_⟩
  cases h : heldB W.ses i p.k with
  | false => rfl
  | true =>
   obtain ⟨j, hj, hij, hk⟩ := (held_iff _ _ _).1 h
   have h1 := g.apart i j hi hj hij p.k ((hasK_iff _ _).2 (List.mem_map.2 ⟨p, hp, rfl⟩))
   rw [h1] at hk
   cases hk
def tFailed : ByteArray := ⟨#[102, 97, 105, 108, 101, 100, 32, 97, 108, 114, 101, 97, 100, 121]⟩
def tBegun : ByteArray := ⟨#[98, 101, 103, 117, 110, 32, 97, 108, 114, 101, 97, 100, 121]⟩
def tNoTx : ByteArray := ⟨#[110, 111, 32, 116, 114, 97, 110, 115, 97, 99, 116, 105, 111, 110]⟩
def tNotIn : ByteArray := ⟨#[110, 111, 116, 32, 105, 110, 32, 97, 32, 116, 114, 97, 110, 115, 97, 99, 116, 105, 111, 110]⟩
def tFull : ByteArray := ⟨#[102, 117, 108, 108]⟩
def tHeld : ByteArray := ⟨#[104, 101, 108, 100]⟩
def tNotPrep : ByteArray := ⟨#[110, 111, 116, 32, 112, 114, 101, 112, 97, 114, 101, 100]⟩
def tAsked : ByteArray := ⟨#[97, 115, 32, 97, 115, 107, 101, 100]⟩
def okA : An := ⟨1, ⟨#[]⟩, 0⟩
def noA (t : ByteArray) : An := ⟨4, t, 0⟩
def foundA : Option ByteArray → An
 | some v => ⟨2, v, 0⟩
 | none => ⟨3, ⟨#[]⟩, 0⟩
/-- the pairs of a list, added one by one -/
def plusAll (l : List Pr) (m : List Pr) : List Pr := m.foldl (fun l p => plusP l p.k p.v) l
def Wo.se (W : Wo) (i : Nat) : Se := W.ses.getD i Se.new
def Wo.put (W : Wo) (i : Nat) (s : Se) : Wo := ⟨W.rows, W.ses.set i s⟩
/-- a list with a pair more, or none: it is full -/
def keepP (l : List Pr) (k v : ByteArray) : Option (List Pr) := if hasK l k = false ∧ l.length = 6 then none else some (plusP l k v)
/-- the end of a transaction -/
def endW (W : Wo) (i : Nat) (done : Bool) : Wo :=
 if done = true then ⟨plusAll W.rows (W.se i).wri, W.ses.set i ⟨0, (W.se i).set, (W.se i).pre, [], []⟩⟩
 else W.put i ⟨0, (W.se i).sav, (W.se i).pre, [], []⟩
def transW (W : Wo) (i : Nat) (k : Int) : Wo × An :=
 if k = 1 ∧ (W.se i).st = 0 then (W.put i ⟨1, (W.se i).set, (W.se i).pre, (W.se i).set, (W.se i).wri⟩, okA)
 else if k = 1 then (W, noA tBegun)
 else if (W.se i).st = 0 then (W, noA tNoTx)
 else (endW W i (decide (k = 2) && decide ((W.se i).st = 1)), okA)
def putW (W : Wo) (i : Nat) (k v : ByteArray) : Wo × An :=
 if heldB W.ses i k = true then (W, noA tHeld)
 else if hasK W.rows k = false ∧ hasK (W.se i).wri k = false ∧ card (keysW W) = 100 then (W, noA tFull)
 else if (W.se i).st = 1 then (W.put i ⟨(W.se i).st, (W.se i).set, (W.se i).pre, (W.se i).sav, plusP (W.se i).wri k v⟩, okA)
 else (⟨plusP W.rows k v, W.ses⟩, okA)
def setW (W : Wo) (i : Nat) (k v : ByteArray) : Wo × An :=
 match keepP (W.se i).set k v with
 | none => (W, noA tFull)
 | some l => (W.put i ⟨(W.se i).st, l, (W.se i).pre, (W.se i).sav, (W.se i).wri⟩, okA)
def prepW (W : Wo) (i : Nat) (k v : ByteArray) : Wo × An :=
 match keepP (W.se i).pre k v with
 | none => (W, noA tFull)
 | some l => (W.put i ⟨(W.se i).st, (W.se i).set, l, (W.se i).sav, (W.se i).wri⟩, okA)
def resetW (W : Wo) (i : Nat) : Wo × An :=
 if (W.se i).st = 0 then (W.put i ⟨(W.se i).st, [], [], (W.se i).sav, (W.se i).wri⟩, okA) else (W, noA tNotIn)
def getW (W : Wo) (i : Nat) (k : ByteArray) : Wo × An := (W, foundA (atP (W.se i).set k))
def readW (W : Wo) (i : Nat) (k : ByteArray) : Wo × An := (W, foundA (match atP (W.se i).wri k with | some v => some v | none => atP W.rows k))
/-- a statement that is no Exec -/
def did1 (W : Wo) (i : Nat) (x : St) : Wo × An :=
 if (W.se i).st = 2 ∧ x.k ≠ 2 ∧ x.k ≠ 3 then (W, noA tFailed)
 else if x.k = 1 ∨ x.k = 2 ∨ x.k = 3 then transW W i x.k
 else if x.k = 4 then resetW W i
 else if x.k = 6 then getW W i x.key
 else if x.k = 7 then readW W i x.key
 else if x.k = 9 then setW W i x.key x.val
 else if x.k = 10 then putW W i x.key x.val
 else if x.k = 11 then prepW W i x.key x.val
 else (W, noA tAsked)
def execW (W : Wo) (i : Nat) (k : ByteArray) : Wo × An :=
 if (W.se i).st = 2 then (W, noA tFailed)
 else match atP (W.se i).pre k with
  | none => (W, noA tNotPrep)
  | some t => did1 W i (readS t)
def did (W : Wo) (i : Nat) (x : St) : Wo × An := if x.k = 8 then execW W i x.key else did1 W i x
/-- an error in a transaction makes it failed -/
def failSe (s : Se) (a : An) : Se := if a.kind = 4 ∧ s.st = 1 then ⟨2, s.set, s.pre, s.sav, []⟩ else s
def doW (W : Wo) (i : Nat) (x : St) : Wo × An :=
 ((did W i x).1.put i (failSe ((did W i x).1.se i) (did W i x).2), ⟨(did W i x).2.kind, (did W i x).2.text, (failSe ((did W i x).1.se i) (did W i x).2).st⟩)
/-! what stays valid -/
theorem se_put (W : Wo) {i : Nat} (hi : i < W.ses.length) (s : Se) (j : Nat) : (W.put i s).se j = if j = i then s else W.se j := by
 unfold Wo.put Wo.se
 rw [List.getD_eq_getElem?_getD, List.getElem?_set, List.getD_eq_getElem?_getD]
 by_cases h : i = j
 ·subst h; simp [hi]
 ·rw [if_neg h, if_neg (fun e => h e.symm)]
theorem put_length (W : Wo) (i : Nat) (s : Se) : (W.put i s).ses.length = W.ses.length := List.length_set
theorem mem_keys (W : Wo) (x : ByteArray) : x ∈ keysW W ↔ hasK W.rows x = true ∨ ∃ j, j < W.ses.length ∧ hasK (W.se j).wri x = true := by
 unfold keysW Wo.se
 rw [List.mem_append, ← hasK_iff, List.mem_flatMap]
 constructor
 ·rintro (h | ⟨s, hs, h⟩)
  ·exact .inl h
  ·obtain ⟨j, hj, rfl⟩ := List.getElem_of_mem hs
   exact .inr ⟨j, hj, by rw [getD_at hj]; exact (hasK_iff _ _).2 h⟩
 ·rintro (h | ⟨j, hj, h⟩)
  ·exact .inl h
  ·rw [getD_at hj] at h
   exact .inr ⟨_, List.getElem_mem hj, (hasK_iff _ _).1 h⟩
theorem Good.se {W : Wo} (g : Good W) {i : Nat} (hi : i < W.ses.length) : GoodSe (W.se i) := g.ses i hi
theorem GoodSe.setS {s : Se} (g : GoodSe s) : Sorted s.set := ((pairs_iff _ _ _).1 g.set).2.1
theorem GoodSe.preS {s : Se} (g : GoodSe s) : Sorted s.pre := ((pairs_iff _ _ _).1 g.pre).2.1
theorem GoodSe.wriS {s : Se} (g : GoodSe s) : Sorted s.wri := ((pairs_iff _ _ _).1 g.wri).2.1
theorem Good.rowsS {W : Wo} (g : Good W) : Sorted W.rows := ((pairs_iff _ _ _).1 g.rows).2.1
/-- a session's change -/
theorem Good.put {W : Wo} (g : Good W) {i : Nat} (hi : i < W.ses.length) {s : Se} (gs : GoodSe s) (hh : ∀ k, hasK s.wri k = true → heldB W.ses i k = false) (hc : card (keysW (W.put i s)) ≤ 100) : Good (W.put i s) := by
 refine ⟨g.rows, by rw [put_length]; exact g.few, fun j hj => ?_, fun j j' hj hj' hne k hk => ?_, hc⟩
 ·rw [put_length] at hj
  show GoodSe ((W.put i s).se j)
  rw [se_put W hi]
  split
  ·exact gs
  ·exact g.ses j hj
 ·rw [put_length] at hj hj'
  have e1 : (W.put i s).ses.getD j Se.new = (W.put i s).se j := rfl
  have e2 : (W.put i s).ses.getD j' Se.new = (W.put i s).se j' := rfl
  rw [e1, se_put W hi] at hk
  rw [e2, se_put W hi]
  by_cases h1 : j = i
  ·rw [if_pos h1] at hk
   rw [if_neg (by omega)]
   have h2 := hh k hk
   cases h3 : hasK (W.se j').wri k with
   | false => rfl
   | true =>
    have := (held_iff W.ses i k).2 ⟨j', hj', by omega, h3⟩
    rw [this] at h2; cases h2
  ·rw [if_neg h1] at hk
   by_cases h2 : j' = i
   ·rw [if_pos h2]
    cases h3 : hasK s.wri k with
    | false => rfl
    | true =>
     have h4 := hh k h3
     have := (held_iff W.ses i k).2 ⟨j, hj, h1, hk⟩
     rw [this] at h4; cases h4
   ·rw [if_neg h2]
    exact g.apart j j' hj hj' hne k hk
/-- what a prepared text says is a statement that may be -/
theorem prep_ok {t : ByteArray} {k : ByteArray} (h : checkE ⟨11, k, t⟩ = 0) : checkE (readS t) = 0 ∧ ((readS t).k = 6 ∨ (readS t).k = 7 ∨ (readS t).k = 10) := by
 have hp : prepB t = true := by
  unfold checkE at h
  rw [if_pos rfl] at h
  cases hn : nameB k <;> cases hp : prepB t <;> simp [hn, hp] at h
  rfl
 rw [prep_read] at hp
 simp only [Bool.and_eq_true, Bool.or_eq_true, decide_eq_true_eq] at hp
 obtain ⟨h0, h1⟩ := hp
 refine ⟨?_, by omega⟩
 unfold readS
 rw [if_pos h0]
 unfold readE at h0
 split at h0
 ·simp at h0
 split at h0
 ·simp at h0
 split at h0
 ·simp at h0
 exact h0
theorem atP_mem' {l : List Pr} {k v : ByteArray} (h : atP l k = some v) : ⟨k, v⟩ ∈ l := by
 unfold atP at h
 obtain ⟨p, hp, rfl⟩ := Option.map_eq_some_iff.1 h
 have h1 := List.mem_of_find?_eq_some hp
 have h2 : p.k = k := by simpa using List.find?_some hp
 rw [← h2]
 exact h1
theorem GoodSe.preOk {s : Se} (g : GoodSe s) {k t : ByteArray} (h : atP s.pre k = some t) : checkE (readS t) = 0 ∧ ((readS t).k = 6 ∨ (readS t).k = 7 ∨ (readS t).k = 10) :=
 prep_ok (((pairs_iff _ _ _).1 g.pre).1 _ (atP_mem' h))
/-- a statement changes no session but its own, and makes none -/
def Mine (W : Wo) (i : Nat) (V : Wo) : Prop := V.ses.length = W.ses.length ∧ ∀ j, j ≠ i → V.se j = W.se j
theorem Mine.refl (W : Wo) (i : Nat) : Mine W i W := ⟨rfl, fun _ _ => rfl⟩
theorem Mine.put_ {W : Wo} {i : Nat} (r : List Pr) (s : Se) : Mine W i ⟨r, W.ses.set i s⟩ := by
 refine ⟨List.length_set, fun j hj => ?_⟩
 unfold Wo.se
 rw [List.getD_eq_getElem?_getD, List.getElem?_set, if_neg (fun e => hj e.symm), List.getD_eq_getElem?_getD]
theorem did1_mine (W : Wo) (i : Nat) (x : St) : Mine W i (did1 W i x).1 := by
 unfold did1
 split
 ·exact .refl W i
 split
 ·unfold transW
  split
  ·exact .put_ _ _
  split
  ·exact .refl W i
  split
  ·exact .refl W i
  ·unfold endW
   split
   ·exact .put_ _ _
   ·exact .put_ _ _
 split
 ·unfold resetW
  split
  ·exact .put_ _ _
  ·exact .refl W i
 split
 ·exact .refl W i
 split
 ·exact .refl W i
 split
 ·unfold setW
  split
  ·exact .refl W i
  ·exact .put_ _ _
 split
 ·unfold putW
  split
  ·exact .refl W i
  split
  ·exact .refl W i
  split
  ·exact .put_ _ _
  ·exact .refl W i
 split
 ·unfold prepW
  split
  ·exact .refl W i
  ·exact .put_ _ _
 ·exact .refl W i
theorem did_mine (W : Wo) (i : Nat) (x : St) : Mine W i (did W i x).1 := by
 unfold did
 split
 ·unfold execW
  split
  ·exact .refl W i
  ·split
   ·exact .refl W i
   ·exact did1_mine W i _
 ·exact did1_mine W i x
theorem doW_mine (W : Wo) (i : Nat) (x : St) : Mine W i (doW W i x).1 := by
 have h := did_mine W i x
 have h2 : Mine (did W i x).1 i ((did W i x).1.put i (failSe ((did W i x).1.se i) (did W i x).2)) := .put_ _ _
 exact ⟨h2.1.trans h.1, fun j hj => (h2.2 j hj).trans (h.2 j hj)⟩
/-- what Do gives -/
def doE (W : Wo) (i : Int) (x : St) : Int := if goodW W = true then (if 0 ≤ i ∧ i < W.ses.length then checkE x else 6) else 5
def emptyW : Wo := ⟨[], []⟩
def An.no : An := ⟨0, ⟨#[]⟩, 0⟩
def doR (W : Wo) (i : Int) (x : St) : Wo × An := if doE W i x = 0 then doW W i.toNat x else (emptyW, An.no)
end Go.Proofs.YtjbnfigpflambabDoor
/- Slices of pairs in memory: what reads as a list of pairs; copies of such slices; the laws' comparison. -/
namespace Go.Proofs.YtjbnfigpflambabDoor
open Go.ChangeShapes Go.WideShapes Go.ChangeAt Go.RowKit
def cellsP (l : List Pr) : List Value := l.flatMap fun p => [.string p.k, .string p.v]
theorem cellsP_length (l : List Pr) : (cellsP l).length = l.length * 2 := by
 induction l with
 | nil => rfl
 | cons p l ih => simp only [cellsP, List.flatMap_cons, List.length_append, List.length_cons, List.length_nil] at ih ⊢; omega
theorem cellsP_at (l : List Pr) (i : Nat) (h : i < l.length) : (cellsP l)[i * 2]? = some (.string l[i].k) ∧ (cellsP l)[i * 2 + 1]? = some (.string l[i].v) := by
 induction l generalizing i with
 | nil => simp at h
 | cons p l ih =>
  have e : cellsP (p :: l) = .string p.k :: .string p.v :: cellsP l := rfl
  rw [e]
  rcases i with _ | i
  ·exact ⟨rfl, rfl⟩
  ·have := ih i (by simpa using h)
   have e1 : (i + 1) * 2 = i * 2 + 2 := by omega
   rw [e1]
   simpa using this
theorem cellsP_one (l : List Pr) : ∀ u ∈ cellsP l, u.oneCell' = true := by
 intro u hu
 unfold cellsP at hu
 obtain ⟨p, _, hp⟩ := List.mem_flatMap.1 hu
 simp only [List.mem_cons, List.not_mem_nil, or_false] at hp
 rcases hp with rfl | rfl <;> rfl
/-- pairs whose bytes the model can hold -/
def Fits (l : List Pr) : Prop := l.length ≤ 4398046510976 ∧ ∀ p ∈ l, p.k.size ≤ maxLen ∧ p.v.size ≤ maxLen
/-- a value that reads as a list of pairs, below a block -/
def PL (w : World) (B : Nat) (v : Value) (l : List Pr) : Prop := ∃ A c, v = .slice A l.length c ∧ l.length ≤ c ∧ Reads w B 2 A l.length (cellsP l) ∧ Fits l
theorem PL.below {w w' : World} {B : Nat} {v : Value} {l : List Pr} (h : PL w B v l) (hb : Below B w w') : PL w' B v l := by
 obtain ⟨A, c, h1, h2, h3, h4⟩ := h
 exact ⟨A, c, h1, h2, h3.below hb, h4⟩
theorem PL.more {w : World} {B B' : Nat} {v : Value} {l : List Pr} (h : PL w B v l) (hB : B ≤ B') : PL w B' v l := by
 obtain ⟨A, c, h1, h2, h3, h4⟩ := h
 exact ⟨A, c, h1, h2, h3.more hB, h4⟩
theorem PL.keep {w w' : World} {v : Value} {l : List Pr} (h : PL w w.heap.size v l) (hb : Below w.heap.size w w') : PL w' w'.heap.size v l := (h.below hb).more hb.size
theorem PL.alloc {w : World} {B : Nat} {v : Value} {l : List Pr} (h : PL w B v l) (hB : B ≤ w.heap.size) (o : Obj) : PL (w.alloc o) B v l := h.below ((Below.refl _ _).alloc hB o)
theorem PL.drewN {w : World} {B : Nat} {v : Value} {l : List Pr} (h : PL w B v l) (n : Nat) : PL (w.drewN n) B v l := h.below (below_drewN (Below.refl _ _) n)
theorem PL.fits {w : World} {B : Nat} {v : Value} {l : List Pr} (h : PL w B v l) : Fits l := by
 obtain ⟨_, _, _, _, _, h⟩ := h
 exact h
theorem PL.form {w : World} {B : Nat} {v : Value} {l : List Pr} (h : PL w B v l) : ∃ A c, v = .slice A l.length c := by
 obtain ⟨A, c, h, _⟩ := h
 exact ⟨A, c, h⟩
theorem PL.nil_ (w : World) (B : Nat) : PL w B (.slice none 0 0) [] := ⟨none, 0, rfl, Nat.le_refl _, .none_, by simp, by simp⟩
theorem pair_info : (Tryd.prog.info? 66).map (fun i => (i.zero, i.size, i.bytes)) = some (some (.agg #[.string ⟨#[]⟩, .string ⟨#[]⟩]), 2, 32) := by kernel_rfl
/-- what the call made and owns reads as pairs -/
theorem PL.of_own {w : World} {base : Nat} {v : Value} {l : List Pr} (h : w.ownsRow base 66 2 v l.length (cellsP l)) (hf : Fits l) : PL w w.heap.size v l := by
 rcases h.2 with ⟨rfl, h0⟩ | ⟨g, cap, cur, hv, _, _, hn, _⟩
 ·have : l = [] := List.eq_nil_of_length_eq_zero h0
  subst this
  exact .nil_ _ _
 ·subst hv
  exact ⟨_, cap, rfl, hn, Reads.of_own h, hf⟩
theorem own_empty (w : World) (t : TypeId) (B : Nat) (hB : B ≤ w.heap.size) : (w.alloc (.cells #[] t)).ownsRow B t 2 (.slice (some ⟨w.heap.size, 0, none⟩) 0 0) 0 [] :=
 World.ownsRow_made w #[] 0 hB (Nat.zero_le _) rfl
set_option maxHeartbeats 1000000 in
/-- slices.Clone -/
theorem clone_any (w : World) (v : Value) (l : List Pr) (h : PL w w.heap.size v l) :
  Calls Tryd.prog 70 #[v] w fun e w' => ∃ v', e = .returned v' ∧ w'.ownsRow w.heap.size 66 2 v' l.length (cellsP l) ∧ Below w.heap.size w w' := by
 obtain ⟨i0, hi0, hz0, hz1, hz2⟩ := info_parts pair_info
 have hnil := fun (w : World) (a : Option Addr) (n c n' c' : Nat) => Lib.run_eql_slice_nil (P := Tryd.prog) w 28 66 a n c n' c' Tryd.underlying28
 obtain ⟨A, c, rfl, hc, hr, hf⟩ := h
 rcases A with _ | ad
 ·have h0 : l.length = 0 := by
   rcases Nat.eq_zero_or_pos l.length with h | h
   ·exact h
   ·obtain ⟨ad, e, _⟩ := hr.2 h
    cases e
  have : l = [] := List.eq_nil_of_length_eq_zero h0
  subst this
  clear hr hf
  go_enter Tryd.func70, Tryd.ntmps70
  go_wp2_with fail
  go_ret
  exact ⟨_, rfl, World.ownsRow_nil _ _ _ _, Below.refl _ _⟩
 ·have HR := Lib.hid hr
  have HF := Lib.hid hf
  clear hr hf
  go_enter Tryd.func70, Tryd.ntmps70
  go_wp2_with (at_builtin; refine wpList_append_any _ rfl (.tmp 5) (.tmp 6) 28 rfl w.heap.size 66 i0 _ 2 32 Tryd.underlying28 hi0 hz0 hz1 hz2 rfl (by decide) (.slice (some ⟨w.heap.size, 0, none⟩) 0 0) 0 [] rfl (own_empty w _ _ (Nat.le_refl _)) w.heap.size (some ad) l.length c (cellsP l) rfl (HR.out.alloc (Nat.le_refl _) _) (cellsP_one l) (by have := HF.out.1; unfold maxLen; omega) (by have := HF.out.1; omega) (by simp) ?_; intro v' w1 hown hgr hat)
  have hb : Below w.heap.size w w1 := (boxed w _).grown hgr (by simp) (fun k hk => Nat.le_of_eq (by simpa [Value.ownBlock] using hk))
  have HO := Lib.hid hown
  have HB := Lib.hid hb
  clear hown hgr hat hb
  go_wp2_with fail
  go_ret
  exact ⟨_, rfl, by simpa using HO.out, HB.out⟩
/-- a pair's two cells -/
theorem pair_at {w : World} {B : Nat} {A : Option Addr} {l : List Pr} (h : Reads w B 2 A l.length (cellsP l)) {k : Nat} (hk : k < l.length) :
  ∃ ad, A = some ad ∧ ad.block < B ∧ w.cell? (ad.add (k * 2)) = some (.string l[k].k) ∧ w.cell? ⟨(ad.add (k * 2)).block, (ad.add (k * 2)).off + 1, none⟩ = some (.string l[k].v) := by
 obtain ⟨ad, hA, hB, hcell⟩ := h.2 (by omega)
 obtain ⟨p1, p2⟩ := cellsP_at l k hk
 exact ⟨ad, hA, hB, hcell _ _ p1, by have h := hcell _ _ p2; rw [← add_of_add] at h; exact h⟩
theorem same_pairs (w : World) (B B' : Nat) (u v : Value) (l : List Pr) (hu : PL w B u l) (hv : PL w B' v l) :
  Calls Tryd.prog 53 #[u, v] w fun e w' => e = .returned (.bool true) ∧ ∃ n, w' = w.drewN n := by
 obtain ⟨A, c, rfl, hc, hr, hf⟩ := hu
 obtain ⟨A', c', rfl, hc', hr', _⟩ := hv
 have hl : l.length ≤ 4398046510976 := hf.1
 have HR := Lib.hid hr
 have HR' := Lib.hid hr'
 clear hr hr' hf hc hc'
 go_enter Tryd.func53, Tryd.ntmps53
 go_wp2_with fail
 go_loopw [5] (fun i wx => ∃ k n : Nat, k ≤ l.length ∧ i = .int .i64 k ∧ wx = w.drewN n) (fun i _ => l.length - (intOf i).toNat)
 case atStart => exact ⟨0, 0, Nat.zero_le _, rfl, rfl⟩
 case round =>
  obtain ⟨k, n, hk, rfl, rfl⟩ := hrel
  by_cases hlt : k < l.length
  ·obtain ⟨ad, hA, -, c1, c2⟩ := pair_at HR.out hlt
   obtain ⟨ad', hA', -, c3, c4⟩ := pair_at HR'.out hlt
   subst hA hA'
   obtain ⟨x, hx⟩ : ∃ x, l[k].k = x := ⟨_, rfl⟩
   obtain ⟨y, hy⟩ : ∃ y, l[k].v = y := ⟨_, rfl⟩
   rw [hx] at c1 c3
   rw [hy] at c2 c4
   clear hx hy
   have g1 : (k : Int) < (l.length : Int) := by omega
   have g2 : (0 : Int) ≤ (k : Int) := by omega
   go_wp2_with fail
   go_quiet (fail)
   go_wp2_with fail
   go_roundw
   case rel => exact ⟨k + 1, _, by omega, by go_num, rfl⟩
   case measure => simp [intOf]; omega
  ·obtain rfl : k = l.length := by omega
   go_wp2_with fail
   go_ret
   exact ⟨rfl, _, rfl⟩
/-! sessions and worlds -/
/-- a session's five cells, at an address -/
structure SeAt (w : World) (B : Nat) (a : Addr) (s : Se) : Prop where
 st : w.cell? a = some (.int .i64 s.st)
 set : ∃ v, w.cell? ⟨a.block, a.off + 1, none⟩ = some v ∧ PL w B v s.set
 pre : ∃ v, w.cell? ⟨a.block, a.off + 2, none⟩ = some v ∧ PL w B v s.pre
 sav : ∃ v, w.cell? ⟨a.block, a.off + 3, none⟩ = some v ∧ PL w B v s.sav
 wri : ∃ v, w.cell? ⟨a.block, a.off + 4, none⟩ = some v ∧ PL w B v s.wri
 i64 : -9223372036854775808 ≤ s.st ∧ s.st ≤ 9223372036854775807
/-- a value that reads as a list of sessions -/
def SL (w : World) (B : Nat) (v : Value) (ss : List Se) : Prop :=
 ∃ A c, v = .slice A ss.length c ∧ ss.length ≤ c ∧ ss.length ≤ 1353245080300 ∧ (0 < ss.length → ∃ ad, A = some ad ∧ ad.block < B ∧ ∀ i (h : i < ss.length), SeAt w B (ad.add (i * 5)) ss[i])
structure WL (w : World) (B : Nat) (r s : Value) (W : Wo) : Prop where
 rows : PL w B r W.rows
 ses : SL w B s W.ses
section
variable {w w' : World} {B B' : Nat}
theorem SeAt.below {a : Addr} {s : Se} (h : SeAt w B a s) (ha : a.block < B) (hb : Below B w w') : SeAt w' B a s := by
 obtain ⟨h0, ⟨v1, c1, p1⟩, ⟨v2, c2, p2⟩, ⟨v3, c3, p3⟩, ⟨v4, c4, p4⟩, h5⟩ := h
 exact ⟨(hb.cell ha).trans h0, ⟨v1, (hb.cell (by exact ha)).trans c1, p1.below hb⟩, ⟨v2, (hb.cell (by exact ha)).trans c2, p2.below hb⟩, ⟨v3, (hb.cell (by exact ha)).trans c3, p3.below hb⟩, ⟨v4, (hb.cell (by exact ha)).trans c4, p4.below hb⟩, h5⟩
theorem SeAt.more {a : Addr} {s : Se} (h : SeAt w B a s) (hB : B ≤ B') : SeAt w B' a s := by
 obtain ⟨h0, ⟨v1, c1, p1⟩, ⟨v2, c2, p2⟩, ⟨v3, c3, p3⟩, ⟨v4, c4, p4⟩, h5⟩ := h
 exact ⟨h0, ⟨v1, c1, p1.more hB⟩, ⟨v2, c2, p2.more hB⟩, ⟨v3, c3, p3.more hB⟩, ⟨v4, c4, p4.more hB⟩, h5⟩
theorem SL.below {v : Value} {ss : List Se} (h : SL w B v ss) (hb : Below B w w') : SL w' B v ss := by
 obtain ⟨A, c, h1, h2, h3, h4⟩ := h
 refine ⟨A, c, h1, h2, h3, fun hn => ?_⟩
 obtain ⟨ad, e, hB, hs⟩ := h4 hn
 exact ⟨ad, e, hB, fun i hi => (hs i hi).below (by rw [block_of_add]; exact hB) hb⟩
theorem SL.more {v : Value} {ss : List Se} (h : SL w B v ss) (hB : B ≤ B') : SL w B' v ss := by
 obtain ⟨A, c, h1, h2, h3, h4⟩ := h
 refine ⟨A, c, h1, h2, h3, fun hn => ?_⟩
 obtain ⟨ad, e, hb, hs⟩ := h4 hn
 exact ⟨ad, e, Nat.lt_of_lt_of_le hb hB, fun i hi => (hs i hi).more hB⟩
theorem WL.below {r s : Value} {W : Wo} (h : WL w B r s W) (hb : Below B w w') : WL w' B r s W := ⟨h.rows.below hb, h.ses.below hb⟩
theorem WL.more {r s : Value} {W : Wo} (h : WL w B r s W) (hB : B ≤ B') : WL w B' r s W := ⟨h.rows.more hB, h.ses.more hB⟩
theorem WL.keep {r s : Value} {W : Wo} (h : WL w w.heap.size r s W) (hb : Below w.heap.size w w') : WL w' w'.heap.size r s W := (h.below hb).more hb.size
end
set_option maxHeartbeats 4000000 in
set_option maxRecDepth 100000 in
theorem same_world (w : World) (r s r' s' : Value) (W : Wo) (h : WL w w.heap.size r s W) (h' : WL w w.heap.size r' s' W) :
  Calls Tryd.prog 25 #[.agg #[r, s], .agg #[r', s']] w fun e w' => e = .returned (.bool true) ∧ Below w.heap.size w w' := by
 have HW := Lib.hid h
 have HW' := Lib.hid h'
 obtain ⟨A, c, rfl, hc, hn, hs⟩ := h.ses
 obtain ⟨A', c', rfl, hc', hn', hs'⟩ := h'.ses
 have HS := Lib.hid hs
 have HS' := Lib.hid hs'
 clear h h' hs hs' hc hc'
 obtain ⟨n, hN⟩ : ∃ n, W.ses.length = n := ⟨_, rfl⟩
 rw [hN] at hn hn' ⊢
 have HN := Lib.hid hN
 clear hN
 go_enter Tryd.func25, Tryd.ntmps25
 go_wp2_with fail
 refine (same_pairs _ _ _ _ _ W.rows ((HW.out.rows.below (boxed2 _ _ _))) ((HW'.out.rows.below (boxed2 _ _ _)))).mono ?_
 rintro e w1 ⟨rfl, n1, rfl⟩
 go_wp2_with fail
 go_loopw [5] (fun i wx => ∃ k : Nat, k ≤ n ∧ i = .int .i64 k ∧ Below w.heap.size w wx ∧ wx.cell? ⟨w.heap.size, 1, none⟩ = some (.slice A n c) ∧ wx.cell? ⟨w.heap.size + 1, 1, none⟩ = some (.slice A' n c') ∧ w.heap.size + 2 ≤ wx.heap.size) (fun i _ => n - (intOf i).toNat)
 case atStart => exact ⟨0, Nat.zero_le _, rfl, below_drewN (boxed2 _ _ _) _, by go_simp, by go_simp, by simp [World.drewN]⟩
 case round =>
  obtain ⟨k, hk, rfl, hb, hx, hy, hz⟩ := hrel
  by_cases hlt : k < n
  ·have hlt' : k < W.ses.length := by rw [HN.out]; exact hlt
   obtain ⟨ad, hA, hB, hse⟩ := HS.out (by omega)
   obtain ⟨ad', hA', hB', hse'⟩ := HS'.out (by omega)
   subst hA hA'
   have q := (hse k hlt').below (by rw [block_of_add]; exact hB) hb
   have q' := (hse' k hlt').below (by rw [block_of_add]; exact hB') hb
   obtain ⟨t, ht⟩ : ∃ t, W.ses[k] = t := ⟨_, rfl⟩
   rw [ht] at q q'
   obtain ⟨c0, ⟨v1, c1, p1⟩, ⟨v2, c2, p2⟩, ⟨v3, c3, p3⟩, ⟨v4, c4, p4⟩, i1, i2⟩ := q
   obtain ⟨d0, ⟨u1, d1, r1⟩, ⟨u2, d2, r2⟩, ⟨u3, d3, r3⟩, ⟨u4, d4, r4⟩, -, -⟩ := q'
   obtain ⟨_, _, rfl⟩ := p1.form
   obtain ⟨_, _, rfl⟩ := p2.form
   obtain ⟨_, _, rfl⟩ := p3.form
   obtain ⟨_, _, rfl⟩ := p4.form
   obtain ⟨_, _, rfl⟩ := r1.form
   obtain ⟨_, _, rfl⟩ := r2.form
   obtain ⟨_, _, rfl⟩ := r3.form
   obtain ⟨_, _, rfl⟩ := r4.form
   have P1 := Lib.hid (And.intro p1 r1)
   have P2 := Lib.hid (And.intro p2 r2)
   have P3 := Lib.hid (And.intro p3 r3)
   have P4 := Lib.hid (And.intro p4 r4)
   have HB := Lib.hid hb
   have g1 : (k : Int) < (n : Int) := by omega
   have g2 : (0 : Int) ≤ (k : Int) := by omega
   have l1 : w.heap.size < wr.heap.size := by omega
   have l2 : w.heap.size + 1 < wr.heap.size := by omega
   have l3 : (ad.add (k * 5)).block < wr.heap.size := World.block_lt_of_cell? wr _ c0
   have l4 : (ad'.add (k * 5)).block < wr.heap.size := World.block_lt_of_cell? wr _ d0
   have l5 : w.heap.size ≤ wr.heap.size := by omega
   have l6 : ∀ o : Obj, w.heap.size ≤ (wr.alloc o).heap.size := fun o => by simp; omega
   have L6 := Lib.hid l6
   clear p1 p2 p3 p4 r1 r2 r3 r4 ht hse hse' hb hB hB' hlt' l6
   go_wp2_with fail
   refine (same_pairs _ _ _ _ _ _ ((P1.out.1.alloc l5 _).alloc (L6.out _) _) ((P1.out.2.alloc l5 _).alloc (L6.out _) _)).mono ?_
   rintro e w1 ⟨rfl, q1, rfl⟩
   go_wp2_with fail
   refine (same_pairs _ _ _ _ _ _ (((P2.out.1.alloc l5 _).alloc (L6.out _) _).drewN _) (((P2.out.2.alloc l5 _).alloc (L6.out _) _).drewN _)).mono ?_
   rintro e w1 ⟨rfl, q2, rfl⟩
   go_wp2_with fail
   refine (same_pairs _ _ _ _ _ _ (((P3.out.1.alloc l5 _).alloc (L6.out _) _).drewN _) (((P3.out.2.alloc l5 _).alloc (L6.out _) _).drewN _)).mono ?_
   rintro e w1 ⟨rfl, q3, rfl⟩
   go_wp2_with fail
   refine (same_pairs _ _ _ _ _ _ (((P4.out.1.alloc l5 _).alloc (L6.out _) _).drewN _) (((P4.out.2.alloc l5 _).alloc (L6.out _) _).drewN _)).mono ?_
   rintro e w1 ⟨rfl, q4, rfl⟩
   go_wp2_with fail
   go_roundw
   case rel =>
    refine ⟨k + 1, by omega, by go_num, below_drewN ((HB.out.alloc l5 _).alloc (L6.out _) _) _, ?_, ?_, ?_⟩
    ·go_simp
    ·go_simp
    ·simp [World.drewN]; omega
   case measure => simp [intOf]; omega
  ·obtain rfl : k = n := by omega
   have HB := Lib.hid hb
   clear hb
   go_wp2_with fail
   go_ret
   exact ⟨rfl, HB.out⟩
end Go.Proofs.YtjbnfigpflambabDoor
/- The reference's at and isHeld. -/
namespace Go.Proofs.YtjbnfigpflambabDoor
open Go.ChangeShapes Go.WideShapes Go.ChangeAt Go.RowKit
theorem ref_str_no {a b : ByteArray} (h : ¬ a = b) : (a.toList == b.toList) = false := by
 cases hh : (a.toList == b.toList) with
 | false => rfl
 | true => exact absurd (str_inj (by simpa using hh)) h
theorem hasK_at {l : List Pr} {key : ByteArray} {k : Nat} (hk : k < l.length) (h : l[k].k = key) : hasK l key = true := by
 unfold hasK
 exact List.any_eq_true.2 ⟨l[k], List.getElem_mem _, by simpa using h⟩
theorem hasK_no {l : List Pr} {key : ByteArray} (h : ∀ j (hj : j < l.length), ¬ l[j].k = key) : hasK l key = false := by
 unfold hasK
 refine List.any_eq_false.2 fun p hp => ?_
 obtain ⟨j, hj, rfl⟩ := List.getElem_of_mem hp
 simpa using h j hj
set_option maxHeartbeats 2000000 in
set_option maxRecDepth 100000 in
theorem refat_any (w : World) (v : Value) (l : List Pr) (key : ByteArray) (h : PL w w.heap.size v l) :
  Calls Tryd.prog 59 #[v, .string key] w fun e w' => ∃ x, e = .returned (.tuple #[.string x, .bool (hasK l key)]) ∧ Below w.heap.size w w' := by
 obtain ⟨A, c, rfl, hc, hr, hf⟩ := h
 have hl : l.length ≤ 4398046510976 := hf.1
 have HR := Lib.hid hr
 obtain ⟨n, hN⟩ : ∃ n, l.length = n := ⟨_, rfl⟩
 rw [hN] at hl ⊢
 have HN := Lib.hid hN
 clear hr hf hc hN
 go_enter Tryd.func59, Tryd.ntmps59
 go_wp2_with fail
 go_loopw [6] (fun i wx => ∃ k : Nat, k ≤ n ∧ i = .int .i64 k ∧ Below w.heap.size w wx ∧ Hid (∀ j (hj : j < l.length), j < k → ¬ l[j].k = key)) (fun i _ => n - (intOf i).toNat)
 case atStart => exact ⟨0, Nat.zero_le _, rfl, Below.refl _ _, Lib.hid (fun j _ hj => absurd hj (Nat.not_lt_zero _))⟩
 case round =>
  obtain ⟨k, hk, rfl, hb, HJ⟩ := hrel
  by_cases hlt : k < n
  ·have g1 : (k : Int) < (n : Int) := by omega
   have g2 : (0 : Int) ≤ (k : Int) := by omega
   have hkl : k < l.length := by rw [HN.out]; exact hlt
   have hr := HR.out
   obtain ⟨ad, hA, _, x0, x1⟩ := pair_at (hr.below hb) hkl
   subst hA
   obtain ⟨p, hp⟩ : ∃ p, l[k] = p := ⟨_, rfl⟩
   rw [hp] at x0 x1
   have HP := Lib.hid hp
   have HB := Lib.hid hb
   have HK := Lib.hid hkl
   obtain ⟨pk, pv⟩ := p
   simp only at x0 x1
   clear hp hr hb
   by_cases he : pk = key
   ·subst he
    have HF := Lib.hid (show hasK l pk = true from hasK_at HK.out (by rw [HP.out]))
    go_wp2_with fail
    go_ret2
    exact ⟨pv, by rw [HF.out]; rfl, HB.out⟩
   ·have n1 := ref_str_no he
    have HF := Lib.hid (show ∀ j (hj : j < l.length), j < k + 1 → ¬ l[j].k = key by
     intro j hj hjm
     rcases Nat.lt_succ_iff_lt_or_eq.1 hjm with h | h
     ·exact HJ.out j hj h
     ·subst h; rw [HP.out]; exact he)
    go_wp2_with fail
    go_roundw
    case rel => exact ⟨k + 1, by omega, by go_num, HB.out, HF⟩
    case measure => simp [intOf]; omega
  ·have g1 : (n : Int) ≤ (k : Int) := by omega
   have HF := Lib.hid (show hasK l key = false from hasK_no fun j hj => HJ.out j hj (by rw [HN.out] at hj; omega))
   have HB := Lib.hid hb
   clear hb
   go_wp2_with fail
   go_ret2
   exact ⟨⟨#[]⟩, by rw [HF.out]; rfl, HB.out⟩
theorem heldB_no {ss : List Se} {me : Nat} {key : ByteArray} (h : ∀ j, j < ss.length → j ≠ me → hasK (ss.getD j Se.new).wri key = false) : heldB ss me key = false := by
 cases e : heldB ss me key with
 | false => rfl
 | true =>
  obtain ⟨j, hj, hne, hk⟩ := (held_iff _ _ _).1 e
  rw [h j hj hne] at hk
  cases hk
theorem heldB_yes {ss : List Se} {me k : Nat} {key : ByteArray} (hk : k < ss.length) (hne : k ≠ me) (h : hasK ss[k].wri key = true) : heldB ss me key = true :=
 (held_iff _ _ _).2 ⟨k, hk, hne, by rw [getD_at hk]; exact h⟩
set_option maxHeartbeats 4000000 in
set_option maxRecDepth 100000 in
theorem refheld_any (w : World) (Ar : Option Addr) (nr cr : Nat) (s : Value) (ss : List Se) (me : Nat) (key : ByteArray) (h : SL w w.heap.size s ss) (_hme : me ≤ 1000) :
  Calls Tryd.prog 37 #[.agg #[.slice Ar nr cr, s], .int .i64 (me : Nat), .string key] w fun e w' => e = .returned (.bool (heldB ss me key)) ∧ Below w.heap.size w w' := by
 obtain ⟨A, c, rfl, hc, hn, hs⟩ := h
 have HS := Lib.hid hs
 clear hs hc
 obtain ⟨n, hN⟩ : ∃ n, ss.length = n := ⟨_, rfl⟩
 rw [hN] at hn ⊢
 have HN := Lib.hid hN
 have B0 := Lib.hid (boxed w (.cells #[.slice Ar nr cr, .slice A n c] 31))
 have X0 := Lib.hid (Blk.new w 31 #[.slice Ar nr cr, .slice A n c])
 clear hN
 obtain ⟨q, hq⟩ : ∃ q, w.heap.size = q := ⟨_, rfl⟩
 rw [hq] at X0
 go_enter Tryd.func37, Tryd.ntmps37
 go_wp2_with fail
 go_loopw [7] (fun y wx => ∃ k : Nat, k ≤ n ∧ y = .int .i64 k ∧ Hid (∀ j, j < k → j ≠ me → hasK (ss.getD j Se.new).wri key = false) ∧ Below w.heap.size w wx ∧ Blk wx q 31 #[.slice Ar nr cr, .slice A n c]) (fun y _ => n - (intOf y).toNat)
 case atStart => exact ⟨0, Nat.zero_le _, rfl, Lib.hid (fun j hj => absurd hj (Nat.not_lt_zero _)), B0.out, X0.out⟩
 case round =>
  obtain ⟨k, hk, rfl, HG, hb, hx⟩ := hrel
  have f1 := hx.cell_ 1 _ rfl
  have HX := Lib.hid hx
  by_cases hlt : k < n
  ·have hkl : k < ss.length := by rw [HN.out]; exact hlt
   obtain ⟨ad, hA, hB, hse⟩ := HS.out (by rw [HN.out]; omega)
   subst hA
   have y := (hse k hkl).below (by rw [block_of_add]; exact hB) hb
   obtain ⟨t, ht⟩ : ∃ t, ss[k] = t := ⟨_, rfl⟩
   rw [ht] at y
   obtain ⟨x0, -, -, -, ⟨v4, x4, p4⟩, -, -⟩ := y
   obtain ⟨A4, z4, rfl⟩ := p4.form
   have P4 := Lib.hid (p4.more hb.size)
   have HT := Lib.hid ht
   have HB := Lib.hid hb
   have HK := Lib.hid hkl
   have g1 : (k : Int) < (n : Int) := by omega
   have g2 : (0 : Int) ≤ (k : Int) := by omega
   clear p4 ht hse hb hB hx
   go_wp2_with fail
   refine (refat_any _ _ t.wri key P4.out).mono ?_
   rintro e w1 ⟨xv, rfl, b1⟩
   have HB1 := Lib.hid (below_step HB.out (Nat.le_refl _) b1)
   have HX1 := Lib.hid (HX.out.keep b1)
   obtain ⟨b, hbk⟩ : ∃ b, hasK t.wri key = b := ⟨_, rfl⟩
   rw [hbk]
   have HF := Lib.hid hbk
   clear b1 x0 x4 f1 hbk
   cases b with
   | true =>
    by_cases hki : k = me
    ·have e1 : ((k : Int) != (me : Int)) = false := by simp [hki]
     have e2 : (k != me) = false := by simp [hki]
     have HG2 := Lib.hid (show ∀ j, j < k + 1 → j ≠ me → hasK (ss.getD j Se.new).wri key = false from fun j hj hne => HG.out j (by omega) hne)
     clear hki
     go_wp2_with fail
     go_roundw
     case rel => exact ⟨k + 1, by omega, by go_num, HG2, HB1.out, HX1.out⟩
     case measure => simp [intOf]; omega
    ·have e1 : ((k : Int) != (me : Int)) = true := by simp; omega
     have e2 : (k != me) = true := by simp [hki]
     have HR := Lib.hid (heldB_yes (key := key) HK.out hki (by rw [HT.out]; exact HF.out))
     clear hki
     go_wp2_with fail
     go_ret
     exact ⟨by rw [HR.out]; rfl, HB1.out⟩
   | false =>
    have HG2 := Lib.hid (show ∀ j, j < k + 1 → j ≠ me → hasK (ss.getD j Se.new).wri key = false from fun j hj hne => by
     rcases Nat.lt_succ_iff_lt_or_eq.1 hj with hj | rfl
     ·exact HG.out j hj hne
     ·rw [getD_at HK.out, HT.out]
      exact HF.out)
    go_wp2_with fail
    go_roundw
    case rel => exact ⟨k + 1, by omega, by go_num, HG2, HB1.out, HX1.out⟩
    case measure => simp [intOf]; omega
  ·have g1 : (n : Int) ≤ (k : Int) := by omega
   have HR := Lib.hid (heldB_no (ss := ss) (me := me) (key := key) (fun j hj hne => HG.out j (by rw [HN.out] at hj; omega) hne))
   have HB := Lib.hid hb
   clear hb hx
   go_wp2_with fail
   go_ret
   exact ⟨by rw [HR.out]; rfl, HB.out⟩
end Go.Proofs.YtjbnfigpflambabDoor
