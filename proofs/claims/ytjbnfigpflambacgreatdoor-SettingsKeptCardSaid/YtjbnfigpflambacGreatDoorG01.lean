/- Plain laws, no program: worlds of a server, which are valid, what a statement does; a valid world stays valid. Plain laws, no program: messages and the texts of answers. -/
import Derived.Test.YtjbnfigpflambacGreatDoorG00
/- Plain laws, no program: worlds of a server, which are valid, what a statement does; a valid world stays valid. -/
namespace Go.Proofs.YtjbnfigpflambacGreatDoor
open Go
def hasN (l : List ByteArray) (k : ByteArray) : Bool := l.any fun x => decide (x = k)
theorem hasN_iff (l : List ByteArray) (k : ByteArray) : hasN l k = true ↔ k ∈ l := by
 unfold hasN
 rw [List.any_eq_true]
 constructor
 ·rintro ⟨x, hx, h⟩
  have := of_decide_eq_true h
  subst this
  exact hx
 ·intro h
  exact ⟨k, h, by simp⟩
def dd : List ByteArray → List ByteArray
 | [] => []
 | k :: l => if hasN (dd l) k = true then dd l else k :: dd l
theorem mem_dd (x : ByteArray) (l : List ByteArray) : x ∈ dd l ↔ x ∈ l := by
 induction l with
 | nil => simp [dd]
 | cons k l ih =>
  unfold dd
  split
  ·rename_i h
   rw [ih, List.mem_cons]
   constructor
   ·exact .inr
   ·rintro (rfl | h')
    ·exact ih.1 ((hasN_iff _ _).1 h)
    ·exact h'
  ·rw [List.mem_cons, List.mem_cons, ih]
theorem nodup_dd (l : List ByteArray) : (dd l).Nodup := by
 induction l with
 | nil => simp [dd]
 | cons k l ih =>
  unfold dd
  split
  ·exact ih
  ·rename_i h
   exact List.nodup_cons.2 ⟨fun h' => h ((hasN_iff _ _).2 h'), ih⟩
def card (l : List ByteArray) : Nat := (dd l).length
theorem card_mono {l m : List ByteArray} (h : ∀ x, x ∈ l → x ∈ m) : card l ≤ card m :=
 (nodup_dd l).length_le_of_subset fun x hx => (mem_dd x m).2 (h x ((mem_dd x l).1 hx))
theorem card_congr {l m : List ByteArray} (h : ∀ x, x ∈ l ↔ x ∈ m) : card l = card m :=
 Nat.le_antisymm (card_mono fun x hx => (h x).1 hx) (card_mono fun x hx => (h x).2 hx)
theorem dd_nodup {l : List ByteArray} (h : l.Nodup) : dd l = l := by
 induction l with
 | nil => rfl
 | cons k l ih =>
  obtain ⟨h1, h2⟩ := List.nodup_cons.1 h
  unfold dd
  rw [ih h2, if_neg (fun h' => h1 ((hasN_iff _ _).1 h'))]
theorem card_nodup {l : List ByteArray} (h : l.Nodup) : card l = l.length := by unfold card; rw [dd_nodup h]
theorem card_cons (k : ByteArray) (l : List ByteArray) : card (k :: l) = if hasN l k = true then card l else card l + 1 := by
 unfold card
 rw [dd]
 have e : hasN (dd l) k = hasN l k := by rw [Bool.eq_iff_iff, hasN_iff, hasN_iff]; exact mem_dd k l
 rw [e]
 split <;> rfl
structure Se where
 st : Int
 set : List Pr
 pre : List Pr
 sav : List Pr
 wri : List Pr
def Se.new : Se := ⟨0, [], [], [], []⟩
structure Wo where
 rows : List Pr
 ses : List Se
structure An where
 kind : Int
 text : ByteArray
 st : Int
def Pr.no : Pr := ⟨⟨#[]⟩, ⟨#[]⟩⟩
def pairB (kind : Int) (l : List Pr) (i : Nat) : Bool :=
 decide (checkE ⟨kind, (l.getD i Pr.no).k, (l.getD i Pr.no).v⟩ = 0) && (decide (i = 0) || ltS (l.getD (i - 1) Pr.no).k (l.getD i Pr.no).k)
def pairsB (kind : Int) (most : Nat) (l : List Pr) : Bool := (List.range l.length).all (pairB kind l) && decide (l.length ≤ most)
theorem getD_at {α : Type} {l : List α} {i : Nat} (h : i < l.length) (d : α) : l.getD i d = l[i] := by
 rw [List.getD_eq_getElem?_getD, List.getElem?_eq_getElem h]; rfl
theorem sorted_of {l : List Pr} (h : ∀ i (hi : i + 1 < l.length), ltS (l[i]'(by omega)).k l[i + 1].k = true) : Sorted l := by
 refine List.pairwise_iff_getElem.2 fun i j hi hj hij => ?_
 obtain ⟨d, rfl⟩ : ∃ d, j = i + 1 + d := ⟨j - i - 1, by omega⟩
 clear hij
 induction d with
 | zero => exact h i hj
 | succ d ih => exact ltS_trans (ih (by omega)) (h (i + 1 + d) hj)
theorem pairs_iff (kind : Int) (most : Nat) (l : List Pr) : pairsB kind most l = true ↔ (∀ p ∈ l, checkE ⟨kind, p.k, p.v⟩ = 0) ∧ Sorted l ∧ l.length ≤ most := by
 unfold pairsB
 rw [Bool.and_eq_true, List.all_eq_true, decide_eq_true_eq]
 constructor
 ·rintro ⟨h, hl⟩
  have hp : ∀ i (hi : i < l.length), checkE ⟨kind, l[i].k, l[i].v⟩ = 0 ∧ (i = 0 ∨ ltS (l.getD (i - 1) Pr.no).k l[i].k = true) := by
   intro i hi
   have := h i (List.mem_range.2 hi)
   unfold pairB at this
   rw [getD_at hi] at this
   simpa using this
  refine ⟨fun p hp' => ?_, sorted_of fun i hi => ?_, hl⟩
  ·obtain ⟨i, hi, rfl⟩ := List.getElem_of_mem hp'
   exact (hp i hi).1
  ·have := (hp (i + 1) hi).2
   rw [Nat.add_sub_cancel, getD_at (by omega)] at this
   simpa using this
 ·rintro ⟨h1, h2, hl⟩
  refine ⟨fun i hi => ?_, hl⟩
  have hi := List.mem_range.1 hi
  unfold pairB
  rw [getD_at hi, h1 _ (List.getElem_mem hi)]
  rcases Nat.eq_zero_or_pos i with rfl | h0
  ·simp
  ·rw [getD_at (by omega), h2.at_lt (by omega) hi]
   simp
def seOk (s : Se) : Bool :=
 decide (0 ≤ s.st) && decide (s.st ≤ 2) && pairsB 9 6 s.set && pairsB 11 6 s.pre && pairsB 9 6 s.sav && pairsB 10 100 s.wri && !(decide (s.st = 0) && !s.sav.isEmpty) && !(decide (s.st ≠ 1) && !s.wri.isEmpty)
def heldB (ss : List Se) (i : Nat) (k : ByteArray) : Bool := (List.range ss.length).any fun j => decide (j ≠ i) && hasK (ss.getD j Se.new).wri k
def sesOk (ss : List Se) (i : Nat) : Bool := seOk (ss.getD i Se.new) && (ss.getD i Se.new).wri.all fun p => !heldB ss i p.k
def keysW (W : Wo) : List ByteArray := W.rows.map (·.k) ++ W.ses.flatMap fun s => s.wri.map (·.k)
def goodW (W : Wo) : Bool := pairsB 10 100 W.rows && decide (W.ses.length ≤ 8) && (List.range W.ses.length).all (sesOk W.ses) && decide (card (keysW W) ≤ 100)
structure GoodSe (s : Se) : Prop where
 st0 : 0 ≤ s.st
 st2 : s.st ≤ 2
 set : pairsB 9 6 s.set = true
 pre : pairsB 11 6 s.pre = true
 sav : pairsB 9 6 s.sav = true
 wri : pairsB 10 100 s.wri = true
 idle : s.st = 0 → s.sav = []
 calm : s.st ≠ 1 → s.wri = []
theorem seOk_iff (s : Se) : seOk s = true ↔ GoodSe s := by
 unfold seOk
 simp only [Bool.and_eq_true, decide_eq_true_eq, Bool.not_eq_true', Bool.and_eq_false_iff, decide_eq_false_iff_not, Bool.not_eq_false', List.isEmpty_iff]
 constructor
 ·rintro ⟨⟨⟨⟨⟨⟨⟨h1, h2⟩, h3⟩, h4⟩, h5⟩, h6⟩, h7⟩, h8⟩
  exact ⟨h1, h2, h3, h4, h5, h6, fun h => h7.resolve_left (fun h' => h' h), fun h => h8.resolve_left (fun h' => h' h)⟩
 ·intro g
  refine ⟨⟨⟨⟨⟨⟨⟨g.st0, g.st2⟩, g.set⟩, g.pre⟩, g.sav⟩, g.wri⟩, ?_⟩, ?_⟩
  ·by_cases h : s.st = 0
   ·exact .inr (g.idle h)
   ·exact .inl h
  ·by_cases h : s.st = 1
   ·exact .inl (fun h' => h' h)
   ·exact .inr (g.calm h)
theorem held_iff (ss : List Se) (i : Nat) (k : ByteArray) : heldB ss i k = true ↔ ∃ j, j < ss.length ∧ j ≠ i ∧ hasK (ss.getD j Se.new).wri k = true := by
 unfold heldB
 simp
structure Good (W : Wo) : Prop where
 rows : pairsB 10 100 W.rows = true
 few : W.ses.length ≤ 8
 ses : ∀ i, i < W.ses.length → GoodSe (W.ses.getD i Se.new)
 apart : ∀ i j, i < W.ses.length → j < W.ses.length → j ≠ i → ∀ k, hasK (W.ses.getD i Se.new).wri k = true → hasK (W.ses.getD j Se.new).wri k = false
 room : card (keysW W) ≤ 100
theorem good_iff (W : Wo) : goodW W = true ↔ Good W := by
 unfold goodW
 simp only [Bool.and_eq_true, decide_eq_true_eq, List.all_eq_true, List.mem_range]
 constructor
 ·rintro ⟨⟨⟨h1, h2⟩, h3⟩, h4⟩
  refine ⟨h1, h2, fun i hi => ?_, fun i j hi hj hij k hk => ?_, h4⟩
  ·have := h3 i hi
   unfold sesOk at this
   rw [Bool.and_eq_true] at this
   exact (seOk_iff _).1 this.1
  ·have := h3 i hi
   unfold sesOk at this
   rw [Bool.and_eq_true, List.all_eq_true] at this
   obtain ⟨p, hp, rfl⟩ := List.mem_map.1 ((hasK_iff _ _).1 hk)
   have h5 := this.2 p hp
   cases h6 : hasK (W.ses.getD j Se.new).wri p.k with
   | false => rfl
   | true =>
    have := (held_iff W.ses i p.k).2 ⟨j, hj, hij, h6⟩
    rw [this] at h5
    cases h5
 ·intro g
  refine ⟨⟨⟨g.rows, g.few⟩, fun i hi => ?_⟩, g.room⟩
  unfold sesOk
  rw [Bool.and_eq_true, List.all_eq_true]
  refine ⟨(seOk_iff _).2 (g.ses i hi), fun p hp => ?_⟩
  cases h : heldB W.ses i p.k with
  | false => rfl
  | true =>
   obtain ⟨j, hj, hij, hk⟩ := (held_iff _ _ _).1 h
   have h1 := g.apart i j hi hj hij p.k ((hasK_iff _ _).2 (List.mem_map.2 ⟨p, hp, rfl⟩))
   rw [h1] at hk
   cases hk
def tFailed : ByteArray := ⟨#[102, 97, 105, 108, 101, 100, 32, 97, 108, 114, 101, 97, 100, 121]⟩
def tBegun : ByteArray := ⟨#[98, 101, 103, 117, 110, 32, 97, 108, 114, 101, 97, 100, 121]⟩
def tNoTx : ByteArray := ⟨#[110, 111, 32, 116, 114, 97, 110, 115, 97, 99, 116, 105, 111, 110]⟩
def tNotIn : ByteArray := ⟨#[110, 111, 116, 32, 105, 110, 32, 97, 32, 116, 114, 97, 110, 115, 97, 99, 116, 105, 111, 110]⟩
def tFull : ByteArray := ⟨#[102, 117, 108, 108]⟩
def tHeld : ByteArray := ⟨#[104, 101, 108, 100]⟩
def tNotPrep : ByteArray := ⟨#[110, 111, 116, 32, 112, 114, 101, 112, 97, 114, 101, 100]⟩
def tAsked : ByteArray := ⟨#[97, 115, 32, 97, 115, 107, 101, 100]⟩
def okA : An := ⟨1, ⟨#[]⟩, 0⟩
def noA (t : ByteArray) : An := ⟨4, t, 0⟩
def foundA : Option ByteArray → An
 | some v => ⟨2, v, 0⟩
 | none => ⟨3, ⟨#[]⟩, 0⟩
def plusAll (l : List Pr) (m : List Pr) : List Pr := m.foldl (fun l p => plusP l p.k p.v) l
def Wo.se (W : Wo) (i : Nat) : Se := W.ses.getD i Se.new
def Wo.put (W : Wo) (i : Nat) (s : Se) : Wo := ⟨W.rows, W.ses.set i s⟩
def keepP (l : List Pr) (k v : ByteArray) : Option (List Pr) := if hasK l k = false ∧ l.length = 6 then none else some (plusP l k v)
def endW (W : Wo) (i : Nat) (done : Bool) : Wo :=
 if done = true then ⟨plusAll W.rows (W.se i).wri, W.ses.set i ⟨0, (W.se i).set, (W.se i).pre, [], []⟩⟩
 else W.put i ⟨0, (W.se i).sav, (W.se i).pre, [], []⟩
def transW (W : Wo) (i : Nat) (k : Int) : Wo × An :=
 if k = 1 ∧ (W.se i).st = 0 then (W.put i ⟨1, (W.se i).set, (W.se i).pre, (W.se i).set, (W.se i).wri⟩, okA)
 else if k = 1 then (W, noA tBegun)
 else if (W.se i).st = 0 then (W, noA tNoTx)
 else (endW W i (decide (k = 2) && decide ((W.se i).st = 1)), okA)
def putW (W : Wo) (i : Nat) (k v : ByteArray) : Wo × An :=
 if heldB W.ses i k = true then (W, noA tHeld)
 else if hasK W.rows k = false ∧ hasK (W.se i).wri k = false ∧ card (keysW W) = 100 then (W, noA tFull)
 else if (W.se i).st = 1 then (W.put i ⟨(W.se i).st, (W.se i).set, (W.se i).pre, (W.se i).sav, plusP (W.se i).wri k v⟩, okA)
 else (⟨plusP W.rows k v, W.ses⟩, okA)
def setW (W : Wo) (i : Nat) (k v : ByteArray) : Wo × An :=
 match keepP (W.se i).set k v with
 | none => (W, noA tFull)
 | some l => (W.put i ⟨(W.se i).st, l, (W.se i).pre, (W.se i).sav, (W.se i).wri⟩, okA)
def prepW (W : Wo) (i : Nat) (k v : ByteArray) : Wo × An :=
 match keepP (W.se i).pre k v with
 | none => (W, noA tFull)
 | some l => (W.put i ⟨(W.se i).st, (W.se i).set, l, (W.se i).sav, (W.se i).wri⟩, okA)
def resetW (W : Wo) (i : Nat) : Wo × An :=
 if (W.se i).st = 0 then (W.put i ⟨(W.se i).st, [], [], (W.se i).sav, (W.se i).wri⟩, okA) else (W, noA tNotIn)
def getW (W : Wo) (i : Nat) (k : ByteArray) : Wo × An := (W, foundA (atP (W.se i).set k))
def readW (W : Wo) (i : Nat) (k : ByteArray) : Wo × An := (W, foundA (match atP (W.se i).wri k with | some v => some v | none => atP W.rows k))
def did1 (W : Wo) (i : Nat) (x : St) : Wo × An :=
 if (W.se i).st = 2 ∧ x.k ≠ 2 ∧ x.k ≠ 3 then (W, noA tFailed)
 else if x.k = 1 ∨ x.k = 2 ∨ x.k = 3 then transW W i x.k
 else if x.k = 4 then resetW W i
 else if x.k = 6 then getW W i x.key
 else if x.k = 7 then readW W i x.key
 else if x.k = 9 then setW W i x.key x.val
 else if x.k = 10 then putW W i x.key x.val
 else if x.k = 11 then prepW W i x.key x.val
 else (W, noA tAsked)
def execW (W : Wo) (i : Nat) (k : ByteArray) : Wo × An :=
 if (W.se i).st = 2 then (W, noA tFailed)
 else match atP (W.se i).pre k with
  | none => (W, noA tNotPrep)
  | some t => did1 W i (readS t)
def did (W : Wo) (i : Nat) (x : St) : Wo × An := if x.k = 8 then execW W i x.key else did1 W i x
def failSe (s : Se) (a : An) : Se := if a.kind = 4 ∧ s.st = 1 then ⟨2, s.set, s.pre, s.sav, []⟩ else s
def doW (W : Wo) (i : Nat) (x : St) : Wo × An :=
 ((did W i x).1.put i (failSe ((did W i x).1.se i) (did W i x).2), ⟨(did W i x).2.kind, (did W i x).2.text, (failSe ((did W i x).1.se i) (did W i x).2).st⟩)
/-! what stays valid -/
theorem se_put (W : Wo) {i : Nat} (hi : i < W.ses.length) (s : Se) (j : Nat) : (W.put i s).se j = if j = i then s else W.se j := by
 unfold Wo.put Wo.se
 rw [List.getD_eq_getElem?_getD, List.getElem?_set, List.getD_eq_getElem?_getD]
 by_cases h : i = j
 ·subst h; simp [hi]
 ·rw [if_neg h, if_neg (fun e => h e.symm)]
theorem put_length (W : Wo) (i : Nat) (s : Se) : (W.put i s).ses.length = W.ses.length := List.length_set
theorem mem_keys (W : Wo) (x : ByteArray) : x ∈ keysW W ↔ hasK W.rows x = true ∨ ∃ j, j < W.ses.length ∧ hasK (W.se j).wri x = true := by
 unfold keysW Wo.se
 rw [List.mem_append, ← hasK_iff, List.mem_flatMap]
 constructor
 ·rintro (h | ⟨s, hs, h⟩)
  ·exact .inl h
  ·obtain ⟨j, hj, rfl⟩ := List.getElem_of_mem hs
   exact .inr ⟨j, hj, by rw [getD_at hj]; exact (hasK_iff _ _).2 h⟩
 ·rintro (h | ⟨j, hj, h⟩)
  ·exact .inl h
  ·rw [getD_at hj] at h
   exact .inr ⟨_, List.getElem_mem hj, (hasK_iff _ _).1 h⟩
theorem Good.se {W : Wo} (g : Good W) {i : Nat} (hi : i < W.ses.length) : GoodSe (W.se i) := g.ses i hi
theorem GoodSe.setS {s : Se} (g : GoodSe s) : Sorted s.set := ((pairs_iff _ _ _).1 g.set).2.1
theorem GoodSe.preS {s : Se} (g : GoodSe s) : Sorted s.pre := ((pairs_iff _ _ _).1 g.pre).2.1
theorem GoodSe.wriS {s : Se} (g : GoodSe s) : Sorted s.wri := ((pairs_iff _ _ _).1 g.wri).2.1
theorem Good.rowsS {W : Wo} (g : Good W) : Sorted W.rows := ((pairs_iff _ _ _).1 g.rows).2.1
theorem pairs_nil (kind : Int) (most : Nat) : pairsB kind most [] = true := by simp [pairsB]
theorem Good.notHeld {W : Wo} (g : Good W) {i : Nat} (hi : i < W.ses.length) {k : ByteArray} (h : hasK (W.se i).wri k = true) : heldB W.ses i k = false := by
 cases e : heldB W.ses i k with
 | false => rfl
 | true =>
  obtain ⟨j, hj, hij, hk⟩ := (held_iff _ _ _).1 e
  have := g.apart i j hi hj hij k h
  rw [this] at hk
  cases hk
theorem hasK_nil (k : ByteArray) : hasK [] k = false := rfl
theorem Good.put {W : Wo} (g : Good W) {i : Nat} (hi : i < W.ses.length) {s : Se} (gs : GoodSe s) (hh : ∀ k, hasK s.wri k = true → heldB W.ses i k = false) (hc : card (keysW (W.put i s)) ≤ 100) : Good (W.put i s) := by
 refine ⟨g.rows, by rw [put_length]; exact g.few, fun j hj => ?_, fun j j' hj hj' hne k hk => ?_, hc⟩
 ·rw [put_length] at hj
  show GoodSe ((W.put i s).se j)
  rw [se_put W hi]
  split
  ·exact gs
  ·exact g.ses j hj
 ·rw [put_length] at hj hj'
  have e1 : (W.put i s).ses.getD j Se.new = (W.put i s).se j := rfl
  have e2 : (W.put i s).ses.getD j' Se.new = (W.put i s).se j' := rfl
  rw [e1, se_put W hi] at hk
  rw [e2, se_put W hi]
  by_cases h1 : j = i
  ·rw [if_pos h1] at hk
   rw [if_neg (by omega)]
   have h2 := hh k hk
   cases h3 : hasK (W.se j').wri k with
   | false => rfl
   | true =>
    have := (held_iff W.ses i k).2 ⟨j', hj', by omega, h3⟩
    rw [this] at h2; cases h2
  ·rw [if_neg h1] at hk
   by_cases h2 : j' = i
   ·rw [if_pos h2]
    cases h3 : hasK s.wri k with
    | false => rfl
    | true =>
     have h4 := hh k h3
     have := (held_iff W.ses i k).2 ⟨j, hj, h1, hk⟩
     rw [this] at h4; cases h4
   ·rw [if_neg h2]
    exact g.apart j j' hj hj' hne k hk
theorem keys_put_sub {W : Wo} {i : Nat} (hi : i < W.ses.length) {s : Se} (h : ∀ k, hasK s.wri k = true → hasK (W.se i).wri k = true) : card (keysW (W.put i s)) ≤ card (keysW W) := by
 refine card_mono fun x hx => ?_
 rcases (mem_keys _ x).1 hx with h1 | ⟨j, hj, h1⟩
 ·exact (mem_keys _ x).2 (.inl h1)
 ·rw [put_length] at hj
  rw [se_put W hi] at h1
  by_cases e : j = i
  ·rw [if_pos e] at h1
   exact (mem_keys _ x).2 (.inr ⟨i, hi, h x h1⟩)
  ·rw [if_neg e] at h1
   exact (mem_keys _ x).2 (.inr ⟨j, hj, h1⟩)
theorem Good.put_sub {W : Wo} (g : Good W) {i : Nat} (hi : i < W.ses.length) {s : Se} (gs : GoodSe s) (h : ∀ k, hasK s.wri k = true → hasK (W.se i).wri k = true) : Good (W.put i s) :=
 g.put hi gs (fun k hk => g.notHeld hi (h k hk)) (Nat.le_trans (keys_put_sub hi h) g.room)
theorem sorted_card {l : List Pr} (h : Sorted l) {m : List ByteArray} (hm : ∀ x, hasK l x = true → x ∈ m) : l.length ≤ card m := by
 have h1 : card (l.map (·.k)) = l.length := by rw [card_nodup h.nodup, List.length_map]
 rw [← h1]
 exact card_mono fun x hx => hm x ((hasK_iff _ _).2 hx)
theorem hasK_plus (l : List Pr) (k v x : ByteArray) : hasK (plusP l k v) x = (decide (x = k) || hasK l x) := by
 rw [Bool.eq_iff_iff, Bool.or_eq_true, decide_eq_true_eq, hasK_iff, hasK_iff]
 exact plus_keys l k v x
theorem checks_plus {kind : Int} {l : List Pr} (h : ∀ p ∈ l, checkE ⟨kind, p.k, p.v⟩ = 0) {k v : ByteArray} (hk : checkE ⟨kind, k, v⟩ = 0) : ∀ p ∈ plusP l k v, checkE ⟨kind, p.k, p.v⟩ = 0 := by
 intro p hp
 rcases plus_mem hp with rfl | ⟨h1, _⟩
 ·exact hk
 ·exact h p h1
theorem plusAll_spec {kind : Int} : ∀ (m l : List Pr), (∀ p ∈ l, checkE ⟨kind, p.k, p.v⟩ = 0) → (∀ p ∈ m, checkE ⟨kind, p.k, p.v⟩ = 0) → Sorted l →
  (∀ p ∈ plusAll l m, checkE ⟨kind, p.k, p.v⟩ = 0) ∧ Sorted (plusAll l m) ∧ ∀ x, hasK (plusAll l m) x = (hasK l x || hasK m x)
 | [], l, h, _, hs => ⟨h, hs, fun x => by simp [plusAll, hasK]⟩
 | q :: m, l, h, hm, hs => by
  have := plusAll_spec m (plusP l q.k q.v) (checks_plus h (hm q List.mem_cons_self)) (fun p hp => hm p (List.mem_cons_of_mem _ hp)) (plus_sorted hs q.k q.v)
  refine ⟨this.1, this.2.1, fun x => ?_⟩
  have h2 := this.2.2 x
  show hasK (plusAll (plusP l q.k q.v) m) x = _
  rw [h2, hasK_plus]
  have e : hasK (q :: m) x = (decide (x = q.k) || hasK m x) := by
   unfold hasK
   rw [List.any_cons]
   congr 1
   simp only [decide_eq_decide]
   exact ⟨Eq.symm, Eq.symm⟩
  rw [e]
  cases decide (x = q.k) <;> cases hasK l x <;> rfl
theorem did1_good {W : Wo} (g : Good W) {i : Nat} (hi : i < W.ses.length) {x : St} (hx : checkE x = 0) : Good (did1 W i x).1 := by
 have gs := g.se hi
 unfold did1
 split
 ·exact g
 split
 ·unfold transW
  split
  ·rename_i h
   have hw : (W.se i).wri = [] := gs.calm (by rw [h.2]; decide)
   exact g.put_sub hi ⟨by simp, by simp, gs.set, gs.pre, gs.set, gs.wri, (fun h => by simp at h), (fun h => absurd rfl h)⟩ fun k hk => hk
  split
  ·exact g
  split
  ·exact g
  ·rename_i h0
   unfold endW
   split
   ·have hr := (pairs_iff _ _ _).1 g.rows
    have hw := (pairs_iff _ _ _).1 gs.wri
    obtain ⟨p1, p2, p3⟩ := plusAll_spec (W.se i).wri W.rows hr.1 hw.1 hr.2.1
    have hg := g.put_sub hi (s := ⟨0, (W.se i).set, (W.se i).pre, [], []⟩) ⟨by simp, by simp, gs.set, gs.pre, pairs_nil _ _, pairs_nil _ _, fun _ => rfl, fun _ => rfl⟩ (fun k hk => by rw [hasK_nil] at hk; cases hk)
    have hsub : ∀ x, hasK (plusAll W.rows (W.se i).wri) x = true → x ∈ keysW W := by
     intro x hx
     rw [p3, Bool.or_eq_true] at hx
     rcases hx with hx | hx
     ·exact (mem_keys W x).2 (.inl hx)
     ·exact (mem_keys W x).2 (.inr ⟨i, hi, hx⟩)
    refine ⟨(pairs_iff _ _ _).2 ⟨p1, p2, Nat.le_trans (sorted_card p2 hsub) g.room⟩, hg.few, hg.ses, hg.apart, ?_⟩
    refine Nat.le_trans (card_mono fun y hy => ?_) g.room
    rcases (mem_keys _ y).1 hy with h1 | ⟨j, hj, h1⟩
    ·exact hsub y h1
    ·have h1' : hasK ((W.put i ⟨0, (W.se i).set, (W.se i).pre, [], []⟩).se j).wri y = true := h1
     rw [se_put W hi] at h1'
     have hj' : j < W.ses.length := by rw [← put_length W i ⟨0, (W.se i).set, (W.se i).pre, [], []⟩]; exact hj
     split at h1'
     ·rw [hasK_nil] at h1'; cases h1'
     ·exact (mem_keys W y).2 (.inr ⟨j, hj', h1'⟩)
   ·exact g.put_sub hi ⟨by simp, by simp, gs.sav, gs.pre, pairs_nil _ _, pairs_nil _ _, fun _ => rfl, fun _ => rfl⟩ (fun k hk => by rw [hasK_nil] at hk; cases hk)
 split
 ·unfold resetW
  split
  ·exact g.put_sub hi ⟨gs.st0, gs.st2, pairs_nil _ _, pairs_nil _ _, gs.sav, gs.wri, gs.idle, gs.calm⟩ fun k hk => hk
  ·exact g
 split
 ·exact g
 split
 ·exact g
 split
 ·rename_i hk
  unfold setW
  split
  ·exact g
  ·rename_i l hl
   unfold keepP at hl
   split at hl
   ·cases hl
   ·rename_i hn
    injection hl with hl
    subst hl
    have hp := (pairs_iff _ _ _).1 gs.set
    refine g.put_sub hi ⟨gs.st0, gs.st2, (pairs_iff _ _ _).2 ⟨checks_plus hp.1 (by rw [← hk]; exact hx), plus_sorted hp.2.1 _ _, ?_⟩, gs.pre, gs.sav, gs.wri, gs.idle, gs.calm⟩ fun k hk => hk
    rw [plus_length _ _ _ hp.2.1]
    split
    ·exact hp.2.2
    ·rename_i hh
     simp only [Bool.not_eq_true] at hh
     have := hp.2.2
     simp only [not_and] at hn
     have := hn hh
     omega
 split
 ·rename_i hk
  unfold putW
  split
  ·exact g
  rename_i hheld
  simp only [Bool.not_eq_true] at hheld
  split
  ·exact g
  rename_i hfull
  have hcard : card (x.key :: keysW W) ≤ 100 := by
   rw [card_cons]
   split
   ·exact g.room
   ·rename_i hm
    rw [hasN_iff] at hm
    have h1 : hasK W.rows x.key = false := by
     cases e : hasK W.rows x.key with
     | false => rfl
     | true => exact absurd ((mem_keys W _).2 (.inl e)) hm
    have h2 : hasK (W.se i).wri x.key = false := by
     cases e : hasK (W.se i).wri x.key with
     | false => rfl
     | true => exact absurd ((mem_keys W _).2 (.inr ⟨i, hi, e⟩)) hm
    have := g.room
    simp only [h1, h2, true_and] at hfull
    omega
  have hxk : checkE ⟨10, x.key, x.val⟩ = 0 := by rw [← hk]; exact hx
  split
  ·rename_i h1
   have hp := (pairs_iff _ _ _).1 gs.wri
   have hsub : ∀ y, y ∈ keysW (W.put i ⟨(W.se i).st, (W.se i).set, (W.se i).pre, (W.se i).sav, plusP (W.se i).wri x.key x.val⟩) → y ∈ x.key :: keysW W := by
    intro y hy
    rcases (mem_keys _ y).1 hy with h2 | ⟨j, hj, h2⟩
    ·exact List.mem_cons_of_mem _ ((mem_keys W y).2 (.inl h2))
    ·rw [put_length] at hj
     rw [se_put W hi] at h2
     split at h2
     ·rw [hasK_plus, Bool.or_eq_true, decide_eq_true_eq] at h2
      rcases h2 with rfl | h2
      ·exact List.mem_cons_self
      ·exact List.mem_cons_of_mem _ ((mem_keys W y).2 (.inr ⟨i, hi, h2⟩))
     ·exact List.mem_cons_of_mem _ ((mem_keys W y).2 (.inr ⟨j, hj, h2⟩))
   have hle : card (keysW (W.put i ⟨(W.se i).st, (W.se i).set, (W.se i).pre, (W.se i).sav, plusP (W.se i).wri x.key x.val⟩)) ≤ 100 := Nat.le_trans (card_mono hsub) hcard
   refine g.put hi ⟨gs.st0, gs.st2, gs.set, gs.pre, gs.sav, (pairs_iff _ _ _).2 ⟨checks_plus hp.1 hxk, plus_sorted hp.2.1 _ _, ?_⟩, gs.idle, fun h => absurd h1 h⟩ (fun k hk' => ?_) hle
   ·refine Nat.le_trans (sorted_card (plus_sorted hp.2.1 _ _) fun y hy => ?_) hle
    refine (mem_keys _ y).2 (.inr ⟨i, by rw [put_length]; exact hi, ?_⟩)
    rw [se_put W hi, if_pos rfl]
    exact hy
   ·rw [hasK_plus, Bool.or_eq_true, decide_eq_true_eq] at hk'
    rcases hk' with rfl | hk'
    ·exact hheld
    ·exact g.notHeld hi hk'
  ·have hp := (pairs_iff _ _ _).1 g.rows
   have hsub : ∀ y, y ∈ keysW ⟨plusP W.rows x.key x.val, W.ses⟩ → y ∈ x.key :: keysW W := by
    intro y hy
    rcases (mem_keys _ y).1 hy with h2 | ⟨j, hj, h2⟩
    ·have h2' : hasK (plusP W.rows x.key x.val) y = true := h2
     rw [hasK_plus, Bool.or_eq_true, decide_eq_true_eq] at h2'
     rcases h2' with rfl | h2'
     ·exact List.mem_cons_self
     ·exact List.mem_cons_of_mem _ ((mem_keys W y).2 (.inl h2'))
    ·exact List.mem_cons_of_mem _ ((mem_keys W y).2 (.inr ⟨j, hj, h2⟩))
   have hle := Nat.le_trans (card_mono hsub) hcard
   refine ⟨(pairs_iff _ _ _).2 ⟨checks_plus hp.1 hxk, plus_sorted hp.2.1 _ _, ?_⟩, g.few, g.ses, g.apart, hle⟩
   exact Nat.le_trans (sorted_card (plus_sorted hp.2.1 _ _) fun y hy => (mem_keys _ y).2 (.inl hy)) hle
 split
 ·rename_i hk
  unfold prepW
  split
  ·exact g
  ·rename_i l hl
   unfold keepP at hl
   split at hl
   ·cases hl
   ·rename_i hn
    injection hl with hl
    subst hl
    have hp := (pairs_iff _ _ _).1 gs.pre
    refine g.put_sub hi ⟨gs.st0, gs.st2, gs.set, (pairs_iff _ _ _).2 ⟨checks_plus hp.1 (by rw [← hk]; exact hx), plus_sorted hp.2.1 _ _, ?_⟩, gs.sav, gs.wri, gs.idle, gs.calm⟩ fun k hk => hk
    rw [plus_length _ _ _ hp.2.1]
    split
    ·exact hp.2.2
    ·rename_i hh
     simp only [Bool.not_eq_true] at hh
     have := hp.2.2
     simp only [not_and] at hn
     have := hn hh
     omega
 ·exact g
theorem prep_ok {t : ByteArray} {k : ByteArray} (h : checkE ⟨11, k, t⟩ = 0) : checkE (readS t) = 0 ∧ ((readS t).k = 6 ∨ (readS t).k = 7 ∨ (readS t).k = 10) := by
 have hp : prepB t = true := by
  unfold checkE at h
  rw [if_pos rfl] at h
  cases hn : nameB k <;> cases hp : prepB t <;> simp [hn, hp] at h
  rfl
 rw [prep_read] at hp
 simp only [Bool.and_eq_true, Bool.or_eq_true, decide_eq_true_eq] at hp
 obtain ⟨h0, h1⟩ := hp
 refine ⟨?_, by omega⟩
 unfold readS
 rw [if_pos h0]
 unfold readE at h0
 split at h0
 ·simp at h0
 split at h0
 ·simp at h0
 split at h0
 ·simp at h0
 exact h0
theorem atP_mem' {l : List Pr} {k v : ByteArray} (h : atP l k = some v) : ⟨k, v⟩ ∈ l := by
 unfold atP at h
 obtain ⟨p, hp, rfl⟩ := Option.map_eq_some_iff.1 h
 have h1 := List.mem_of_find?_eq_some hp
 have h2 : p.k = k := by simpa using List.find?_some hp
 rw [← h2]
 exact h1
theorem GoodSe.preOk {s : Se} (g : GoodSe s) {k t : ByteArray} (h : atP s.pre k = some t) : checkE (readS t) = 0 ∧ ((readS t).k = 6 ∨ (readS t).k = 7 ∨ (readS t).k = 10) :=
 prep_ok (((pairs_iff _ _ _).1 g.pre).1 _ (atP_mem' h))
theorem did_good {W : Wo} (g : Good W) {i : Nat} (hi : i < W.ses.length) {x : St} (hx : checkE x = 0) : Good (did W i x).1 := by
 unfold did
 split
 ·unfold execW
  split
  ·exact g
  ·split
   ·exact g
   ·rename_i t ht
    exact did1_good g hi ((g.se hi).preOk ht).1
 ·exact did1_good g hi hx
def Mine (W : Wo) (i : Nat) (V : Wo) : Prop := V.ses.length = W.ses.length ∧ ∀ j, j ≠ i → V.se j = W.se j
theorem Mine.refl (W : Wo) (i : Nat) : Mine W i W := ⟨rfl, fun _ _ => rfl⟩
theorem Mine.put_ {W : Wo} {i : Nat} (r : List Pr) (s : Se) : Mine W i ⟨r, W.ses.set i s⟩ := by
 refine ⟨List.length_set, fun j hj => ?_⟩
 unfold Wo.se
 rw [List.getD_eq_getElem?_getD, List.getElem?_set, if_neg (fun e => hj e.symm), List.getD_eq_getElem?_getD]
theorem did1_mine (W : Wo) (i : Nat) (x : St) : Mine W i (did1 W i x).1 := by
 unfold did1
 split
 ·exact .refl W i
 split
 ·unfold transW
  split
  ·exact .put_ _ _
  split
  ·exact .refl W i
  split
  ·exact .refl W i
  ·unfold endW
   split
   ·exact .put_ _ _
   ·exact .put_ _ _
 split
 ·unfold resetW
  split
  ·exact .put_ _ _
  ·exact .refl W i
 split
 ·exact .refl W i
 split
 ·exact .refl W i
 split
 ·unfold setW
  split
  ·exact .refl W i
  ·exact .put_ _ _
 split
 ·unfold putW
  split
  ·exact .refl W i
  split
  ·exact .refl W i
  split
  ·exact .put_ _ _
  ·exact .refl W i
 split
 ·unfold prepW
  split
  ·exact .refl W i
  ·exact .put_ _ _
 ·exact .refl W i
theorem did_mine (W : Wo) (i : Nat) (x : St) : Mine W i (did W i x).1 := by
 unfold did
 split
 ·unfold execW
  split
  ·exact .refl W i
  ·split
   ·exact .refl W i
   ·exact did1_mine W i _
 ·exact did1_mine W i x
theorem doW_mine (W : Wo) (i : Nat) (x : St) : Mine W i (doW W i x).1 := by
 have h := did_mine W i x
 have h2 : Mine (did W i x).1 i ((did W i x).1.put i (failSe ((did W i x).1.se i) (did W i x).2)) := .put_ _ _
 exact ⟨h2.1.trans h.1, fun j hj => (h2.2 j hj).trans (h.2 j hj)⟩
theorem failSe_good {s : Se} (g : GoodSe s) (a : An) : GoodSe (failSe s a) := by
 unfold failSe
 split
 ·exact ⟨by simp, by simp, g.set, g.pre, g.sav, pairs_nil _ _, (fun h => by simp at h), fun _ => rfl⟩
 ·exact g
theorem failSe_wri {s : Se} (a : An) (k : ByteArray) (h : hasK (failSe s a).wri k = true) : hasK s.wri k = true := by
 unfold failSe at h
 split at h
 ·rw [hasK_nil] at h; cases h
 ·exact h
theorem doW_good {W : Wo} (g : Good W) {i : Nat} (hi : i < W.ses.length) {x : St} (hx : checkE x = 0) : Good (doW W i x).1 := by
 have g1 := did_good g hi hx
 have hi1 : i < (did W i x).1.ses.length := by rw [(did_mine W i x).1]; exact hi
 exact g1.put_sub hi1 (failSe_good (g1.se hi1) _) fun k hk => failSe_wri _ k hk
theorem doW_length (W : Wo) (i : Nat) (x : St) : (doW W i x).1.ses.length = W.ses.length := (doW_mine W i x).1
theorem doW_state {W : Wo} {i : Nat} (hi : i < W.ses.length) (x : St) : (doW W i x).2.st = ((doW W i x).1.se i).st := by
 have hi1 : i < (did W i x).1.ses.length := by rw [(did_mine W i x).1]; exact hi
 show _ = (((did W i x).1.put i (failSe ((did W i x).1.se i) (did W i x).2)).se i).st
 rw [se_put _ hi1, if_pos rfl]
 rfl
theorem did1_rows (W : Wo) (i : Nat) (x : St) (h2 : x.k ≠ 2) (h10 : x.k ≠ 10) : (did1 W i x).1.rows = W.rows := by
 unfold did1
 split
 ·rfl
 split
 ·unfold transW
  split
  ·rfl
  split
  ·rfl
  split
  ·rfl
  ·unfold endW
   rw [if_neg (by simp [h2])]
   rfl
 split
 ·unfold resetW
  split <;> rfl
 split
 ·rfl
 split
 ·rfl
 split
 ·unfold setW
  split <;> rfl
 split
 ·unfold prepW
  split <;> rfl
 ·rfl
theorem doW_rows (W : Wo) (i : Nat) (x : St) (h2 : x.k ≠ 2) (h10 : x.k ≠ 10) (h8 : x.k ≠ 8) : (doW W i x).1.rows = W.rows := by
 show (did W i x).1.rows = W.rows
 unfold did
 rw [if_neg h8]
 exact did1_rows W i x h2 h10
def doE (W : Wo) (i : Int) (x : St) : Int := if goodW W = true then (if 0 ≤ i ∧ i < W.ses.length then checkE x else 6) else 5
def emptyW : Wo := ⟨[], []⟩
def An.no : An := ⟨0, ⟨#[]⟩, 0⟩
def doR (W : Wo) (i : Int) (x : St) : Wo × An := if doE W i x = 0 then doW W i.toNat x else (emptyW, An.no)
end Go.Proofs.YtjbnfigpflambacGreatDoor
/- Plain laws, no program: messages and the texts of answers. -/
namespace Go.Proofs.YtjbnfigpflambacGreatDoor
theorem arr_eq {a b : ByteArray} (h : a.data.toList = b.data.toList) : a = b := by
 obtain ⟨⟨x⟩⟩ := a
 obtain ⟨⟨y⟩⟩ := b
 simp only at h
 rw [h]
def msg (k : UInt8) (s : ByteArray) : ByteArray := ⟨#[k, UInt8.ofNat s.size]⟩ ++ s
def packS (k : UInt8) (s : ByteArray) : ByteArray := if 120 < s.size then ⟨#[]⟩ else msg k s
def packE (s : ByteArray) : Int := if 120 < s.size then 1 else 0
def whole (s : ByteArray) : Prop := ∃ h : 1 < s.size, 2 + (s[1]'h).toNat ≤ s.size
def stB (st : Int) : ByteArray := if st = 0 then ⟨#[73]⟩ else if st = 1 then ⟨#[84]⟩ else ⟨#[70]⟩
def bodyB (k : Int) (t : ByteArray) : ByteArray := if k = 1 then ⟨#[111, 107]⟩ else if k = 2 then ⟨#[61]⟩ ++ t else if k = 3 then ⟨#[110, 111, 110, 101]⟩ else ⟨#[33]⟩ ++ t
def headN (s : ByteArray) : Nat := 2 + (s.data.toList.getD 1 0).toNat
def wholeB (s : ByteArray) : Bool := decide (2 ≤ s.size) && decide (headN s ≤ s.size)
def kindAt (s : ByteArray) : UInt8 := s.data.toList.getD 0 0
def textAt (s : ByteArray) : ByteArray := s.extract 2 (headN s)
def restAt (s : ByteArray) : ByteArray := s.extract (headN s) s.size
theorem msg_size (k : UInt8) (t : ByteArray) : (msg k t).size = 2 + t.size := by
 unfold msg
 rw [ByteArray.size_append]
 rfl
theorem msg_list (k : UInt8) (t : ByteArray) : (msg k t).data.toList = k :: UInt8.ofNat t.size :: t.data.toList := by simp [msg]
theorem list_get {s : ByteArray} {i : Nat} (h : i < s.size) : s[i]'h = s.data.toList[i]'(by simpa using h) := by simp; rfl
theorem extract_list (s : ByteArray) (a b : Nat) : (s.extract a b).data.toList = (s.data.toList.drop a).take (b - a) := by simp
theorem msg_at {k : UInt8} {t more : ByteArray} (h0 : 0 < (msg k t ++ more).size) (h1 : 1 < (msg k t ++ more).size) : (msg k t ++ more)[0]'h0 = k ∧ (msg k t ++ more)[1]'h1 = UInt8.ofNat t.size := by
 rw [list_get, list_get]
 have e : (msg k t ++ more).data.toList = k :: UInt8.ofNat t.size :: (t.data.toList ++ more.data.toList) := by simp [msg_list]
 exact ⟨by simp only [e]; rfl, by simp only [e]; rfl⟩
theorem msg_text (k : UInt8) (t more : ByteArray) : (msg k t ++ more).extract 2 (2 + t.size) = t := by
 refine arr_eq ?_
 rw [extract_list]
 have e : (msg k t ++ more).data.toList = k :: UInt8.ofNat t.size :: (t.data.toList ++ more.data.toList) := by simp [msg_list]
 rw [e]
 simp
theorem whole_iff (s : ByteArray) : wholeB s = true ↔ whole s := by
 unfold wholeB whole headN
 simp only [Bool.and_eq_true, decide_eq_true_eq]
 constructor
 ·rintro ⟨h1, h2⟩
  refine ⟨by omega, ?_⟩
  rw [list_get]
  have hl : 1 < s.data.toList.length := by have : s.data.toList.length = s.size := by simp
                                           omega
  rw [List.getD_eq_getElem?_getD, List.getElem?_eq_getElem hl] at h2
  exact h2
 ·rintro ⟨h1, h2⟩
  refine ⟨by omega, ?_⟩
  rw [list_get] at h2
  have hl : 1 < s.data.toList.length := by simpa using h1
  rw [List.getD_eq_getElem?_getD, List.getElem?_eq_getElem hl]
  exact h2
theorem rest_lt {s : ByteArray} (h : wholeB s = true) : (restAt s).size < s.size := by
 unfold wholeB at h
 simp only [Bool.and_eq_true, decide_eq_true_eq] at h
 unfold restAt
 rw [ByteArray.size_extract]
 have : 2 ≤ headN s := by unfold headN; omega
 omega
theorem rest_le (s : ByteArray) (h : wholeB s = true) : (restAt s).size + 2 ≤ s.size := by
 unfold wholeB at h
 simp only [Bool.and_eq_true, decide_eq_true_eq] at h
 unfold restAt
 rw [ByteArray.size_extract]
 have : 2 ≤ headN s := by unfold headN; omega
 omega
def fitA (k : Int) (t : ByteArray) (st : Int) : Bool :=
 decide (1 ≤ k) && decide (k ≤ 4) && decide (0 ≤ st) && decide (st ≤ 2) && (!(decide (k = 2) || decide (k = 4)) == t.data.toList.isEmpty) && decide (t.size ≤ 60)
def tellS (k : Int) (t : ByteArray) (st : Int) : ByteArray := if fitA k t st = true then stB st ++ bodyB k t else ⟨#[]⟩
end Go.Proofs.YtjbnfigpflambacGreatDoor
