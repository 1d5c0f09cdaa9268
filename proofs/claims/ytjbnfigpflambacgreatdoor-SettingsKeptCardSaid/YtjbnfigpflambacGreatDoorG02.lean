/- Plain laws, no program: the front of a pool (what clients sent, what they wait for, whose the servers are), over any kind of sessions behind it. Plain laws, no program: the pool's sessions (few servers, and what the pool knows of each client) against a session for each client: the front is the same. -/
import Derived.Test.YtjbnfigpflambacGreatDoorG01
/- Plain laws, no program: the front of a pool (what clients sent, what they wait for, whose the servers are), over any kind of sessions behind it. -/
namespace Go.Proofs.YtjbnfigpflambacGreatDoor
structure Cl where
 bytes : ByteArray
 pend : List (St × Bool)
 srv : Int
 sent : ByteArray
def Cl.new : Cl := ⟨⟨#[]⟩, [], -1, ⟨#[]⟩⟩
structure De where
 c : Nat
 x : St
 a : An
structure Fr where
 mode : Int
 owner : List Int
 cl : List Cl
 wait : List Nat
 deeds : List De
structure Bh (β : Type) where
 act : β → Nat → Nat → St → β × An
 bind : β → Nat → Nat → β
 free : β → Nat → Nat → β
 st : β → Nat → Int
 gone : β → Nat → Int → β
def Fr.c (f : Fr) (i : Nat) : Cl := f.cl.getD i Cl.new
def Fr.set (f : Fr) (i : Nat) (x : Cl) : Fr := ⟨f.mode, f.owner, f.cl.set i x, f.wait, f.deeds⟩
def needs (f : Fr) (i : Nat) : Bool :=
 match (f.c i).pend with
 | [] => true
 | (x, bad) :: _ => !bad && (decide (f.mode ≠ 3) || decide (x.k ≠ 1))
def busy (f : Fr) (i : Nat) : Bool := !(f.c i).pend.isEmpty
def ready (f : Fr) (i : Nat) : Bool := busy f i && (decide (0 ≤ (f.c i).srv) || !needs f i)
def pickF (f : Fr) : Option Nat := (List.range 6).find? (ready f)
def tNotUnd : ByteArray := ⟨#[110, 111, 116, 32, 117, 110, 100, 101, 114, 115, 116, 111, 111, 100]⟩
def tNotMode : ByteArray := ⟨#[110, 111, 116, 32, 105, 110, 32, 116, 104, 105, 115, 32, 109, 111, 100, 101]⟩
def tellM (a : An) : ByteArray := packS 82 (tellS a.kind a.text a.st)
def Cl.tell (x : Cl) (a : An) : Cl := ⟨x.bytes, x.pend, x.srv, x.sent ++ tellM a⟩
def Fr.tell (f : Fr) (i : Nat) (a : An) : Fr := f.set i ((f.c i).tell a)
def Fr.drop (f : Fr) (i : Nat) : Fr := f.set i ⟨(f.c i).bytes, (f.c i).pend.tail, (f.c i).srv, (f.c i).sent⟩
def Fr.deed (f : Fr) (d : De) : Fr := ⟨f.mode, f.owner, f.cl, f.wait, f.deeds ++ [d]⟩
def Fr.freeS (f : Fr) (i : Nat) : Fr := ⟨f.mode, f.owner.set (f.c i).srv.toNat (-1), f.cl.set i ⟨(f.c i).bytes, (f.c i).pend, -1, (f.c i).sent⟩, f.wait, f.deeds⟩
def Fr.bindS (f : Fr) (s i : Nat) : Fr := ⟨f.mode, f.owner.set s (i : Int), f.cl.set i ⟨(f.c i).bytes, (f.c i).pend, (s : Int), (f.c i).sent⟩, f.wait, f.deeds⟩
section
variable {β : Type} (B : Bh β)
def nextM (z : Fr × β) (i : Nat) : Fr × β :=
 match (z.1.c i).pend with
 | [] => z
 | (x, bad) :: _ =>
  if bad = true then ((z.1.drop i).tell i ⟨4, tNotUnd, B.st z.2 i⟩, z.2)
  else if z.1.mode = 3 ∧ x.k = 1 then ((z.1.drop i).tell i ⟨4, tNotMode, B.st z.2 i⟩, z.2)
  else
   let r := B.act z.2 i (z.1.c i).srv.toNat x
   let f := ((z.1.drop i).deed ⟨i, x, r.2⟩).tell i r.2
   if z.1.mode ≠ 1 ∧ r.2.st = 0 then (f.freeS i, B.free r.1 i (z.1.c i).srv.toNat) else (f, r.1)
theorem next_nil (z : Fr × β) (i : Nat) (h : (z.1.c i).pend = []) : nextM B z i = z := by unfold nextM; rw [h]
theorem next_bad (z : Fr × β) (i : Nat) {x : St} {l : List (St × Bool)} (h : (z.1.c i).pend = (x, true) :: l) : nextM B z i = ((z.1.drop i).tell i ⟨4, tNotUnd, B.st z.2 i⟩, z.2) := by
 unfold nextM; rw [h]; rfl
theorem next_mode (z : Fr × β) (i : Nat) {x : St} {l : List (St × Bool)} (h : (z.1.c i).pend = (x, false) :: l) (hm : z.1.mode = 3 ∧ x.k = 1) : nextM B z i = ((z.1.drop i).tell i ⟨4, tNotMode, B.st z.2 i⟩, z.2) := by
 unfold nextM; rw [h]; simp only [Bool.false_eq_true, if_false]; rw [if_pos hm]
def doneF (f : Fr) (i : Nat) (x : St) (a : An) : Fr := ((f.drop i).deed ⟨i, x, a⟩).tell i a
theorem next_act (z : Fr × β) (i : Nat) {x : St} {l : List (St × Bool)} (h : (z.1.c i).pend = (x, false) :: l) (hm : ¬ (z.1.mode = 3 ∧ x.k = 1)) :
  nextM B z i = if z.1.mode ≠ 1 ∧ (B.act z.2 i (z.1.c i).srv.toNat x).2.st = 0
   then ((doneF z.1 i x (B.act z.2 i (z.1.c i).srv.toNat x).2).freeS i, B.free (B.act z.2 i (z.1.c i).srv.toNat x).1 i (z.1.c i).srv.toNat)
   else (doneF z.1 i x (B.act z.2 i (z.1.c i).srv.toNat x).2, (B.act z.2 i (z.1.c i).srv.toNat x).1) := by
 unfold nextM; rw [h]; simp only [Bool.false_eq_true, if_false]; rw [if_neg hm]; rfl
def queueF (f : Fr) : Fr := ⟨f.mode, f.owner, f.cl, f.wait ++ (List.range 6).filter (fun i => busy f i && !f.wait.contains i), f.deeds⟩
def idleF (o : List Int) : Option Nat := (List.range o.length).find? fun s => decide (o.getD s 0 = -1)
def Fr.unwait (f : Fr) : Fr := ⟨f.mode, f.owner, f.cl, f.wait.tail, f.deeds⟩
def stepM (z : Fr × β) : (Fr × β) × Bool :=
 match pickF z.1 with
 | some i => (nextM B z i, true)
 | none =>
  match (queueF z.1).wait, idleF (queueF z.1).owner with
  | i :: _, some s => (((queueF z.1).unwait.bindS s i, B.bind z.2 s i), true)
  | _, _ => ((queueF z.1, z.2), false)
end
section
variable {β : Type} (B : Bh β)
theorem step_next (z : Fr × β) {i : Nat} (h : pickF z.1 = some i) : stepM B z = (nextM B z i, true) := by unfold stepM; rw [h]
theorem step_bind (z : Fr × β) (h : pickF z.1 = none) {i s : Nat} {l : List Nat} (hw : (queueF z.1).wait = i :: l) (hs : idleF z.1.owner = some s) : stepM B z = (((queueF z.1).unwait.bindS s i, B.bind z.2 s i), true) := by
 unfold stepM
 have hs : idleF (queueF z.1).owner = some s := hs
 rw [h]
 simp only
 rw [hw, hs]
theorem step_stop (z : Fr × β) (h : pickF z.1 = none) (hw : (queueF z.1).wait = [] ∨ idleF z.1.owner = none) : stepM B z = ((queueF z.1, z.2), false) := by
 unfold stepM
 rw [h]
 simp only
 have e : (queueF z.1).owner = z.1.owner := rfl
 rw [e]
 rcases hw with hw | hw
 ·rw [hw]
 ·rw [hw]
  cases (queueF z.1).wait <;> rfl
end
def pendN (f : Fr) : Nat := (f.cl.map fun x => x.pend.length).sum
def freeN (f : Fr) : Nat := f.owner.countP fun s => decide (s = -1)
def mu (f : Fr) : Nat := (f.owner.length + 1) * pendN f + freeN f
theorem sum_set (l : List Nat) : ∀ (i : Nat) (h : i < l.length) (x : Nat), (l.set i x).sum + l[i] = l.sum + x := by
 induction l with
 | nil => intro i h; simp at h
 | cons a l ih =>
  intro i h x
  rcases i with _ | i
  ·simp; omega
  ·have := ih i (by simpa using h) x
   simp only [List.set_cons_succ, List.sum_cons, List.getElem_cons_succ]
   omega
theorem c_set (f : Fr) {i : Nat} (hi : i < f.cl.length) (x : Cl) (j : Nat) : (f.set i x).c j = if j = i then x else f.c j := by
 unfold Fr.set Fr.c
 rw [List.getD_eq_getElem?_getD, List.getElem?_set, List.getD_eq_getElem?_getD]
 by_cases h : i = j
 ·subst h; simp [hi]
 ·rw [if_neg h, if_neg (fun e => h e.symm)]
theorem c_at {f : Fr} {i : Nat} (hi : i < f.cl.length) : f.c i = f.cl[i] := getD_at hi _
theorem c_out {f : Fr} {i : Nat} (hi : f.cl.length ≤ i) : f.c i = Cl.new := by
 unfold Fr.c
 rw [List.getD_eq_getElem?_getD, List.getElem?_eq_none hi]
 rfl
theorem pendN_set (f : Fr) {i : Nat} (hi : i < f.cl.length) (x : Cl) : pendN (f.set i x) + (f.c i).pend.length = pendN f + x.pend.length := by
 unfold pendN Fr.set
 rw [List.map_set]
 have := sum_set (f.cl.map fun x => x.pend.length) i (by simpa using hi) x.pend.length
 rw [List.getElem_map] at this
 rw [c_at hi]
 exact this
theorem busy_lt {f : Fr} {i : Nat} (h : busy f i = true) : i < f.cl.length := by
 rcases Nat.lt_or_ge i f.cl.length with h' | h'
 ·exact h'
 ·unfold busy at h
  rw [c_out h'] at h
  simp [Cl.new] at h
theorem count_take (o : List Int) (s : Nat) (hs : s < o.length) (h : o.getD s 0 = -1) (i : Nat) : (o.set s (i : Int)).countP (fun s => decide (s = -1)) + 1 = o.countP (fun s => decide (s = -1)) := by
 induction o generalizing s with
 | nil => simp at hs
 | cons a o ih =>
  rcases s with _ | s
  ·have ha : a = -1 := by simpa using h
   subst ha
   have hi : ¬ ((i : Int) = -1) := by omega
   simp only [List.set_cons_zero, List.countP_cons, hi, decide_false, decide_true, if_true]
   simp
  ·have := ih s (by simpa using hs) (by simpa using h)
   simp only [List.set_cons_succ, List.countP_cons]
   omega
theorem count_le (o : List Int) : o.countP (fun s => decide (s = -1)) ≤ o.length := List.countP_le_length
section
variable {β : Type} (B : Bh β)
theorem pick_ready {f : Fr} {i : Nat} (h : pickF f = some i) : ready f i = true ∧ i < 6 :=
 ⟨List.find?_some h, List.mem_range.1 (List.mem_of_find?_eq_some h)⟩
theorem ready_busy {f : Fr} {i : Nat} (h : ready f i = true) : busy f i = true := by
 unfold ready at h
 rw [Bool.and_eq_true] at h
 exact h.1
theorem pendN_tell (f : Fr) (i : Nat) (hi : i < f.cl.length) (a : An) : pendN (f.tell i a) = pendN f := by
 have := pendN_set f hi ((f.c i).tell a)
 unfold Fr.tell
 have e : ((f.c i).tell a).pend = (f.c i).pend := rfl
 rw [e] at this
 omega
theorem len_set (f : Fr) (i : Nat) (x : Cl) : (f.set i x).cl.length = f.cl.length := List.length_set
theorem len_tell (f : Fr) (i : Nat) (a : An) : (f.tell i a).cl.length = f.cl.length := List.length_set
theorem len_drop (f : Fr) (i : Nat) : (f.drop i).cl.length = f.cl.length := List.length_set
theorem pendN_free (f : Fr) (i : Nat) (hi : i < f.cl.length) : pendN (f.freeS i) = pendN f := by
 have := pendN_set f hi ⟨(f.c i).bytes, (f.c i).pend, -1, (f.c i).sent⟩
 have e : pendN (f.freeS i) = pendN (f.set i ⟨(f.c i).bytes, (f.c i).pend, -1, (f.c i).sent⟩) := rfl
 rw [e]
 simp only at this
 omega
theorem pendN_bind (f : Fr) (s i : Nat) (hi : i < f.cl.length) : pendN (f.bindS s i) = pendN f := by
 have := pendN_set f hi ⟨(f.c i).bytes, (f.c i).pend, (s : Int), (f.c i).sent⟩
 have e : pendN (f.bindS s i) = pendN (f.set i ⟨(f.c i).bytes, (f.c i).pend, (s : Int), (f.c i).sent⟩) := rfl
 rw [e]
 simp only at this
 omega
theorem pendN_drop (f : Fr) (i : Nat) (h : busy f i = true) : pendN (f.drop i) + 1 = pendN f := by
 have hi := busy_lt h
 have := pendN_set f hi ⟨(f.c i).bytes, (f.c i).pend.tail, (f.c i).srv, (f.c i).sent⟩
 have e : pendN (f.drop i) = pendN (f.set i ⟨(f.c i).bytes, (f.c i).pend.tail, (f.c i).srv, (f.c i).sent⟩) := rfl
 rw [e]
 have hp : (f.c i).pend.length ≠ 0 := by
  unfold busy at h
  intro h0
  rw [List.length_eq_zero_iff] at h0
  rw [h0] at h
  simp at h
 simp only [List.length_tail] at this
 omega
theorem next_pend (z : Fr × β) (i : Nat) (h : busy z.1 i = true) : pendN (nextM B z i).1 + 1 = pendN z.1 ∧ (nextM B z i).1.owner.length = z.1.owner.length := by
 have hi := busy_lt h
 have hd := pendN_drop z.1 i h
 unfold nextM
 split
 ·rename_i e
  unfold busy at h
  rw [e] at h
  simp at h
 ·rename_i x bad rest e
  split
  ·exact ⟨by rw [pendN_tell _ _ (by rw [len_drop]; exact hi)]; exact hd, rfl⟩
  split
  ·exact ⟨by rw [pendN_tell _ _ (by rw [len_drop]; exact hi)]; exact hd, rfl⟩
  ·have h1 : ∀ (d : De) (a : An), pendN (((z.1.drop i).deed d).tell i a) + 1 = pendN z.1 := fun d a => by
    rw [pendN_tell ((z.1.drop i).deed d) i (by show i < (z.1.drop i).cl.length; rw [len_drop]; exact hi)]
    exact hd
   simp only
   split
   ·refine ⟨?_, List.length_set⟩
    rw [pendN_free _ _ (by rw [len_tell]; show i < (z.1.drop i).cl.length; rw [len_drop]; exact hi)]
    exact h1 _ _
   ·exact ⟨h1 _ _, rfl⟩
theorem idle_at {o : List Int} {s : Nat} (h : idleF o = some s) : s < o.length ∧ o.getD s 0 = -1 :=
 ⟨List.mem_range.1 (List.mem_of_find?_eq_some h), by simpa using List.find?_some h⟩
theorem step_mu (z : Fr × β) (h : (stepM B z).2 = true) : mu (stepM B z).1.1 < mu z.1 := by
 unfold stepM at h ⊢
 split at h
 ·rename_i i hp
  obtain ⟨h1, h2⟩ := next_pend B z i (ready_busy (pick_ready hp).1)
  simp only
  unfold mu
  rw [h2, ← h1]
  have := count_le (nextM B z i).1.owner
  rw [h2] at this
  unfold freeN
  rw [Nat.mul_add]
  omega
 ·rename_i hp
  split at h
  ·rename_i i rest s hw hs
   simp only
   obtain ⟨h1, h2⟩ := idle_at hs
   have hc := count_take _ s h1 h2 i
   have e1 : ((queueF z.1).unwait.bindS s i).owner = (queueF z.1).owner.set s (i : Int) := rfl
   have e2 : (queueF z.1).owner = z.1.owner := rfl
   unfold mu freeN
   rw [e1, List.length_set]
   have e3 : pendN ((queueF z.1).unwait.bindS s i) = pendN z.1 := by
    by_cases hi : i < z.1.cl.length
    ·exact pendN_bind (queueF z.1).unwait s i hi
    ·unfold pendN Fr.bindS Fr.unwait queueF
     simp only
     rw [List.set_eq_of_length_le (by omega)]
   rw [e3, e2]
   rw [e2] at hc
   omega
  ·cases h
def pumpM (z : Fr × β) : Fr × β :=
 if _h : (stepM B z).2 = true then pumpM (stepM B z).1 else (stepM B z).1
termination_by mu z.1
decreasing_by exact step_mu B z _h
theorem pump_go (z : Fr × β) (h : (stepM B z).2 = true) : pumpM B z = pumpM B (stepM B z).1 := by
 rw [pumpM, dif_pos h]
theorem pump_end (z : Fr × β) (h : (stepM B z).2 = false) : pumpM B z = (stepM B z).1 := by
 rw [pumpM, dif_neg (by rw [h]; simp)]
theorem pump_keeps (I : Fr × β → Prop) (hI : ∀ z, I z → I (stepM B z).1) : ∀ (n : Nat) (z : Fr × β), mu z.1 ≤ n → I z → I (pumpM B z) := by
 intro n
 induction n with
 | zero =>
  intro z hn hz
  cases h : (stepM B z).2 with
  | true => have := step_mu B z h; omega
  | false => rw [pump_end B z h]; exact hI z hz
 | succ n ih =>
  intro z hn hz
  cases h : (stepM B z).2 with
  | true =>
   rw [pump_go B z h]
   exact ih _ (by have := step_mu B z h; omega) (hI z hz)
  | false => rw [pump_end B z h]; exact hI z hz
def closeM (z : Fr × β) (i : Nat) : Fr × β :=
 (⟨z.1.mode, if 0 ≤ (z.1.c i).srv then z.1.owner.set (z.1.c i).srv.toNat (-1) else z.1.owner, z.1.cl.set i ⟨⟨#[]⟩, [], -1, (z.1.c i).sent⟩, z.1.wait.filter (fun j => !decide (j = i)), z.1.deeds⟩, B.gone z.2 i (z.1.c i).srv)
end
def askedOf (s : ByteArray) : St × Bool := (readS (textAt s), !decide (kindAt s = 81) || !decide (readE (textAt s) = 0))
def feedC (x : Cl) : Cl × Bool :=
 if _h : wholeB x.bytes = true then
  if kindAt x.bytes = 88 then (⟨restAt x.bytes, x.pend, x.srv, x.sent⟩, true)
  else feedC ⟨restAt x.bytes, x.pend ++ [askedOf x.bytes], x.srv, x.sent⟩
 else (x, false)
termination_by x.bytes.size
decreasing_by exact rest_lt _h
section
variable {β : Type} (B : Bh β)
def pourC (x : Cl) (data : ByteArray) : Cl × Bool := feedC ⟨x.bytes ++ data, x.pend, x.srv, x.sent⟩
def deliverM (z : Fr × β) (i : Nat) (data : ByteArray) : Fr × β :=
 let r := pourC (z.1.c i) data
 if r.2 = true then pumpM B (closeM B (pumpM B (z.1.set i r.1, z.2)) i) else pumpM B (z.1.set i r.1, z.2)
structure Ac where
 kind : Int
 c : Int
 data : ByteArray
def actM (z : Fr × β) (a : Ac) : Fr × β := if a.kind = 2 then pumpM B (closeM B z a.c.toNat) else deliverM B z a.c.toNat a.data
def runM (z : Fr × β) (l : List Ac) : Fr × β := l.foldl (actM B) z
end
def startF (mode : Int) (servers : Nat) : Fr := ⟨mode, List.replicate servers (-1), List.replicate 6 Cl.new, [], []⟩
end Go.Proofs.YtjbnfigpflambacGreatDoor
/- Plain laws, no program: the pool's sessions (few servers, and what the pool knows of each client) against a session for each client: the front is the same. -/
namespace Go.Proofs.YtjbnfigpflambacGreatDoor
structure Ow where
 set : List Pr
 pre : List Pr
 sav : List Pr
 st : Int
def Ow.new : Ow := ⟨[], [], [], 0⟩
def owOf (s : Se) : Ow := ⟨s.set, s.pre, s.sav, s.st⟩
structure PB where
 w : Wo
 known : List Ow
 own : List Ow
def PB.ow (b : PB) (i : Nat) : Ow := b.own.getD i Ow.new
def PB.kn (b : PB) (s : Nat) : Ow := b.known.getD s Ow.new
def learn (o : Ow) (x : St) (a : An) : Ow :=
 if a.kind = 4 then ⟨o.set, o.pre, o.sav, a.st⟩
 else if x.k = 1 then ⟨o.set, o.pre, o.set, a.st⟩
 else if x.k = 2 ∨ x.k = 3 then ⟨if x.k = 3 ∨ o.st = 2 then o.sav else o.set, o.pre, [], a.st⟩
 else if x.k = 4 then ⟨[], [], o.sav, a.st⟩
 else if x.k = 9 then ⟨plusP o.set x.key x.val, o.pre, o.sav, a.st⟩
 else if x.k = 11 then ⟨o.set, plusP o.pre x.key x.val, o.sav, a.st⟩
 else ⟨o.set, o.pre, o.sav, a.st⟩
def tLost : ByteArray := ⟨#[108, 111, 115, 116]⟩
def poDo (w : Wo) (s : Nat) (x : St) : Wo × An := if doE w (s : Int) x = 0 then doW w s x else (w, ⟨4, tLost, 0⟩)
def resetS : St := ⟨4, ⟨#[]⟩, ⟨#[]⟩⟩
def backS : St := ⟨3, ⟨#[]⟩, ⟨#[]⟩⟩
def sayAll (w : Wo) (s : Nat) (k : Int) (l : List Pr) : Wo := l.foldl (fun w p => (poDo w s ⟨k, p.k, p.v⟩).1) w
open Classical in
noncomputable def bindW (b : PB) (s i : Nat) : Wo :=
 if (b.ow i).set = (b.kn s).set ∧ (b.ow i).pre = (b.kn s).pre then b.w
 else sayAll (sayAll (poDo b.w s resetS).1 s 9 (b.ow i).set) s 11 (b.ow i).pre
def actP (b : PB) (i s : Nat) (x : St) : PB × An := (⟨(poDo b.w s x).1, b.known, b.own.set i (learn (b.ow i) x (poDo b.w s x).2)⟩, (poDo b.w s x).2)
def freeP (b : PB) (i s : Nat) : PB := ⟨b.w, b.known.set s (b.ow i), b.own⟩
def leaveP (b : PB) (i : Nat) : PB := ⟨b.w, b.known, b.own.set i Ow.new⟩
def undoP (b : PB) (i s : Nat) : PB := if (b.ow i).st = 0 then b else (actP b i s backS).1
def goneP (b : PB) (i : Nat) (srv : Int) : PB := if 0 ≤ srv then leaveP (freeP (undoP b i srv.toNat) i srv.toNat) i else leaveP b i
noncomputable def poolB : Bh PB := ⟨actP, fun b s i => ⟨bindW b s i, b.known, b.own⟩, freeP, fun b i => (b.ow i).st, goneP⟩
def houseB : Bh Wo := ⟨fun w i _ x => doW w i x, fun w _ _ => w, fun w _ _ => w, fun w i => (w.se i).st, fun w i _ => w.put i Se.new⟩
theorem getD_set {α : Type} (l : List α) (i j : Nat) (x d : α) (hi : i < l.length) : (l.set i x).getD j d = if j = i then x else l.getD j d := by
 rw [List.getD_eq_getElem?_getD, List.getElem?_set, List.getD_eq_getElem?_getD]
 by_cases h : i = j
 ·subst h; simp [hi]
 ·rw [if_neg h, if_neg (fun e => h e.symm)]
/-! a statement over two worlds that look alike -/
theorem did1_sim {W V : Wo} {s i : Nat} (hs : s < W.ses.length) (hi : i < V.ses.length) (e1 : W.se s = V.se i) (e2 : W.rows = V.rows) (e3 : ∀ k, heldB W.ses s k = heldB V.ses i k) (e4 : card (keysW W) = card (keysW V)) (x : St) :
  (did1 W s x).2 = (did1 V i x).2 ∧ (did1 W s x).1.rows = (did1 V i x).1.rows ∧ (did1 W s x).1.se s = (did1 V i x).1.se i := by
 have hp : ∀ a : Se, (W.put s a).se s = (V.put i a).se i := fun a => by rw [se_put W hs, se_put V hi, if_pos rfl, if_pos rfl]
 have hq : ∀ (r r' : List Pr) (a : Se), (⟨r, W.ses.set s a⟩ : Wo).se s = (⟨r', V.ses.set i a⟩ : Wo).se i := fun r r' a => hp a
 unfold did1
 rw [e1]
 split
 ·exact ⟨rfl, e2, e1⟩
 split
 ·unfold transW
  rw [e1]
  split
  ·exact ⟨rfl, e2, hp _⟩
  split
  ·exact ⟨rfl, e2, e1⟩
  split
  ·exact ⟨rfl, e2, e1⟩
  ·unfold endW
   rw [e1, e2]
   split
   ·exact ⟨rfl, rfl, hq _ _ _⟩
   ·exact ⟨rfl, e2, hp _⟩
 split
 ·unfold resetW
  rw [e1]
  split
  ·exact ⟨rfl, e2, hp _⟩
  ·exact ⟨rfl, e2, e1⟩
 split
 ·unfold getW
  exact ⟨by rw [e1], e2, e1⟩
 split
 ·unfold readW
  exact ⟨by rw [e1, e2], e2, e1⟩
 split
 ·unfold setW
  rw [e1]
  split
  ·exact ⟨rfl, e2, e1⟩
  ·exact ⟨rfl, e2, hp _⟩
 split
 ·unfold putW
  rw [e1, e2, e3, e4]
  split
  ·exact ⟨rfl, e2, e1⟩
  split
  ·exact ⟨rfl, e2, e1⟩
  split
  ·exact ⟨rfl, e2, hp _⟩
  ·exact ⟨rfl, rfl, e1⟩
 split
 ·unfold prepW
  rw [e1]
  split
  ·exact ⟨rfl, e2, e1⟩
  ·exact ⟨rfl, e2, hp _⟩
 ·exact ⟨rfl, e2, e1⟩
theorem did_sim {W V : Wo} {s i : Nat} (hs : s < W.ses.length) (hi : i < V.ses.length) (e1 : W.se s = V.se i) (e2 : W.rows = V.rows) (e3 : ∀ k, heldB W.ses s k = heldB V.ses i k) (e4 : card (keysW W) = card (keysW V)) (x : St) :
  (did W s x).2 = (did V i x).2 ∧ (did W s x).1.rows = (did V i x).1.rows ∧ (did W s x).1.se s = (did V i x).1.se i := by
 unfold did
 split
 ·unfold execW
  rw [e1]
  split
  ·exact ⟨rfl, e2, e1⟩
  ·split
   ·exact ⟨rfl, e2, e1⟩
   ·exact did1_sim hs hi e1 e2 e3 e4 _
 ·exact did1_sim hs hi e1 e2 e3 e4 x
theorem doW_sim {W V : Wo} {s i : Nat} (hs : s < W.ses.length) (hi : i < V.ses.length) (e1 : W.se s = V.se i) (e2 : W.rows = V.rows) (e3 : ∀ k, heldB W.ses s k = heldB V.ses i k) (e4 : card (keysW W) = card (keysW V)) (x : St) :
  (doW W s x).2 = (doW V i x).2 ∧ (doW W s x).1.rows = (doW V i x).1.rows ∧ (doW W s x).1.se s = (doW V i x).1.se i := by
 obtain ⟨h1, h2, h3⟩ := did_sim hs hi e1 e2 e3 e4 x
 have l1 : s < (did W s x).1.ses.length := by rw [(did_mine W s x).1]; exact hs
 have l2 : i < (did V i x).1.ses.length := by rw [(did_mine V i x).1]; exact hi
 unfold doW
 refine ⟨by rw [h1, h3], h2, ?_⟩
 rw [se_put _ l1, se_put _ l2, if_pos rfl, if_pos rfl, h1, h3]
theorem okA_kind : okA.kind ≠ 4 := by simp [okA]
theorem foundA_kind (o : Option ByteArray) : (foundA o).kind ≠ 4 := by cases o <;> simp [foundA]
def Learned (W : Wo) (i : Nat) (x : St) (V : Wo) (a : An) : Prop := owOf (failSe (V.se i) a) = learn (owOf (W.se i)) x ⟨a.kind, a.text, (failSe (V.se i) a).st⟩
theorem learned_no {W : Wo} {i : Nat} (x : St) (t : ByteArray) : Learned W i x W (noA t) := by
 unfold Learned learn
 rw [if_pos (show (noA t).kind = 4 from rfl)]
 unfold failSe owOf
 split <;> rfl
theorem failSe_ok (s : Se) {a : An} (h : a.kind ≠ 4) : failSe s a = s := by
 unfold failSe
 rw [if_neg (fun h' => h h'.1)]
theorem did1_learn {W : Wo} (g : Good W) {i : Nat} (hi : i < W.ses.length) (x : St) : Learned W i x (did1 W i x).1 (did1 W i x).2 := by
 have gs := g.se hi
 unfold did1
 split
 ·exact learned_no _ _
 rename_i hf
 split
 ·rename_i hk
  unfold transW
  split
  ·rename_i h
   unfold Learned learn
   rw [failSe_ok _ okA_kind, se_put W hi, if_pos rfl, if_neg okA_kind, if_pos h.1]
   rfl
  split
  ·exact learned_no _ _
  rename_i h1
  split
  ·exact learned_no _ _
  rename_i h0
  have hk1 : ¬ x.k = 1 := by assumption
  unfold endW
  split
  ·rename_i hd
   simp only [Bool.and_eq_true, decide_eq_true_eq] at hd
   unfold Learned learn
   have e : (⟨plusAll W.rows (W.se i).wri, W.ses.set i ⟨0, (W.se i).set, (W.se i).pre, [], []⟩⟩ : Wo).se i = (W.put i ⟨0, (W.se i).set, (W.se i).pre, [], []⟩).se i := rfl
   rw [failSe_ok _ okA_kind, e, se_put W hi, if_pos rfl, if_neg okA_kind, if_neg hk1, if_pos (by omega), if_neg (by unfold owOf; simp; omega)]
   rfl
  ·rename_i hd
   simp only [Bool.and_eq_true, decide_eq_true_eq, not_and] at hd
   unfold Learned learn
   have h2 : x.k = 3 ∨ (W.se i).st = 2 := by
    have := gs.st0
    have := gs.st2
    by_cases h3 : x.k = 3
    ·exact .inl h3
    ·right
     have := hd (by omega)
     omega
   rw [failSe_ok _ okA_kind, se_put W hi, if_pos rfl, if_neg okA_kind, if_neg hk1, if_pos (by omega), if_pos (show x.k = 3 ∨ (owOf (W.se i)).st = 2 from h2)]
   rfl
 rename_i hk
 split
 ·rename_i h4
  unfold resetW
  split
  ·unfold Learned learn
   rw [failSe_ok _ okA_kind, se_put W hi, if_pos rfl, if_neg okA_kind, if_neg (by omega), if_neg (by omega), if_pos h4]
   rfl
  ·exact learned_no _ _
 rename_i h4
 split
 ·rename_i h6
  unfold getW Learned learn
  rw [failSe_ok _ (foundA_kind _), if_neg (foundA_kind _), if_neg (by omega), if_neg (by omega), if_neg (by omega), if_neg (by omega), if_neg (by omega)]
  rfl
 split
 ·rename_i h7
  unfold readW Learned learn
  rw [failSe_ok _ (foundA_kind _), if_neg (foundA_kind _), if_neg (by omega), if_neg (by omega), if_neg (by omega), if_neg (by omega), if_neg (by omega)]
  rfl
 split
 ·rename_i h9
  unfold setW
  split
  ·exact learned_no _ _
  ·rename_i l hl
   unfold keepP at hl
   split at hl
   ·cases hl
   ·injection hl with hl
    unfold Learned learn
    rw [failSe_ok _ okA_kind, se_put W hi, if_pos rfl, if_neg okA_kind, if_neg (by omega), if_neg (by omega), if_neg (by omega), if_pos h9, ← hl]
    rfl
 split
 ·rename_i h10
  unfold putW
  split
  ·exact learned_no _ _
  split
  ·exact learned_no _ _
  split
  ·unfold Learned learn
   rw [failSe_ok _ okA_kind, se_put W hi, if_pos rfl, if_neg okA_kind, if_neg (by omega), if_neg (by omega), if_neg (by omega), if_neg (by omega), if_neg (by omega)]
   rfl
  ·unfold Learned learn
   rw [failSe_ok _ okA_kind, if_neg okA_kind, if_neg (by omega), if_neg (by omega), if_neg (by omega), if_neg (by omega), if_neg (by omega)]
   rfl
 split
 ·rename_i h11
  unfold prepW
  split
  ·exact learned_no _ _
  ·rename_i l hl
   unfold keepP at hl
   split at hl
   ·cases hl
   ·injection hl with hl
    unfold Learned learn
    rw [failSe_ok _ okA_kind, se_put W hi, if_pos rfl, if_neg okA_kind, if_neg (by omega), if_neg (by omega), if_neg (by omega), if_neg (by omega), if_pos h11, ← hl]
    rfl
 ·exact learned_no _ _
theorem learn_exec {o : Ow} {x y : St} (hx : x.k = 8) (hy : y.k = 6 ∨ y.k = 7 ∨ y.k = 10) (a : An) : learn o x a = learn o y a := by
 unfold learn
 split
 ·rfl
 ·rw [if_neg (by omega), if_neg (by omega), if_neg (by omega), if_neg (by omega), if_neg (by omega), if_neg (by omega), if_neg (by omega), if_neg (by omega), if_neg (by omega), if_neg (by omega)]
theorem doW_learn {W : Wo} (g : Good W) {i : Nat} (hi : i < W.ses.length) (x : St) : owOf ((doW W i x).1.se i) = learn (owOf (W.se i)) x (doW W i x).2 := by
 have l1 : i < (did W i x).1.ses.length := by rw [(did_mine W i x).1]; exact hi
 have h : Learned W i x (did W i x).1 (did W i x).2 := by
  unfold did
  split
  ·rename_i h8
   unfold execW
   split
   ·exact learned_no _ _
   ·split
    ·exact learned_no _ _
    ·rename_i t ht
     have := did1_learn g hi (readS t)
     unfold Learned at this ⊢
     rw [this]
     exact (learn_exec h8 ((g.se hi).preOk ht).2 _).symm
  ·exact did1_learn g hi x
 unfold doW
 rw [se_put _ l1, if_pos rfl]
 exact h
/-! binding a server: its session is made what the client has said -/
theorem poDo_good {w : Wo} (g : Good w) {s : Nat} (hs : s < w.ses.length) {x : St} (hx : checkE x = 0) : poDo w s x = doW w s x := by
 unfold poDo
 rw [if_pos]
 unfold doE
 rw [if_pos ((good_iff w).2 g), if_pos (by omega)]
 exact hx
structure Near (w : Wo) (s : Nat) (v : Wo) : Prop where
 mine : Mine w s v
 rows : v.rows = w.rows
 good : Good v
theorem Near.trans {w v u : Wo} {s : Nat} (h : Near w s v) (k : Near v s u) : Near w s u :=
 ⟨⟨k.mine.1.trans h.mine.1, fun j hj => (k.mine.2 j hj).trans (h.mine.2 j hj)⟩, k.rows.trans h.rows, k.good⟩
theorem Near.refl {w : Wo} (g : Good w) (s : Nat) : Near w s w := ⟨.refl w s, rfl, g⟩
theorem near_do {w : Wo} (g : Good w) {s : Nat} (hs : s < w.ses.length) {x : St} (hx : checkE x = 0) (h2 : x.k ≠ 2) (h10 : x.k ≠ 10) (h8 : x.k ≠ 8) : Near w s (doW w s x).1 :=
 ⟨doW_mine w s x, doW_rows w s x h2 h10 h8, doW_good g hs hx⟩
theorem do_reset {w : Wo} {s : Nat} (hs : s < w.ses.length) (h0 : (w.se s).st = 0) : (doW w s resetS).1.se s = ⟨0, [], [], (w.se s).sav, (w.se s).wri⟩ := by
 have e : did w s resetS = (w.put s ⟨0, [], [], (w.se s).sav, (w.se s).wri⟩, okA) := by
  unfold did did1 resetW
  rw [h0]
  rfl
 unfold doW
 rw [e]
 rw [se_put _ (by rw [put_length]; exact hs), if_pos rfl, failSe_ok _ okA_kind, se_put w hs, if_pos rfl]
theorem do_set {w : Wo} {s : Nat} (hs : s < w.ses.length) (h0 : (w.se s).st = 0) (k v : ByteArray) (hr : ¬ (hasK (w.se s).set k = false ∧ (w.se s).set.length = 6)) :
  (doW w s ⟨9, k, v⟩).1.se s = ⟨0, plusP (w.se s).set k v, (w.se s).pre, (w.se s).sav, (w.se s).wri⟩ := by
 have e : did w s ⟨9, k, v⟩ = (w.put s ⟨0, plusP (w.se s).set k v, (w.se s).pre, (w.se s).sav, (w.se s).wri⟩, okA) := by
  unfold did did1 setW keepP
  rw [h0, if_neg hr]
  rfl
 unfold doW
 rw [e]
 rw [se_put _ (by rw [put_length]; exact hs), if_pos rfl, failSe_ok _ okA_kind, se_put w hs, if_pos rfl]
theorem do_prep {w : Wo} {s : Nat} (hs : s < w.ses.length) (h0 : (w.se s).st = 0) (k v : ByteArray) (hr : ¬ (hasK (w.se s).pre k = false ∧ (w.se s).pre.length = 6)) :
  (doW w s ⟨11, k, v⟩).1.se s = ⟨0, (w.se s).set, plusP (w.se s).pre k v, (w.se s).sav, (w.se s).wri⟩ := by
 have e : did w s ⟨11, k, v⟩ = (w.put s ⟨0, (w.se s).set, plusP (w.se s).pre k v, (w.se s).sav, (w.se s).wri⟩, okA) := by
  unfold did did1 prepW keepP
  rw [h0, if_neg hr]
  rfl
 unfold doW
 rw [e]
 rw [se_put _ (by rw [put_length]; exact hs), if_pos rfl, failSe_ok _ okA_kind, se_put w hs, if_pos rfl]
theorem plus_end {l : List Pr} {p : Pr} {m : List Pr} (h : Sorted (l ++ p :: m)) : plusP l p.k p.v = l ++ [p] ∧ hasK l p.k = false := by
 have hlt : ∀ q ∈ l, ltS q.k p.k = true := fun q hq => (List.pairwise_append.1 h).2.2 q hq p List.mem_cons_self
 constructor
 ·clear h
  induction l with
  | nil => rfl
  | cons a l ih =>
   unfold plusP
   rw [if_pos (hlt a List.mem_cons_self), ih fun q hq => hlt q (List.mem_cons_of_mem _ hq)]
   rfl
 ·cases e : hasK l p.k with
  | false => rfl
  | true =>
   obtain ⟨q, hq, e2⟩ := List.mem_map.1 ((hasK_iff _ _).1 e)
   have := hlt q hq
   rw [e2, ltS_irrefl] at this
   cases this
theorem say_sets (s : Nat) : ∀ (l : List Pr) (w : Wo) (acc : List Pr), Good w → s < w.ses.length → (w.se s).st = 0 → (w.se s).set = acc → pairsB 9 6 (acc ++ l) = true →
  Near w s (sayAll w s 9 l) ∧ (sayAll w s 9 l).se s = ⟨0, acc ++ l, (w.se s).pre, (w.se s).sav, (w.se s).wri⟩
 | [], w, acc, g, hs, h0, ha, _ => by
  refine ⟨.refl g s, ?_⟩
  rw [List.append_nil, ← ha, ← h0]
  rfl
 | p :: l, w, acc, g, hs, h0, ha, hp => by
  obtain ⟨p1, p2, p3⟩ := (pairs_iff _ _ _).1 hp
  have hx : checkE ⟨9, p.k, p.v⟩ = 0 := p1 p (by simp)
  obtain ⟨e1, e2⟩ := plus_end p2
  have hr : ¬ (hasK (w.se s).set p.k = false ∧ (w.se s).set.length = 6) := by
   rw [ha]
   rw [List.length_append, List.length_cons] at p3
   omega
  have hd := do_set hs h0 p.k p.v hr
  rw [ha, e1] at hd
  have hn := near_do g hs hx (by simp) (by simp) (by simp)
  have ih := say_sets s l (doW w s ⟨9, p.k, p.v⟩).1 (acc ++ [p]) hn.good (by rw [hn.mine.1]; exact hs) (by rw [hd]) (by rw [hd]) (by rw [List.append_assoc]; exact hp)
  have e : sayAll w s 9 (p :: l) = sayAll (doW w s ⟨9, p.k, p.v⟩).1 s 9 l := by
   unfold sayAll
   rw [List.foldl_cons, poDo_good g hs hx]
  rw [e]
  refine ⟨hn.trans ih.1, ?_⟩
  rw [ih.2, hd]
  simp
theorem say_preps (s : Nat) : ∀ (l : List Pr) (w : Wo) (acc : List Pr), Good w → s < w.ses.length → (w.se s).st = 0 → (w.se s).pre = acc → pairsB 11 6 (acc ++ l) = true →
  Near w s (sayAll w s 11 l) ∧ (sayAll w s 11 l).se s = ⟨0, (w.se s).set, acc ++ l, (w.se s).sav, (w.se s).wri⟩
 | [], w, acc, g, hs, h0, ha, _ => by
  refine ⟨.refl g s, ?_⟩
  rw [List.append_nil, ← ha, ← h0]
  rfl
 | p :: l, w, acc, g, hs, h0, ha, hp => by
  obtain ⟨p1, p2, p3⟩ := (pairs_iff _ _ _).1 hp
  have hx : checkE ⟨11, p.k, p.v⟩ = 0 := p1 p (by simp)
  obtain ⟨e1, e2⟩ := plus_end p2
  have hr : ¬ (hasK (w.se s).pre p.k = false ∧ (w.se s).pre.length = 6) := by
   rw [ha]
   rw [List.length_append, List.length_cons] at p3
   omega
  have hd := do_prep hs h0 p.k p.v hr
  rw [ha, e1] at hd
  have hn := near_do g hs hx (by simp) (by simp) (by simp)
  have ih := say_preps s l (doW w s ⟨11, p.k, p.v⟩).1 (acc ++ [p]) hn.good (by rw [hn.mine.1]; exact hs) (by rw [hd]) (by rw [hd]) (by rw [List.append_assoc]; exact hp)
  have e : sayAll w s 11 (p :: l) = sayAll (doW w s ⟨11, p.k, p.v⟩).1 s 11 l := by
   unfold sayAll
   rw [List.foldl_cons, poDo_good g hs hx]
  rw [e]
  refine ⟨hn.trans ih.1, ?_⟩
  rw [ih.2, hd]
  simp
theorem bind_near {b : PB} {s i : Nat} (g : Good b.w) (hs : s < b.w.ses.length) (hi : b.w.se s = ⟨0, (b.kn s).set, (b.kn s).pre, [], []⟩) (h1 : pairsB 9 6 (b.ow i).set = true) (h2 : pairsB 11 6 (b.ow i).pre = true) :
  Near b.w s (bindW b s i) ∧ (bindW b s i).se s = ⟨0, (b.ow i).set, (b.ow i).pre, [], []⟩ := by
 unfold bindW
 split
 ·rename_i h
  refine ⟨.refl g s, ?_⟩
  rw [h.1, h.2]
  exact hi
 ·have hx : checkE resetS = 0 := by decide +kernel
  have h0 : (b.w.se s).st = 0 := by rw [hi]
  rw [poDo_good g hs hx]
  have hn := near_do g hs hx (by simp [resetS]) (by simp [resetS]) (by simp [resetS])
  have hd := do_reset hs h0
  rw [hi] at hd
  have k1 := say_sets s (b.ow i).set _ [] hn.good (by rw [hn.mine.1]; exact hs) (by rw [hd]) (by rw [hd]) h1
  have k2 := say_preps s (b.ow i).pre _ [] k1.1.good (by rw [k1.1.mine.1, hn.mine.1]; exact hs) (by rw [k1.2]) (by rw [k1.2, hd]) h2
  refine ⟨(hn.trans k1.1).trans k2.1, ?_⟩
  rw [k2.2, k1.2, hd]
  rfl
end Go.Proofs.YtjbnfigpflambacGreatDoor
