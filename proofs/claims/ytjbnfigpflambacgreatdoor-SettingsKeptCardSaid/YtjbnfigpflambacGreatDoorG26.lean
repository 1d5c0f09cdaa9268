/- Plain laws, no program: how much there is at most (bounds for what is appended). pool.put: pairs with one more, in memory of its own. (own).learn, at a client of the pool: its walk. -/
import Derived.Test.YtjbnfigpflambacGreatDoorG03
import Derived.Test.YtjbnfigpflambacGreatDoorG09
import Derived.Test.YtjbnfigpflambacGreatDoorG10
import Derived.Test.YtjbnfigpflambacGreatDoorG23
/- Plain laws, no program: how much there is at most (bounds for what is appended). -/
namespace Go.Proofs.YtjbnfigpflambacGreatDoor
theorem find_first {n : Nat} {p : Nat → Bool} {s : Nat} (h : (List.range n).find? p = some s) : s < n ∧ p s = true ∧ ∀ j, j < s → p j = false := by
 refine ⟨List.mem_range.1 (List.mem_of_find?_eq_some h), List.find?_some h, fun j hj => ?_⟩
 rw [List.find?_eq_some_iff_append] at h
 obtain ⟨_, l1, l2, e, hn⟩ := h
 have hl : l1.length = s := by
  have h1 : (List.range n)[l1.length]? = some s := by rw [e]; simp
  have h2 : l1.length < n := by
   have := congrArg List.length e
   simp at this
   omega
  rw [List.getElem?_range h2] at h1
  exact Option.some.inj h1
 have hm : j ∈ l1 := by
  have h1 : (List.range n)[j]? = some j := List.getElem?_range (by have := List.mem_range.1 (show s ∈ List.range n by rw [e]; simp); omega)
  rw [e, List.getElem?_append_left (by omega)] at h1
  exact List.mem_of_getElem? h1
 simpa using hn j hm
theorem find_here {n : Nat} {p : Nat → Bool} {s : Nat} (hs : s < n) (h : p s = true) (hn : ∀ j, j < s → p j = false) : (List.range n).find? p = some s := by
 cases e : (List.range n).find? p with
 | none =>
  have := List.find?_eq_none.1 e s (List.mem_range.2 hs)
  rw [h] at this
  simp at this
 | some t =>
  obtain ⟨h1, h2, h3⟩ := find_first e
  rcases Nat.lt_trichotomy s t with hl | rfl | hl
  ·have := h3 s hl; rw [h] at this; cases this
  ·rfl
  ·have := hn t hl; rw [h2] at this; cases this
theorem find_no {n : Nat} {p : Nat → Bool} (hn : ∀ j, j < n → p j = false) : (List.range n).find? p = none :=
 List.find?_eq_none.2 fun j hj => by rw [hn j (List.mem_range.1 hj)]; simp
theorem nodup_le {l : List Nat} (h : l.Nodup) {n : Nat} (hl : ∀ i ∈ l, i < n) : l.length ≤ n := by
 have := List.Nodup.length_le_of_subset h (l₂ := List.range n) (fun i hi => List.mem_range.2 (hl i hi))
 simpa using this
theorem FI.few {f : Fr} (h : FI f) : f.wait.length ≤ 6 := nodup_le h.once fun i hi => (h.wait i hi).1
theorem tellZ (k : Int) (t : ByteArray) (st : Int) : (tellS k t st).size ≤ 100 := by
 unfold tellS
 split
 ·rename_i h
  unfold fitA at h
  simp only [Bool.and_eq_true, decide_eq_true_eq] at h
  have h6 := h.2
  have h1 : (stB st).size ≤ 1 := by unfold stB; split <;> (try split) <;> decide
  have h2 : (bodyB k t).size ≤ 61 := by
   unfold bodyB
   split
   ·decide
   split
   ·rw [ByteArray.size_append]; have : (⟨#[61]⟩ : ByteArray).size = 1 := rfl; omega
   split
   ·decide
   ·rw [ByteArray.size_append]; have : (⟨#[33]⟩ : ByteArray).size = 1 := rfl; omega
  rw [ByteArray.size_append]
  omega
 ·decide
theorem tellMZ (a : An) : (tellM a).size ≤ 102 := by
 have h := tellZ a.kind a.text a.st
 unfold tellM packS
 rw [if_neg (by omega), msg_size]
 omega
theorem readZ (t : ByteArray) : (readS t).key.size ≤ t.size ∧ (readS t).val.size ≤ t.size := by
 unfold readS
 split
 ·exact ⟨part_size t 1, part_size t 2⟩
 ·exact ⟨Nat.zero_le _, Nat.zero_le _⟩
theorem textAt_size (s : ByteArray) : (textAt s).size ≤ 255 := by
 unfold textAt
 rw [ByteArray.size_extract]
 have : headN s ≤ 257 := by
  unfold headN
  have := (s.data.toList.getD 1 0).toNat_lt
  omega
 omega
def sumC (g : Cl → Nat) (f : Fr) : Nat := (f.cl.map g).sum
theorem sumC_set (g : Cl → Nat) (f f' : Fr) {i : Nat} (hi : i < f.cl.length) (x : Cl) (e : f'.cl = f.cl.set i x) : sumC g f' + g (f.c i) = sumC g f + g x := by
 unfold sumC
 rw [e, List.map_set]
 have := sum_set (f.cl.map g) i (by simpa using hi) (g x)
 rw [List.getElem_map] at this
 rw [c_at hi]
 exact this
theorem c_setcl {f f' : Fr} {i : Nat} (hi : i < f.cl.length) {x : Cl} (e : f'.cl = f.cl.set i x) (j : Nat) : f'.c j = if j = i then x else f.c j := by
 have : f'.c j = (f.set i x).c j := by unfold Fr.c Fr.set; rw [e]
 rw [this, c_set f hi]
def pN (x : Cl) : Nat := x.pend.length + x.bytes.size
def sN (x : Cl) : Nat := x.sent.size
def Small (x : Cl) : Prop := ∀ p ∈ x.pend, p.1.key.size ≤ 255 ∧ p.1.val.size ≤ 255
structure Fit (f : Fr) (N : Nat) : Prop where
 n : f.deeds.length + sumC pN f ≤ N
 s : sumC sN f + 300 * sumC pN f ≤ 300 * N
 z : ∀ c, Small (f.c c)
theorem sum_ge (l : List Nat) {i : Nat} (h : i < l.length) : l[i] ≤ l.sum := by
 have := sum_set l i h 0
 omega
theorem sumC_ge (g : Cl → Nat) (f : Fr) {i : Nat} (hi : i < f.cl.length) : g (f.c i) ≤ sumC g f := by
 have := sum_ge (f.cl.map g) (i := i) (by simpa using hi)
 rw [List.getElem_map] at this
 rw [c_at hi]
 exact this
theorem Fit.sent {f : Fr} {N : Nat} (h : Fit f N) {i : Nat} (hi : i < f.cl.length) : (f.c i).sent.size ≤ 300 * N := by
 have h1 := sumC_ge sN f hi
 have h2 := h.s
 have h3 : sN (f.c i) = (f.c i).sent.size := rfl
 omega
theorem Fit.bytes {f : Fr} {N : Nat} (h : Fit f N) {i : Nat} (hi : i < f.cl.length) : (f.c i).pend.length + (f.c i).bytes.size ≤ N := by
 have h1 := sumC_ge pN f hi
 have h2 := h.n
 have h3 : pN (f.c i) = (f.c i).pend.length + (f.c i).bytes.size := rfl
 omega
theorem Fit.deeds {f : Fr} {N : Nat} (h : Fit f N) : f.deeds.length ≤ N := by
 have h2 := h.n
 omega
theorem Fit.turn {f f' : Fr} {N : Nat} (h : Fit f N) {i : Nat} (hi : i < f.cl.length) (x : Cl) (e : f'.cl = f.cl.set i x) (d : Nat) (ed : f'.deeds.length = f.deeds.length + d) (k : Nat)
  (h1 : d + pN x ≤ pN (f.c i) + k) (h2 : sN x + 300 * pN x ≤ sN (f.c i) + 300 * (pN (f.c i) + k)) (hz : Small x) : Fit f' (N + k) := by
 have e1 := sumC_set pN f f' hi x e
 have e2 := sumC_set sN f f' hi x e
 have h3 := h.n
 have h4 := h.s
 refine ⟨by omega, by omega, fun c => ?_⟩
 rw [c_setcl hi e]
 split
 ·exact hz
 ·exact h.z c
theorem Fit.same {f f' : Fr} {N : Nat} (h : Fit f N) (e : f'.cl = f.cl) (ed : f'.deeds = f.deeds) : Fit f' N := by
 have e1 : ∀ g, sumC g f' = sumC g f := fun g => by unfold sumC; rw [e]
 refine ⟨by rw [e1, ed]; exact h.n, by rw [e1, e1]; exact h.s, fun c => ?_⟩
 have : f'.c c = f.c c := by unfold Fr.c; rw [e]
 rw [this]
 exact h.z c
theorem small_tail {x : Cl} (h : Small x) {y : Cl} (e : y.pend = x.pend.tail) : Small y := fun p hp => h p (by rw [e] at hp; exact List.mem_of_mem_tail hp)
theorem small_same {x : Cl} (h : Small x) {y : Cl} (e : y.pend = x.pend) : Small y := fun p hp => h p (by rw [e] at hp; exact hp)
theorem Fit.more {f : Fr} {N M : Nat} (h : Fit f N) (hm : N ≤ M) : Fit f M := by
 have h1 := h.n
 have h2 := h.s
 exact ⟨by omega, by omega, h.z⟩
theorem Fit.told {f : Fr} {N : Nat} (h : Fit f N) {i : Nat} (hb : busy f i = true) (D : List De) (hD : D.length ≤ 1) (a : An) (f' : Fr) (e : f'.cl = f.cl.set i ⟨(f.c i).bytes, (f.c i).pend.tail, (f.c i).srv, (f.c i).sent ++ tellM a⟩) (ed : f'.deeds = f.deeds ++ D) : Fit f' N := by
 have hi := busy_lt hb
 have hl : (f.c i).pend.length ≠ 0 := by
  unfold busy at hb
  intro h0
  rw [List.length_eq_zero_iff] at h0
  rw [h0] at hb
  simp at hb
 have hz := tellMZ a
 refine h.turn hi _ e D.length (by rw [ed, List.length_append]) 0 ?_ ?_ (small_tail (h.z i) rfl)
 ·unfold pN
  simp only [List.length_tail]
  omega
 ·unfold pN sN
  simp only [List.length_tail, ByteArray.size_append]
  omega
theorem set_set_cl (f : Fr) (i : Nat) (x y : Cl) : ((f.set i x).set i y).cl = f.cl.set i y := by
 unfold Fr.set
 simp
theorem c_same (f : Fr) {i : Nat} (hi : i < f.cl.length) (x : Cl) : (f.set i x).c i = x := by rw [c_set f hi, if_pos rfl]
theorem told_cl {f : Fr} {i : Nat} (hi : i < f.cl.length) (a : An) : ((f.drop i).tell i a).cl = f.cl.set i ⟨(f.c i).bytes, (f.c i).pend.tail, (f.c i).srv, (f.c i).sent ++ tellM a⟩ := by
 unfold Fr.tell Fr.drop
 rw [set_set_cl, c_same f hi]
 rfl
theorem done_cl {f : Fr} {i : Nat} (hi : i < f.cl.length) (x : St) (a : An) : (doneF f i x a).cl = f.cl.set i ⟨(f.c i).bytes, (f.c i).pend.tail, (f.c i).srv, (f.c i).sent ++ tellM a⟩ := told_cl hi a
theorem Fit.free {f : Fr} {N : Nat} (h : Fit f N) {i : Nat} (hi : i < f.cl.length) : Fit (f.freeS i) N :=
 h.turn (f' := f.freeS i) hi ⟨(f.c i).bytes, (f.c i).pend, -1, (f.c i).sent⟩ rfl 0 rfl 0 (by unfold pN; simp) (by unfold pN sN; simp) (small_same (h.z i) rfl)
theorem Fit.bind {f : Fr} {N : Nat} (h : Fit f N) (s : Nat) {i : Nat} (hi : i < f.cl.length) : Fit (f.bindS s i) N :=
 h.turn (f' := f.bindS s i) hi ⟨(f.c i).bytes, (f.c i).pend, (s : Int), (f.c i).sent⟩ rfl 0 rfl 0 (by unfold pN; simp) (by unfold pN sN; simp) (small_same (h.z i) rfl)
section
variable {β : Type} (B : Bh β)
theorem Fit.next {z : Fr × β} {N : Nat} (h : Fit z.1 N) {i : Nat} (hb : busy z.1 i = true) : Fit (nextM B z i).1 N := by
 have hi := busy_lt hb
 unfold nextM
 split
 ·exact h
 ·rename_i x bad l e
  split
  ·exact h.told hb [] (by simp) _ _ (told_cl hi _) (by simp [Fr.tell, Fr.drop, Fr.set])
  split
  ·exact h.told hb [] (by simp) _ _ (told_cl hi _) (by simp [Fr.tell, Fr.drop, Fr.set])
  ·have h1 : ∀ a : An, Fit (((z.1.drop i).deed ⟨i, x, a⟩).tell i a) N := fun a => h.told hb [⟨i, x, a⟩] (by simp) a _ (told_cl hi _) (by simp [Fr.tell, Fr.drop, Fr.set, Fr.deed])
   simp only
   split
   ·refine (h1 _).free ?_
    rw [len_tell]
    show i < (z.1.drop i).cl.length
    rw [len_drop]
    exact hi
   ·exact h1 _
theorem Fit.step {z : Fr × β} {N : Nat} (h : Fit z.1 N) : Fit (stepM B z).1.1 N := by
 unfold stepM
 split
 ·rename_i i hp
  exact Fit.next B h (ready_busy (pick_ready hp).1)
 ·have hq : Fit (queueF z.1) N := h.same rfl rfl
  split
  ·rename_i i l s hw hs
   by_cases hi : i < z.1.cl.length
   ·exact (hq.same (f' := (queueF z.1).unwait) rfl rfl).bind s hi
   ·refine hq.same ?_ rfl
    show ((queueF z.1).unwait.bindS s i).cl = _
    unfold Fr.bindS Fr.unwait queueF
    simp only
    rw [List.set_eq_of_length_le (by omega)]
  ·exact hq
theorem Fit.pump {z : Fr × β} {N : Nat} (h : Fit z.1 N) : Fit (pumpM B z).1 N :=
 pump_keeps B (fun z => Fit z.1 N) (fun _ hz => Fit.step B hz) _ z (Nat.le_refl _) h
theorem Fit.close {z : Fr × β} {N : Nat} (h : Fit z.1 N) {i : Nat} (hi : i < z.1.cl.length) : Fit (closeM B z i).1 N :=
 h.turn (f' := (closeM B z i).1) hi ⟨⟨#[]⟩, [], -1, (z.1.c i).sent⟩ rfl 0 rfl 0 (by unfold pN; simp; exact Nat.zero_le _) (by unfold pN sN; simp; have : (⟨#[]⟩ : ByteArray).size = 0 := rfl; omega) (fun p hp => by cases hp)
end
theorem feed_fit (x : Cl) : pN (feedC x).1 ≤ pN x ∧ (feedC x).1.sent = x.sent ∧ (Small x → Small (feedC x).1) := by
 induction hn : x.bytes.size using Nat.strongRecOn generalizing x with
 | ind n ih =>
  rw [feedC]
  split
  ·rename_i hw
   have hr := rest_le _ hw
   split
   ·refine ⟨?_, rfl, fun hs => small_same hs rfl⟩
    unfold pN
    simp only
    omega
   ·obtain ⟨h1, h2, h3⟩ := ih _ (by rw [← hn]; exact rest_lt hw) ⟨restAt x.bytes, x.pend ++ [askedOf x.bytes], x.srv, x.sent⟩ rfl
    refine ⟨Nat.le_trans h1 ?_, h2, fun hs => h3 fun p hp => ?_⟩
    ·unfold pN
     simp only [List.length_append, List.length_singleton]
     omega
    ·rcases List.mem_append.1 hp with hp | hp
     ·exact hs p hp
     ·rw [List.mem_singleton] at hp
      subst hp
      have h4 := readZ (textAt x.bytes)
      have h5 := textAt_size x.bytes
      exact ⟨Nat.le_trans h4.1 h5, Nat.le_trans h4.2 h5⟩
  ·exact ⟨Nat.le_refl _, rfl, id⟩
theorem Fit.feed {f : Fr} {N : Nat} (h : Fit f N) {i : Nat} (hi : i < f.cl.length) (data : ByteArray) : Fit (f.set i (pourC (f.c i) data).1) (N + data.size) := by
 obtain ⟨h1, h2, h3⟩ := feed_fit ⟨(f.c i).bytes ++ data, (f.c i).pend, (f.c i).srv, (f.c i).sent⟩
 have e : pN ⟨(f.c i).bytes ++ data, (f.c i).pend, (f.c i).srv, (f.c i).sent⟩ = pN (f.c i) + data.size := by
  unfold pN
  simp only [ByteArray.size_append]
  omega
 rw [e] at h1
 have e2 : sN (pourC (f.c i) data).1 = sN (f.c i) := by unfold sN pourC; rw [h2]
 have h1 : pN (pourC (f.c i) data).1 ≤ pN (f.c i) + data.size := h1
 exact h.turn (f' := f.set i (pourC (f.c i) data).1) hi (pourC (f.c i) data).1 rfl 0 rfl data.size (by omega) (by omega) (h3 (small_same (h.z i) rfl))
theorem Fit.start (mode : Int) (n : Nat) : Fit (startF mode n) 0 := by
 have e : ∀ g : Cl → Nat, sumC g (startF mode n) = ((List.replicate 6 Cl.new).map g).sum := fun _ => rfl
 refine ⟨by rw [e]; show 0 + _ ≤ _; decide, by rw [e, e]; decide, fun c => ?_⟩
 have : (startF mode n).c c = Cl.new := by
  show (List.replicate 6 Cl.new).getD c Cl.new = _
  rw [List.getD_eq_getElem?_getD, List.getElem?_replicate]
  split <;> rfl
 rw [this]
 exact fun p hp => by cases hp
structure Ok (z : Fr × PB) (N : Nat) : Prop where
 sim : ∃ y, Sim z y
 fit : Fit z.1 N
section
variable {z : Fr × PB} {N : Nat}
theorem Ok.fi (h : Ok z N) : FI z.1 := by obtain ⟨⟨y, s⟩, _⟩ := h; exact s.fi
theorem Ok.rb (h : Ok z N) : ∃ w, RB z.1.owner (svs z.1) z.2 w := by obtain ⟨⟨y, s⟩, _⟩ := h; exact ⟨_, s.rb⟩
theorem Ok.len (h : Ok z N) {i : Nat} (hi : i < 6) : i < z.1.cl.length := by rw [h.fi.six]; exact hi
theorem Ok.next (h : Ok z N) {i : Nat} (hi : i < 6) (hr : ready z.1 i = true) : Ok (nextM poolB z i) N := by
 obtain ⟨⟨y, s⟩, ft⟩ := h
 refine ⟨⟨nextM houseB (z.1, y.2) i, ?_⟩, Fit.next poolB ft (ready_busy hr)⟩
 exact next_sim s.fi s.rb hi hr
theorem Ok.step (h : Ok z N) : Ok (stepM poolB z).1 N := by
 obtain ⟨⟨y, s⟩, ft⟩ := h
 exact ⟨⟨_, (step_sim s).1⟩, Fit.step poolB ft⟩
theorem Ok.pump (h : Ok z N) : Ok (pumpM poolB z) N := by
 obtain ⟨⟨y, s⟩, ft⟩ := h
 exact ⟨⟨_, s.pump⟩, Fit.pump poolB ft⟩
theorem Ok.close (h : Ok z N) {i : Nat} (hi : i < 6) : Ok (closeM poolB z i) N := by
 have hl := h.len hi
 obtain ⟨⟨y, s⟩, ft⟩ := h
 exact ⟨⟨_, s.close hi⟩, Fit.close poolB ft hl⟩
theorem Ok.pour (h : Ok z N) {i : Nat} (hi : i < 6) (data : ByteArray) : Ok (z.1.set i (pourC (z.1.c i) data).1, z.2) (N + data.size) := by
 have hl := h.len hi
 obtain ⟨⟨y, s⟩, ft⟩ := h
 exact ⟨⟨_, s.pour hi data⟩, ft.feed hl data⟩
theorem Ok.deliver (h : Ok z N) {i : Nat} (hi : i < 6) (data : ByteArray) : Ok (deliverM poolB z i data) (N + data.size) := by
 unfold deliverM
 simp only
 split
 ·exact ((h.pour hi data).pump.close hi).pump
 ·exact (h.pour hi data).pump
theorem Ok.act (h : Ok z N) {a : Ac} (ha : a.c.toNat < 6) : Ok (actM poolB z a) (N + a.data.size) := by
 unfold actM
 split
 ·have := (h.close ha).pump
  exact ⟨this.sim, this.fit.more (by omega)⟩
 ·exact h.deliver ha _
theorem Ok.start (mode : Int) (n : Nat) (hn : n ≤ 8) : Ok (startF mode n, startP n) 0 := ⟨⟨_, start_sim mode n hn⟩, Fit.start mode n⟩
end
end Go.Proofs.YtjbnfigpflambacGreatDoor
/- pool.put: pairs with one more, in memory of its own. -/
namespace Go.Proofs.YtjbnfigpflambacGreatDoor
open Go.ChangeShapes Go.WideShapes Go.ChangeAt Go.RowKit
theorem pcmp_any (a b key : ByteArray) (w : World) :
  Calls Tryz.prog 126 #[.agg #[.string a, .string b], .string key] w fun e w' => e = .returned (.int .i64 (cmpS a key)) ∧ Below w.heap.size w w' := by
 go_enter Tryz.func126, Tryz.ntmps126
 go_wp2_with fail
 refine (Tryz.strings_Compare a key _).mono ?_
 rintro e w' ⟨rfl, rfl⟩
 go_wp2_with fail
 go_ret
 exact ⟨rfl, boxed _ _⟩
set_option maxHeartbeats 4000000 in
set_option maxRecDepth 100000 in
theorem psearch_any (w : World) (v : Value) (l : List Pr) (key : ByteArray) (h : PL w w.heap.size v l) :
  Calls Tryz.prog 125 #[v, .string key, .func (.func 126) #[] #[]] w fun e w' => ∃ i b, e = .returned (.tuple #[.int .i64 (i : Nat), .bool b]) ∧ Found l key i b ∧ Below w.heap.size w w' := by
 obtain ⟨A, c, rfl, hc, hr, hf⟩ := h
 have hl : l.length ≤ 4398046510976 := hf.1
 have HR := Lib.hid hr
 obtain ⟨n, hN⟩ : ∃ n, l.length = n := ⟨_, rfl⟩
 rw [hN] at hl ⊢
 have HN := Lib.hid hN
 clear hr hf hc hN
 go_enter Tryz.func125, Tryz.ntmps125
 go_wp2_with fail
 go_loopw [9, 10] (fun a b wx => ∃ lo hi : Nat, a = .int .i64 lo ∧ b = .int .i64 hi ∧ Ends l key lo hi ∧ Below w.heap.size w wx) (fun a b _ => (intOf b).toNat - (intOf a).toNat)
 case atStart => exact ⟨0, n, rfl, rfl, ⟨Nat.zero_le _, by rw [HN.out]; exact Nat.le_refl _, fun _ => ⟨Nat.zero_le _, by rw [← HN.out]; exact pos_le _ _⟩⟩, Below.refl _ _⟩
 case round =>
  obtain ⟨lo, hi, rfl, rfl, hE, hb⟩ := hrel
  have h1 := hE.le
  have h2 : hi ≤ n := by rw [← HN.out]; exact hE.len
  by_cases hlt : lo < hi
  ·have hm : (lo + hi) / 2 < l.length := by rw [HN.out]; omega
   obtain ⟨ad, hA, -, c1, c2⟩ := pair_at (HR.out.below hb) hm
   subst hA
   obtain ⟨p, hp⟩ : ∃ p, l[(lo + hi) / 2] = p := ⟨_, rfl⟩
   rw [hp] at c1 c2
   have HE := Lib.hid hE
   have HB := Lib.hid hb
   have g1 : (0 : Int) ≤ ((lo : Int) + (hi : Int)) / 2 := by omega
   have g2 : ((lo : Int) + (hi : Int)) / 2 < (n : Int) := by omega
   have hcm := cmpS_neg p.k key
   have hcall := fun w => pcmp_any p.k p.v key w
   obtain ⟨z, hz⟩ : ∃ z, cmpS p.k key = z := ⟨_, rfl⟩
   rw [hz] at hcm hcall
   have HC := Lib.hid hcall
   have HP := Lib.hid hp
   cases hless : ltS p.k key with
   | true =>
    rw [hless] at hcm
    have hn : z < 0 := by simpa using hcm
    have HL := Lib.hid hless
    clear hcm hz hcall hless hp hE hb
    go_wp2_with fail
    refine (HC.out _).mono ?_
    rintro e w1 ⟨rfl, b1⟩
    have B1 := Lib.hid (below_step HB.out (Nat.le_refl _) b1)
    clear b1
    go_wp2_with fail
    go_roundw
    case rel => exact ⟨(lo + hi) / 2 + 1, hi, by go_num, rfl, HE.out.right (by omega) (by omega) hm (by rw [HP.out]; exact HL.out), B1.out⟩
    case measure => simp [intOf]; omega
   | false =>
    rw [hless] at hcm
    have hn : 0 ≤ z := by simpa using hcm
    have HL := Lib.hid hless
    clear hcm hz hcall hless hp hE hb
    go_wp2_with fail
    refine (HC.out _).mono ?_
    rintro e w1 ⟨rfl, b1⟩
    have B1 := Lib.hid (below_step HB.out (Nat.le_refl _) b1)
    clear b1
    go_wp2_with fail
    go_roundw
    case rel => exact ⟨lo, (lo + hi) / 2, rfl, by go_num, HE.out.left (by omega) (by omega) hm (by rw [HP.out]; exact HL.out), B1.out⟩
    case measure => simp [intOf]; omega
  ·obtain rfl : hi = lo := by omega
   have HE := Lib.hid hE
   have HB := Lib.hid hb
   by_cases hin : hi < n
   ·have hm : hi < l.length := by rw [HN.out]; exact hin
    obtain ⟨ad, hA, -, c1, c2⟩ := pair_at (HR.out.below hb) hm
    subst hA
    obtain ⟨p, hp⟩ : ∃ p, l[hi] = p := ⟨_, rfl⟩
    rw [hp] at c1 c2
    have hcm := cmpS_zero p.k key
    have hcall := fun w => pcmp_any p.k p.v key w
    obtain ⟨z, hz⟩ : ∃ z, cmpS p.k key = z := ⟨_, rfl⟩
    rw [hz] at hcm hcall
    obtain ⟨b, hbb⟩ : ∃ b, decide (p.k = key) = b := ⟨_, rfl⟩
    rw [hbb] at hcm
    have HC := Lib.hid hcall
    have hfound := hE.found hm
    rw [hp, hbb] at hfound
    have HF := Lib.hid hfound
    have g1 : (0 : Int) ≤ (hi : Int) := by omega
    have g2 : (hi : Int) < (n : Int) := by omega
    clear hz hcall hp hE hb hbb hfound
    go_wp2_with fail
    refine (HC.out _).mono ?_
    rintro e w1 ⟨rfl, b1⟩
    have B1 := Lib.hid (below_step HB.out (Nat.le_refl _) b1)
    clear b1
    go_wp2_with fail
    go_ret2
    exact ⟨hi, b, rfl, HF.out, B1.out⟩
   ·have hm : ¬ hi < l.length := by rw [HN.out]; exact hin
    have HF := Lib.hid (hE.missed hm)
    clear hE hb hm
    go_wp2_with fail
    go_ret2
    exact ⟨hi, false, rfl, HF.out, HB.out⟩
set_option maxHeartbeats 1000000 in
set_option maxRecDepth 100000 in
theorem pput_any (w : World) (v : Value) (l : List Pr) (k u : ByteArray) (h : PL w w.heap.size v l) (hs : Sorted l) (hl : l.length < 4398046510976) (hk : k.size ≤ maxLen) (hu : u.size ≤ maxLen) :
  Calls Tryz.prog 102 #[v, .string k, .string u] w fun e w' => ∃ v', e = .returned v' ∧ OPL w' w.heap.size v' (plusP l k u) ∧ Below w.heap.size w w' := by
 have H := Lib.hid h
 have HS := Lib.hid hs
 have HU := Lib.hid hu
 have HK := Lib.hid hk
 clear h hs hu hk
 go_enter Tryz.func102, Tryz.ntmps102
 go_wp2_with fail
 refine (clone_own _ w.heap.size v l H.out (Nat.le_refl _)).mono ?_
 rintro e w1 ⟨v1, rfl, ho1, hb1⟩
 have HO1 := Lib.hid ho1
 have HB1 := Lib.hid hb1
 clear ho1 hb1
 go_wp2_with fail
 refine (psearch_any _ _ l k HO1.out.pl).mono ?_
 rintro e w2 ⟨i, b, rfl, hf, hb2⟩
 have HO2 := Lib.hid (HO1.out.keeps (.of_below hb2))
 have HB2 := Lib.hid (below_step HB1.out (Nat.le_refl _) hb2)
 have HF := Lib.hid hf
 clear hf hb2
 cases b with
 | true =>
  obtain ⟨hi, hik⟩ := HF.out.here rfl
  have h0 := HO2.out.own.2
  rcases h0 with ⟨_, h0⟩ | ⟨g, cap, cur, rfl, hBg, hg, hn, hm, hcs, hx⟩
  ·omega
  have hc := (cell_of_row w2 g (i * 2 + 1) cur 60 (0, 0) hg).trans (Array.getElem?_eq_getElem (by omega))
  have hfz : ∀ j, w2.frozen? ⟨g, j, none⟩ = false := fun j => Blk.frozen (t := 60) (cs := cur) hg j
  obtain ⟨x, hx0⟩ : ∃ x, cur[i * 2 + 1] = x := ⟨_, rfl⟩
  rw [hx0] at hc
  have e1 : l.set i ⟨l[i].k, u⟩ = plusP l k u := by
   obtain ⟨e1, e2⟩ := HF.out.sorted HS.out
   subst e1
   rw [plus_there HS.out k u hi hik, hik]
  have HFIN := Lib.hid (show OPL (w2.setCell ⟨g, i * 2 + 1, none⟩ (.string u)) w.heap.size (.slice (some ⟨g, 0, none⟩) l.length cap) (plusP l k u) by rw [← e1]; exact own_set HO2.out rfl hi HU.out)
  have HBF := Lib.hid (HB2.out.setCell (p := ⟨g, i * 2 + 1, none⟩) hBg (.string u))
  have g1 : (i : Int) < (l.length : Int) := by omega
  have g2 : (0 : Int) ≤ (i : Int) := by omega
  clear e1 hx0 hx hcs hn hg hik hm
  go_wp2_with fail
  go_ret
  exact ⟨_, rfl, HFIN.out, HBF.out⟩
 | false =>
  obtain ⟨A, cap, rfl⟩ := HO2.out.form
  have hi := HF.out.le
  have e1 : insP l i ⟨k, u⟩ = plusP l k u := by
   obtain ⟨e1, e2⟩ := HF.out.sorted HS.out
   subst e1
   rw [plus_new HS.out k u e2.symm]
   rfl
  have HE := Lib.hid e1
  clear e1
  go_wp2_with fail
  refine (insert_any _ w.heap.size _ l i _ _ ⟨k, u⟩ (HO2.out.keeps (.alloc _ _)) hl ⟨HK.out, HU.out⟩ hi (Nat.le_trans HB2.out.size (by simp)) (Blk.new _ _ _) ?_).mono ?_
  ·intro e
   have := (HO2.out.own.lt _ e).2
   omega
  rintro e w3 ⟨v3, rfl, ho3, hb3⟩
  rw [HE.out] at ho3
  have HO3 := Lib.hid ho3
  have HB3 := Lib.hid ((HB2.out.alloc HB2.out.size _).trans hb3)
  clear ho3 hb3
  go_wp2_with fail
  go_ret
  exact ⟨_, rfl, HO3.out, HB3.out⟩
end Go.Proofs.YtjbnfigpflambacGreatDoor
/- (own).learn, at a client of the pool: its walk. -/
namespace Go.Proofs.YtjbnfigpflambacGreatDoor
open Go.ChangeShapes Go.WideShapes Go.ChangeAt Go.RowKit
structure OwV (w : World) (p o : Nat) (A1 : Option Addr) (n1 k1 : Nat) (A2 : Option Addr) (n2 k2 : Nat) (A3 : Option Addr) (n3 k3 : Nat) (st : Int) : Prop where
 x4 : w.cell? ⟨p, o, none⟩ = some (.slice A1 n1 k1)
 x5 : w.cell? ⟨p, o + 1, none⟩ = some (.slice A2 n2 k2)
 x6 : w.cell? ⟨p, o + 2, none⟩ = some (.slice A3 n3 k3)
 x7 : w.cell? ⟨p, o + 3, none⟩ = some (.int .i64 st)
 fp : ∀ j, w.frozen? ⟨p, j, none⟩ = false
theorem PoolR.owv {w : World} {B p : Nat} {V : PV} {ks : List KV} {M : MV} (h : PoolR w B p V ks M) {c : Nat} (hc : c < 6) : ∃ A1 k1 A2 k2 A3 k3, V.set c = .slice A1 (M.ow c).set.length k1 ∧ V.pre c = .slice A2 (M.ow c).pre.length k2 ∧ V.sav c = .slice A3 (M.ow c).sav.length k3 ∧
  OwV w p (6 + c * 10 + 4) A1 (M.ow c).set.length k1 A2 (M.ow c).pre.length k2 A3 (M.ow c).sav.length k3 (M.ow c).st := by
 obtain ⟨A1, k1, e1⟩ := (h.o.ow c hc).set.form
 obtain ⟨A2, k2, e2⟩ := (h.o.ow c hc).pre.form
 obtain ⟨A3, k3, e3⟩ := (h.o.ow c hc).sav.form
 refine ⟨A1, k1, A2, k2, A3, k3, e1, e2, e3, ?_, ?_, ?_, ?_, h.b.frozen⟩
 ·rw [← e1]; exact h.b.cellC (k := 4) hc (by decide)
 ·rw [← e2]; exact h.b.cellC (k := 5) hc (by decide)
 ·rw [← e3]; exact h.b.cellC (k := 6) hc (by decide)
 ·exact h.b.cellC (k := 7) hc (by decide)
def MV.setOw (M : MV) (c : Nat) (o : Ow) : MV := { M with ow := up M.ow c o }
theorem up_up {α : Type} (f : Nat → α) (c : Nat) (x y : α) : up (up f c x) c y = up f c y := by
 funext i
 unfold up
 split <;> rfl
theorem Done.trans {w w1 w' : World} {B p : Nat} {V V1 : PV} {ks1 : List KV} {M1 M : MV} (h : PoolR w1 B p V1 ks1 M1 ∧ Turn p w V w1 V1) (k : Done w1 B p V1 M w') : Done w B p V M w' := by
 obtain ⟨V', ks', r, t⟩ := k
 exact ⟨V', ks', r, h.2.trans t⟩
theorem PoolR.done {w w' : World} {B p : Nat} {V V' : PV} {ks' : List KV} {M : MV} (h : PoolR w' B p V' ks' M) (t : Turn p w V w' V') : Done w B p V M w' := ⟨V', ks', h, t⟩
section
variable {w : World} {B p : Nat} {V : PV} {ks : List KV} {M : MV}
theorem PoolR.put_set' (h : PoolR w B p V ks M) {c : Nat} (hc : c < 6) {v : Value} {l : List Pr} (ho : OPL w B v l) : ∃ V', PoolR (w.setCell ⟨p, 6 + c * 10 + 4, none⟩ v) B p V' ks (M.setOw c ⟨l, (M.ow c).pre, (M.ow c).sav, (M.ow c).st⟩) ∧ Turn p w V (w.setCell ⟨p, 6 + c * 10 + 4, none⟩ v) V' := ⟨_, (h.put_set hc ho).1, (h.put_set hc ho).2⟩
theorem PoolR.put_pre' (h : PoolR w B p V ks M) {c : Nat} (hc : c < 6) {v : Value} {l : List Pr} (ho : OPL w B v l) : ∃ V', PoolR (w.setCell ⟨p, 6 + c * 10 + 4 + 1, none⟩ v) B p V' ks (M.setOw c ⟨(M.ow c).set, l, (M.ow c).sav, (M.ow c).st⟩) ∧ Turn p w V (w.setCell ⟨p, 6 + c * 10 + 4 + 1, none⟩ v) V' := ⟨_, (h.put_pre hc ho).1, (h.put_pre hc ho).2⟩
theorem PoolR.put_sav' (h : PoolR w B p V ks M) {c : Nat} (hc : c < 6) {v : Value} {l : List Pr} (ho : OPL w B v l) : ∃ V', PoolR (w.setCell ⟨p, 6 + c * 10 + 4 + 2, none⟩ v) B p V' ks (M.setOw c ⟨(M.ow c).set, (M.ow c).pre, l, (M.ow c).st⟩) ∧ Turn p w V (w.setCell ⟨p, 6 + c * 10 + 4 + 2, none⟩ v) V' := ⟨_, (h.put_sav hc ho).1, (h.put_sav hc ho).2⟩
theorem PoolR.put_st' (h : PoolR w B p V ks M) {c : Nat} (hc : c < 6) (x : Int) : PoolR (w.setCell ⟨p, 6 + c * 10 + 4 + 3, none⟩ (.int .i64 x)) B p V ks (M.setOw c ⟨(M.ow c).set, (M.ow c).pre, (M.ow c).sav, x⟩) ∧ Turn p w V (w.setCell ⟨p, 6 + c * 10 + 4 + 3, none⟩ (.int .i64 x)) V := h.put_st hc x
end
set_option maxHeartbeats 4000000 in
set_option maxRecDepth 100000 in
theorem learn_any (w : World) (B p : Nat) (V : PV) (ks : List KV) (M : MV) (h : PoolR w B p V ks M) (c : Nat) (hc : c < 6) (x : St) (a : An) (hx : x.key.size ≤ maxLen ∧ x.val.size ≤ maxLen) (hs : Sorted (M.ow c).set ∧ Sorted (M.ow c).pre) (hl : (M.ow c).set.length < 4398046510976 ∧ (M.ow c).pre.length < 4398046510976) :
  Calls Tryz.prog 69 #[.pointer (some ⟨p, 6 + c * 10 + 4, none⟩), .agg #[.int .i64 x.k, .string x.key, .string x.val], .agg #[.int .i64 a.kind, .string a.text, .int .i64 a.st]] w
   fun e w' => e = .returned (.tuple #[]) ∧ Done w B p V (M.setOw c (learn (M.ow c) x a)) w' := by
 obtain ⟨K, key, val⟩ := x
 obtain ⟨AK, AT, AS⟩ := a
 obtain ⟨z, hz⟩ : ∃ z, learn (M.ow c) ⟨K, key, val⟩ ⟨AK, AT, AS⟩ = z := ⟨_, rfl⟩
 rw [hz]
 have HZ := Lib.hid hz
 have HX := Lib.hid hx
 have HS := Lib.hid hs
 have HL := Lib.hid hl
 have HC := Lib.hid hc
 have HR := Lib.hid h
 obtain ⟨q, hq⟩ : ∃ q, w.heap.size = q := ⟨_, rfl⟩
 have HQ := Lib.hid hq
 have hp := h.b.lt
 have HP := Lib.hid hp
 clear hz hx hs hl h hp
 go_enter Tryz.func69, Tryz.ntmps69
 go_upto_region 1 with fail
 have r1 := HR.out.below (boxed2 w (.cells #[.int .i64 K, .string key, .string val] 41) (.cells #[.int .i64 AK, .string AT, .int .i64 AS] 46))
 obtain ⟨A1, k1, A2, k2, A3, k3, e1, e2, e3, ov⟩ := r1.owv hc
 obtain ⟨n1, hn1⟩ : ∃ n, (M.ow c).set.length = n := ⟨_, rfl⟩
 obtain ⟨n2, hn2⟩ : ∃ n, (M.ow c).pre.length = n := ⟨_, rfl⟩
 obtain ⟨n3, hn3⟩ : ∃ n, (M.ow c).sav.length = n := ⟨_, rfl⟩
 obtain ⟨st, hst⟩ : ∃ n, (M.ow c).st = n := ⟨_, rfl⟩
 rw [hn1, hn2, hn3, hst] at ov
 rw [hn1] at e1
 rw [hn2] at e2
 rw [hn3] at e3
 obtain ⟨x4, x5, x6, x7, fp⟩ := ov
 have R1 := Lib.hid r1
 have T1 := Lib.hid ((Turn.refl p w V).below (boxed2 w (.cells #[.int .i64 K, .string key, .string val] 41) (.cells #[.int .i64 AK, .string AT, .int .i64 AS] 46)))
 have bx := (Blk.new w 41 #[.int .i64 K, .string key, .string val]).alloc (.cells #[.int .i64 AK, .string AT, .int .i64 AS] 46)
 have ba := Blk.new1 w (.cells #[.int .i64 K, .string key, .string val] 41) 46 #[.int .i64 AK, .string AT, .int .i64 AS]
 rw [hq] at bx ba
 have BX := Lib.hid bx
 have BA := Lib.hid ba
 have HST := Lib.hid hst
 have E1 := Lib.hid e1
 have E2 := Lib.hid e2
 have E3 := Lib.hid e3
 have a2 := ba.cell_ 2 _ rfl
 have hqp : q ≠ p := by have := HP.out; omega
 have hqp1 : q + 1 ≠ p := by have := HP.out; omega
 clear r1 bx ba hst e1 e2 e3 x4 x5 x6
 clear hq
 generalize World.alloc _ _ = x1 at R1 T1 BX BA x7 fp a2 ⊢
 go_upto_region 2 with fail
 go_upto_region 3 with fail
 have r2 := R1.out.put_st' hc AS
 have R2 := Lib.hid r2.1
 have T2 := Lib.hid (T1.out.trans r2.2)
 have bx := BX.out.far (p := ⟨p, 6 + c * 10 + 4 + 3, none⟩) hqp (.int .i64 AS)
 have ba := BA.out.far (p := ⟨p, 6 + c * 10 + 4 + 3, none⟩) hqp1 (.int .i64 AS)
 clear r2 R1 T1 BX BA x7 fp a2
 generalize World.setCell _ _ _ = x2 at R2 T2 bx ba ⊢
 have BX := Lib.hid bx
 have b0 := bx.cell_ 0 _ rfl
 have b1 := bx.cell_ 1 _ rfl
 have b2 := bx.cell_ 2 _ rfl
 have a0 := ba.cell_ 0 _ rfl
 have e0 : ∀ o, (M.setOw c ⟨(M.ow c).set, (M.ow c).pre, (M.ow c).sav, AS⟩).setOw c o = M.setOw c o := fun o => by simp [MV.setOw, up_up]
 have e1 : ((M.setOw c ⟨(M.ow c).set, (M.ow c).pre, (M.ow c).sav, AS⟩).ow c) = ⟨(M.ow c).set, (M.ow c).pre, (M.ow c).sav, AS⟩ := up_at _ _ _
 have HE0 := Lib.hid e0
 have HE1 := Lib.hid e1
 clear bx ba e0 e1
 by_cases h4 : AK = 4
 ·subst h4
  have HZ' := Lib.hid (show (⟨(M.ow c).set, (M.ow c).pre, (M.ow c).sav, AS⟩ : Ow) = z by rw [← HZ.out]; unfold learn; rw [if_pos rfl])
  go_wp2_with fail
  have HF : Hid (Done w B p V (M.setOw c z) x2) := Lib.hid (by rw [← HZ'.out]; exact R2.out.done T2.out)
  refine bodyPost_ret (results_none rfl _ _ _) rfl ⟨rfl, HF.out⟩
 have n4 : (AK == 4) = false := by simpa using h4
 have HN4 := Lib.hid (show ¬ (AK = 4) from h4)
 clear h4
 obtain ⟨x4, x5, x6, x7, fp⟩ : OwV x2 p (6 + c * 10 + 4) A1 n1 k1 A2 n2 k2 A3 n3 k3 AS := by
  obtain ⟨B1, l1, B2, l2, B3, l3, f1, f2, f3, ov⟩ := R2.out.owv hc
  rw [HE1.out] at ov f1 f2 f3
  simp only at ov f1 f2 f3
  rw [hn1] at ov f1
  rw [hn2] at ov f2
  rw [hn3] at ov f3
  rw [E1.out] at f1
  rw [E2.out] at f2
  rw [E3.out] at f3
  injection f1 with f1 _ g1
  injection f2 with f2 _ g2
  injection f3 with f3 _ g3
  subst f1 g1 f2 g2 f3 g3
  exact ov
 by_cases hk1 : K = 1
 ·subst hk1
  have HZ' := Lib.hid (show (⟨(M.ow c).set, (M.ow c).pre, (M.ow c).set, AS⟩ : Ow) = z by rw [← HZ.out]; unfold learn; rw [if_neg HN4.out, if_pos rfl])
  have ow2 := R2.out.o.ow c hc
  rw [HE1.out] at ow2
  have r3 := R2.out.put_sav' hc ow2.set
  rw [HE0.out, HE1.out, HZ'.out, E1.out] at r3
  obtain ⟨V3, r3, t3⟩ := r3
  have HF : Hid (Done w B p V (M.setOw c z) (x2.setCell ⟨p, 6 + c * 10 + 4 + 2, none⟩ (.slice A1 n1 k1))) := Lib.hid (r3.done (T2.out.trans t3))
  clear r3 t3 ow2
  go_wp2_with fail
  refine bodyPost_end (results_none rfl _ _ _) rfl ⟨rfl, HF.out⟩
 have m1 : (K == 1) = false := by simpa using hk1
 by_cases hk2 : K = 2 ∨ K = 3
 ·have HK2 := Lib.hid hk2
  have HK1 := Lib.hid hk1
  by_cases hb : K = 3 ∨ st = 2
  ·have HZ' := Lib.hid (show (⟨(M.ow c).sav, (M.ow c).pre, [], AS⟩ : Ow) = z by rw [← HZ.out]; unfold learn; rw [if_neg HN4.out, if_neg HK1.out, if_pos HK2.out, if_pos (by rw [HST.out]; exact hb)])
   have ow2 := R2.out.o.ow c hc
   rw [HE1.out] at ow2
   have r3 := R2.out.put_set' hc ow2.sav
   rw [HE0.out, HE1.out, E3.out] at r3
   obtain ⟨V3, r3, t3⟩ := r3
   have R3 := Lib.hid r3
   have T3 := Lib.hid (T2.out.trans t3)
   have f3 := r3.b.frozen
   have x63 : (x2.setCell ⟨p, 6 + c * 10 + 4, none⟩ (.slice A3 n3 k3)).cell? ⟨p, 6 + c * 10 + 4 + 2, none⟩ = some (V3.sav c) := r3.b.cellC (k := 6) hc (by decide)
   have r4 := R3.out.put_sav' hc (OPL.nil_ _ B)
   rw [show ∀ o, (M.setOw c ⟨(M.ow c).sav, (M.ow c).pre, (M.ow c).sav, AS⟩).setOw c o = M.setOw c o from fun o => by simp [MV.setOw, up_up], show (M.setOw c ⟨(M.ow c).sav, (M.ow c).pre, (M.ow c).sav, AS⟩).ow c = ⟨(M.ow c).sav, (M.ow c).pre, (M.ow c).sav, AS⟩ from up_at _ _ _, HZ'.out] at r4
   obtain ⟨V4, r4, t4⟩ := r4
   have HF : Hid (Done w B p V (M.setOw c z) ((x2.setCell ⟨p, 6 + c * 10 + 4, none⟩ (.slice A3 n3 k3)).setCell ⟨p, 6 + c * 10 + 4 + 2, none⟩ (.slice none 0 0))) := Lib.hid (r4.done (T3.out.trans t4))
   clear r3 t3 r4 t4 ow2 x63 f3
   rcases hk2 with rfl | rfl
   ·have hb : st = 2 := by omega
    subst hb
    clear hk1
    go_wp2_with fail
    refine bodyPost_end (results_none rfl _ _ _) rfl ⟨rfl, HF.out⟩
   ·clear hk1 hb
    go_wp2_with fail
    refine bodyPost_end (results_none rfl _ _ _) rfl ⟨rfl, HF.out⟩
  ·obtain rfl : K = 2 := by omega
   have hs2 : ¬ (st = 2) := by omega
   have m3 : (st == 2) = false := by simpa using hs2
   have HZ' := Lib.hid (show (⟨(M.ow c).set, (M.ow c).pre, [], AS⟩ : Ow) = z by rw [← HZ.out]; unfold learn; rw [if_neg HN4.out, if_neg HK1.out, if_pos HK2.out, if_neg (by rw [HST.out]; exact hb)])
   have r4 := R2.out.put_sav' hc (OPL.nil_ _ B)
   rw [HE0.out, HE1.out, HZ'.out] at r4
   obtain ⟨V4, r4, t4⟩ := r4
   have HF : Hid (Done w B p V (M.setOw c z) (x2.setCell ⟨p, 6 + c * 10 + 4 + 2, none⟩ (.slice none 0 0))) := Lib.hid (r4.done (T2.out.trans t4))
   clear r4 t4 hb hs2 hk1 hk2
   go_wp2_with fail
   refine bodyPost_end (results_none rfl _ _ _) rfl ⟨rfl, HF.out⟩
 have m2 : (K == 2) = false := by simp; omega
 have m3 : (K == 3) = false := by simp; omega
 have HK1 := Lib.hid hk1
 have HK2 := Lib.hid hk2
 clear hk1 hk2
 by_cases hk4 : K = 4
 ·subst hk4
  have HZ' := Lib.hid (show (⟨[], [], (M.ow c).sav, AS⟩ : Ow) = z by rw [← HZ.out]; unfold learn; rw [if_neg HN4.out, if_neg HK1.out, if_neg HK2.out, if_pos rfl])
  have r3 := R2.out.put_set' hc (OPL.nil_ _ B)
  rw [HE0.out, HE1.out] at r3
  obtain ⟨V3, r3, t3⟩ := r3
  have R3 := Lib.hid r3
  have T3 := Lib.hid (T2.out.trans t3)
  have r4 := R3.out.put_pre' hc (OPL.nil_ _ B)
  rw [show ∀ o, (M.setOw c ⟨[], (M.ow c).pre, (M.ow c).sav, AS⟩).setOw c o = M.setOw c o from fun o => by simp [MV.setOw, up_up], show (M.setOw c ⟨[], (M.ow c).pre, (M.ow c).sav, AS⟩).ow c = ⟨[], (M.ow c).pre, (M.ow c).sav, AS⟩ from up_at _ _ _, HZ'.out] at r4
  obtain ⟨V4, r4, t4⟩ := r4
  have HF : Hid (Done w B p V (M.setOw c z) ((x2.setCell ⟨p, 6 + c * 10 + 4, none⟩ (.slice none 0 0)).setCell ⟨p, 6 + c * 10 + 4 + 1, none⟩ (.slice none 0 0))) := Lib.hid (r4.done (T3.out.trans t4))
  clear r3 t3 r4 t4
  go_wp2_with fail
  refine bodyPost_end (results_none rfl _ _ _) rfl ⟨rfl, HF.out⟩
 have m4 : (K == 4) = false := by simpa using hk4
 have HK4 := Lib.hid hk4
 clear hk4
 by_cases hk9 : K = 9
 ·subst hk9
  have HZ' := Lib.hid (show (⟨plusP (M.ow c).set key val, (M.ow c).pre, (M.ow c).sav, AS⟩ : Ow) = z by rw [← HZ.out]; unfold learn; rw [if_neg HN4.out, if_neg HK1.out, if_neg HK2.out, if_neg HK4.out, if_pos rfl])
  have ow2 := R2.out.o.ow c hc
  rw [HE1.out] at ow2
  have PLq := Lib.hid (show PL x2 x2.heap.size (V.set c) (M.ow c).set from ow2.set.pl)
  rw [E1.out] at PLq
  clear ow2
  go_upto_region 15 with fail
  refine region_segs [12] (by kernel_rfl) ?_
  refine anyB_seg [0, 1, 2, 3, 4, 5, 6, 7, 8] 4 rfl (by kernel_rfl) (by kernel_rfl) (by kernel_rfl) (fun _ _ d _ _ h => by cases d <;> exact h) ?_
  simp only [pickOps, List.getElem?_toArray, List.getElem?_cons_zero, List.getElem?_cons_succ]
  go_wp2_with fail
  refine ⟨rfl, by rfl, ?_⟩
  refine anyB_one (i := 9) (by kernel_rfl) rfl (fun K hK => ?_)
  go_simp
  refine (pput_any x2.drew _ (M.ow c).set key val (PLq.out.below (Below.refl _ _).drew) HS.out.1 HL.out.1 HX.out.1 HX.out.2).mono ?_
  rintro e x3 ⟨v3, rfl, o3, b3⟩
  refine hK.out _ _ (fun _ => b3) ?_
  clear hK K
  have R3 := Lib.hid ((R2.out.below (Below.refl _ _).drew).below b3)
  have T3 := Lib.hid ((T2.out.below (Below.refl _ _).drew).below b3)
  obtain ⟨A5, k5, rfl⟩ := o3.form
  have r4 := R3.out.put_set' hc (o3.base (Nat.le_trans (Nat.le_trans R2.out.o.lb (Nat.le_of_lt R2.out.b.lt)) (Nat.le_refl _)))
  rw [HE0.out, HE1.out, HZ'.out] at r4
  obtain ⟨V4, r4, t4⟩ := r4
  have x43 : x3.cell? ⟨p, 6 + c * 10 + 4, none⟩ = some (V.set c) := R3.out.b.cellC (k := 4) hc (by decide)
  have f3 := R3.out.b.frozen
  have HF0 := Lib.hid (r4.done (T3.out.trans t4))
  clear r4 t4 b0 b1 b2 a0 x4 x5 x6 x7 fp b3
  refine anyB_seg [10, 11] 1 rfl (by kernel_rfl) (by kernel_rfl) (by kernel_rfl) (fun _ _ d _ _ h => by cases d <;> exact h) ?_
  simp only [pickOps, List.getElem?_toArray, List.getElem?_cons_zero, List.getElem?_cons_succ]
  go_wp2_with fail
  refine ⟨rfl, by rfl, ?_⟩
  refine anyB_one (i := 12) (by kernel_rfl) rfl (fun K hK => ?_)
  go_simp
  refine hK.out _ _ (fun h => absurd (by decide) h) ?_
  clear hK K
  refine anyB_done (by kernel_rfl) ?_ _
  go_wp2_with fail
  refine bodyPost_end (results_none rfl _ _ _) rfl ⟨rfl, HF0.out⟩
 have m9 : (K == 9) = false := by simpa using hk9
 have HK9 := Lib.hid hk9
 clear hk9
 by_cases hk11 : K = 11
 ·subst hk11
  have HZ' := Lib.hid (show (⟨(M.ow c).set, plusP (M.ow c).pre key val, (M.ow c).sav, AS⟩ : Ow) = z by rw [← HZ.out]; unfold learn; rw [if_neg HN4.out, if_neg HK1.out, if_neg HK2.out, if_neg HK4.out, if_neg HK9.out, if_pos rfl])
  have ow2 := R2.out.o.ow c hc
  rw [HE1.out] at ow2
  have PLq := Lib.hid (show PL x2 x2.heap.size (V.pre c) (M.ow c).pre from ow2.pre.pl)
  rw [E2.out] at PLq
  clear ow2
  go_upto_region 17 with fail
  refine region_segs [12] (by kernel_rfl) ?_
  refine anyB_seg [0, 1, 2, 3, 4, 5, 6, 7, 8] 4 rfl (by kernel_rfl) (by kernel_rfl) (by kernel_rfl) (fun _ _ d _ _ h => by cases d <;> exact h) ?_
  simp only [pickOps, List.getElem?_toArray, List.getElem?_cons_zero, List.getElem?_cons_succ]
  go_wp2_with fail
  refine ⟨rfl, by rfl, ?_⟩
  refine anyB_one (i := 9) (by kernel_rfl) rfl (fun K hK => ?_)
  go_simp
  refine (pput_any x2.drew _ (M.ow c).pre key val (PLq.out.below (Below.refl _ _).drew) HS.out.2 HL.out.2 HX.out.1 HX.out.2).mono ?_
  rintro e x3 ⟨v3, rfl, o3, b3⟩
  refine hK.out _ _ (fun _ => b3) ?_
  clear hK K
  have R3 := Lib.hid ((R2.out.below (Below.refl _ _).drew).below b3)
  have T3 := Lib.hid ((T2.out.below (Below.refl _ _).drew).below b3)
  obtain ⟨A5, k5, rfl⟩ := o3.form
  have r4 := R3.out.put_pre' hc (o3.base (Nat.le_trans (Nat.le_trans R2.out.o.lb (Nat.le_of_lt R2.out.b.lt)) (Nat.le_refl _)))
  rw [HE0.out, HE1.out, HZ'.out] at r4
  obtain ⟨V4, r4, t4⟩ := r4
  have x43 : x3.cell? ⟨p, 6 + c * 10 + 5, none⟩ = some (V.pre c) := R3.out.b.cellC (k := 5) hc (by decide)
  have f3 := R3.out.b.frozen
  have HF0 := Lib.hid (r4.done (T3.out.trans t4))
  clear r4 t4 b0 b1 b2 a0 x4 x5 x6 x7 fp b3
  refine anyB_seg [10, 11] 1 rfl (by kernel_rfl) (by kernel_rfl) (by kernel_rfl) (fun _ _ d _ _ h => by cases d <;> exact h) ?_
  simp only [pickOps, List.getElem?_toArray, List.getElem?_cons_zero, List.getElem?_cons_succ]
  go_wp2_with fail
  refine ⟨rfl, by rfl, ?_⟩
  refine anyB_one (i := 12) (by kernel_rfl) rfl (fun K hK => ?_)
  go_simp
  refine hK.out _ _ (fun h => absurd (by decide) h) ?_
  clear hK K
  refine anyB_done (by kernel_rfl) ?_ _
  go_wp2_with fail
  refine bodyPost_end (results_none rfl _ _ _) rfl ⟨rfl, HF0.out⟩
 have m11 : (K == 11) = false := by simpa using hk11
 have HK11 := Lib.hid hk11
 clear hk11
 have HZ' := Lib.hid (show (⟨(M.ow c).set, (M.ow c).pre, (M.ow c).sav, AS⟩ : Ow) = z by rw [← HZ.out]; unfold learn; rw [if_neg HN4.out, if_neg HK1.out, if_neg HK2.out, if_neg HK4.out, if_neg HK9.out, if_neg HK11.out])
 have HF : Hid (Done w B p V (M.setOw c z) x2) := Lib.hid (by rw [← HZ'.out]; exact R2.out.done T2.out)
 go_wp2_with fail
 refine bodyPost_end (results_none rfl _ _ _) rfl ⟨rfl, HF.out⟩
end Go.Proofs.YtjbnfigpflambacGreatDoor
