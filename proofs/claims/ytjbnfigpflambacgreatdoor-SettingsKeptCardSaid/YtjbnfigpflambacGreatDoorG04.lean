/- Plain laws, no program: where there are servers enough, a client is served at once; how long a server is kept, and how bytes are cut, does not show. Plain laws, no program: with servers enough, an act is done at once; TopModes and TopCuts. Plain laws, no program: TopGone: where every client went, nothing is left of one. Plain laws, no program: what a statement is answered. Plain laws, no program: what a client was sent: answers to its requests, in order; those of its deeds, and those that no server gave. Plain laws, no program: a client alone is answered as by a server of its own. -/
import Derived.Test.YtjbnfigpflambacGreatDoorG01
import Derived.Test.YtjbnfigpflambacGreatDoorG03
/- Plain laws, no program: where there are servers enough, a client is served at once; how long a server is kept, and how bytes are cut, does not show. -/
namespace Go.Proofs.YtjbnfigpflambacGreatDoor
structure Au where
 deeds : List De
 sent : Nat → ByteArray
 w : Wo
def auOf (y : Fr × Wo) : Au := ⟨y.1.deeds, fun i => (y.1.c i).sent, y.2⟩
def Au.tell (u : Au) (i : Nat) (a : An) : Au := ⟨u.deeds, fun j => if j = i then u.sent i ++ tellM a else u.sent j, u.w⟩
def serve (mode : Int) (i : Nat) (u : Au) (p : St × Bool) : Au :=
 if p.2 = true then u.tell i ⟨4, tNotUnd, (u.w.se i).st⟩
 else if mode = 3 ∧ p.1.k = 1 then u.tell i ⟨4, tNotMode, (u.w.se i).st⟩
 else (⟨u.deeds ++ [⟨i, p.1, (doW u.w i p.1).2⟩], u.sent, (doW u.w i p.1).1⟩ : Au).tell i (doW u.w i p.1).2
theorem sent_set {f : Fr} {i : Nat} (hi : i < f.cl.length) (x : Cl) : (fun j => ((f.set i x).c j).sent) = fun j => if j = i then x.sent else (f.c j).sent := by
 funext j
 rw [c_set f hi]
 split <;> rfl
theorem sent_same {f : Fr} {i : Nat} (hi : i < f.cl.length) {x : Cl} (h : x.sent = (f.c i).sent) : (fun j => ((f.set i x).c j).sent) = fun j => (f.c j).sent := by
 rw [sent_set hi]
 funext j
 split
 ·rename_i e; rw [e, h]
 ·rfl
theorem sent_tell {f : Fr} {i : Nat} (hi : i < f.cl.length) (a : An) : (fun j => ((f.tell i a).c j).sent) = fun j => if j = i then (f.c i).sent ++ tellM a else (f.c j).sent := sent_set hi _
theorem sent_drop {f : Fr} {i : Nat} (hi : i < f.cl.length) : (fun j => ((f.drop i).c j).sent) = fun j => (f.c j).sent := sent_same hi rfl
theorem sent_done {f : Fr} {i : Nat} (hi : i < f.cl.length) (x : St) (a : An) : (fun j => ((doneF f i x a).c j).sent) = fun j => if j = i then (f.c i).sent ++ tellM a else (f.c j).sent := by
 have h1 := sent_drop hi
 have h2 : (fun j => (((f.drop i).deed ⟨i, x, a⟩).c j).sent) = fun j => (f.c j).sent := h1
 unfold doneF
 rw [sent_tell (f := (f.drop i).deed ⟨i, x, a⟩) (by show i < (f.drop i).cl.length; rw [len_drop]; exact hi)]
 funext j
 have e1 : (((f.drop i).deed ⟨i, x, a⟩).c i).sent = (f.c i).sent := congrFun h2 i
 have e2 : (((f.drop i).deed ⟨i, x, a⟩).c j).sent = (f.c j).sent := congrFun h2 j
 rw [e1, e2]
theorem sent_free {f : Fr} {i : Nat} (hi : i < f.cl.length) : (fun j => ((f.freeS i).c j).sent) = fun j => (f.c j).sent := sent_same (x := ⟨(f.c i).bytes, (f.c i).pend, -1, (f.c i).sent⟩) hi rfl
theorem au_next {y : Fr × Wo} {i : Nat} (hi : i < y.1.cl.length) {p : St × Bool} {l : List (St × Bool)} (ep : (y.1.c i).pend = p :: l) : auOf (nextM houseB y i) = serve y.1.mode i (auOf y) p := by
 obtain ⟨x, bad⟩ := p
 unfold serve
 cases bad with
 | true =>
  rw [next_bad _ _ _ ep, if_pos rfl]
  unfold auOf Au.tell
  simp only
  rw [sent_tell (by rw [len_drop]; exact hi)]
  have h1 := sent_drop hi
  congr 1
  funext j
  have e1 : ((y.1.drop i).c i).sent = (y.1.c i).sent := congrFun h1 i
  have e2 : ((y.1.drop i).c j).sent = (y.1.c j).sent := congrFun h1 j
  rw [e1, e2]
  rfl
 | false =>
  rw [if_neg (by simp)]
  by_cases hm : y.1.mode = 3 ∧ x.k = 1
  ·rw [next_mode _ _ _ ep hm, if_pos hm]
   unfold auOf Au.tell
   simp only
   rw [sent_tell (by rw [len_drop]; exact hi)]
   have h1 := sent_drop hi
   congr 1
   funext j
   have e1 : ((y.1.drop i).c i).sent = (y.1.c i).sent := congrFun h1 i
   have e2 : ((y.1.drop i).c j).sent = (y.1.c j).sent := congrFun h1 j
   rw [e1, e2]
   rfl
  ·rw [next_act _ _ _ ep hm, if_neg hm]
   have h1 := sent_done hi x (doW y.2 i x).2
   split
   ·unfold auOf Au.tell
    simp only
    rw [sent_free (by rw [len_done]; exact hi)]
    have h1 : (fun j => ((doneF y.1 i x (houseB.act y.2 i (y.1.c i).srv.toNat x).2).c j).sent) = _ := h1
    rw [h1]
    rfl
   ·unfold auOf Au.tell
    simp only
    have h1 : (fun j => ((doneF y.1 i x (houseB.act y.2 i (y.1.c i).srv.toNat x).2).c j).sent) = _ := h1
    rw [h1]
    rfl
def Held (S : List Nat) (f : Fr) : Prop := ∀ i, i < 6 → (f.c i).srv ≠ -1 → i ∈ S
structure Lone (S : List Nat) (f : Fr) (c : Nat) : Prop where
 held : Held S f
 few : S.length ≤ f.owner.length
 once : S.Nodup
 mem : c ∈ S
 lt : c < 6
 only : ∀ j, j ≠ c → busy f j = false
 wait : f.wait = []
theorem pick_lone {f : Fr} {c : Nat} (hc : c < 6) (ho : ∀ j, j ≠ c → busy f j = false) : pickF f = if ready f c = true then some c else none := by
 have hj : ∀ j, j ≠ c → ready f j = false := fun j hj => by unfold ready; rw [ho j hj]; rfl
 unfold pickF
 cases hr : ready f c with
 | false =>
  rw [if_neg (by simp), List.find?_eq_none]
  intro j _ h
  by_cases e : j = c
  ·rw [e, hr] at h; cases h
  ·rw [hj j e] at h; cases h
 | true =>
  rw [if_pos rfl]
  have h6 : c = 0 ∨ c = 1 ∨ c = 2 ∨ c = 3 ∨ c = 4 ∨ c = 5 := by omega
  have e6 : List.range 6 = [0, 1, 2, 3, 4, 5] := rfl
  rw [e6]
  rcases h6 with rfl | rfl | rfl | rfl | rfl | rfl <;> simp [hr, hj]
theorem queue_lone {f : Fr} {c : Nat} (hc : c < 6) (ho : ∀ j, j ≠ c → busy f j = false) (hw : f.wait = []) : (queueF f).wait = if busy f c = true then [c] else [] := by
 show f.wait ++ (List.range 6).filter (fun i => busy f i && !f.wait.contains i) = _
 rw [hw, List.nil_append]
 have e6 : List.range 6 = [0, 1, 2, 3, 4, 5] := rfl
 rw [e6]
 have h6 : c = 0 ∨ c = 1 ∨ c = 2 ∨ c = 3 ∨ c = 4 ∨ c = 5 := by omega
 cases hb : busy f c with
 | true => rcases h6 with rfl | rfl | rfl | rfl | rfl | rfl <;> simp [hb, ho]
 | false => rcases h6 with rfl | rfl | rfl | rfl | rfl | rfl <;> simp [hb, ho]
theorem idle_some {S : List Nat} {f : Fr} (hf : FI f) {c : Nat} (h : Lone S f c) (hs : (f.c c).srv = -1) : ∃ s, idleF f.owner = some s := by
 rcases e : idleF f.owner with _ | s
 ·exfalso
  have hall : ∀ s, s < f.owner.length → f.owner.getD s 0 ≠ -1 := by
   intro s hs h1
   exact List.find?_eq_none.1 e s (List.mem_range.2 hs) (by rw [h1]; rfl)
  -- the owners are clients of S without c, each once
  have hat : ∀ s, s < f.owner.length → ∃ i : Nat, i < 6 ∧ f.owner.getD s 0 = (i : Int) ∧ (f.c i).srv = (s : Int) := by
   intro s hs
   rcases hf.fo.ow s hs with e | h
   ·exact absurd e (hall s hs)
   ·exact h
  have hsub : f.owner ⊆ (S.erase c).map Int.ofNat := by
   intro x hx
   obtain ⟨s, hs', rfl⟩ := List.getElem_of_mem hx
   obtain ⟨i, hi, h1, h2⟩ := hat s hs'
   rw [getD_at hs'] at h1
   rw [h1]
   refine List.mem_map.2 ⟨i, ?_, rfl⟩
   have hic : i ≠ c := by rintro rfl; omega
   exact (h.once.mem_erase_iff).2 ⟨hic, h.held i hi (by omega)⟩
  have hnd : f.owner.Nodup := by
   unfold List.Nodup
   refine List.pairwise_iff_getElem.2 fun s t hs' ht hst heq => ?_
   obtain ⟨i, hi, h1, h2⟩ := hat s hs'
   obtain ⟨j, hj, h3, h4⟩ := hat t ht
   rw [getD_at hs'] at h1
   rw [getD_at ht] at h3
   have hij : i = j := by omega
   subst hij
   omega
  have hle := hnd.length_le_of_subset hsub
  rw [List.length_map, List.length_erase_of_mem h.mem] at hle
  have hpos : 0 < S.length := List.length_pos_of_mem h.mem
  have := h.few
  omega
 ·exact ⟨s, rfl⟩
structure Served (S : List Nat) (f : Fr) (w : Wo) (c : Nat) (l : List (St × Bool)) : Prop where
 au : auOf (pumpM houseB (f, w)) = l.foldl (serve f.mode c) (auOf (f, w))
 calm : ∀ j, busy (pumpM houseB (f, w)).1 j = false
 wait : (pumpM houseB (f, w)).1.wait = []
 held : Held S (pumpM houseB (f, w)).1
 owner : (pumpM houseB (f, w)).1.owner.length = f.owner.length
 mode : (pumpM houseB (f, w)).1.mode = f.mode
theorem busy_next {y : Fr × Wo} {i : Nat} (hi : i < y.1.cl.length) {p : St × Bool} {l : List (St × Bool)} (ep : (y.1.c i).pend = p :: l) (j : Nat) : ((nextM houseB y i).1.c j).pend = (if j = i then l else (y.1.c j).pend) ∧ (((nextM houseB y i).1.c j).srv = (y.1.c j).srv ∨ ((nextM houseB y i).1.c j).srv = -1) ∧
  (nextM houseB y i).1.wait = y.1.wait ∧ (nextM houseB y i).1.owner.length = y.1.owner.length ∧ (nextM houseB y i).1.mode = y.1.mode := by
 have hd : ∀ j, ((y.1.drop i).c j).pend = (if j = i then l else (y.1.c j).pend) ∧ ((y.1.drop i).c j).srv = (y.1.c j).srv := by
  intro j
  unfold Fr.drop
  rw [c_set _ hi]
  by_cases e : j = i
  ·subst e; rw [if_pos rfl, if_pos rfl]; exact ⟨by rw [ep]; rfl, rfl⟩
  ·rw [if_neg e, if_neg e]; exact ⟨rfl, rfl⟩
 have ht : ∀ (f : Fr) (a : An), i < f.cl.length → ((f.tell i a).c j).pend = (f.c j).pend ∧ ((f.tell i a).c j).srv = (f.c j).srv := by
  intro f a hf
  unfold Fr.tell
  rw [c_set _ hf]
  by_cases e : j = i
  ·subst e; rw [if_pos rfl]; exact ⟨rfl, rfl⟩
  ·rw [if_neg e]; exact ⟨rfl, rfl⟩
 have hld : i < (y.1.drop i).cl.length := by rw [len_drop]; exact hi
 obtain ⟨x, bad⟩ := p
 cases bad with
 | true =>
  rw [next_bad _ _ _ ep]
  obtain ⟨h1, h2⟩ := ht (y.1.drop i) ⟨4, tNotUnd, houseB.st y.2 i⟩ hld
  exact ⟨h1.trans (hd j).1, .inl (h2.trans (hd j).2), rfl, rfl, rfl⟩
 | false =>
  by_cases hm : y.1.mode = 3 ∧ x.k = 1
  ·rw [next_mode _ _ _ ep hm]
   obtain ⟨h1, h2⟩ := ht (y.1.drop i) ⟨4, tNotMode, houseB.st y.2 i⟩ hld
   exact ⟨h1.trans (hd j).1, .inl (h2.trans (hd j).2), rfl, rfl, rfl⟩
  ·rw [next_act _ _ _ ep hm]
   generalize houseB.act y.2 i (y.1.c i).srv.toNat x = r
   have h0 : ((doneF y.1 i x r.2).c j).pend = (if j = i then l else (y.1.c j).pend) ∧ ((doneF y.1 i x r.2).c j).srv = (y.1.c j).srv := by
    obtain ⟨h1, h2⟩ := ht ((y.1.drop i).deed ⟨i, x, r.2⟩) r.2 hld
    exact ⟨h1.trans (hd j).1, h2.trans (hd j).2⟩
   split
   ·have hl : i < (doneF y.1 i x r.2).cl.length := by rw [len_done]; exact hi
    have hc : ((doneF y.1 i x r.2).freeS i).c j = if j = i then ⟨((doneF y.1 i x r.2).c i).bytes, ((doneF y.1 i x r.2).c i).pend, -1, ((doneF y.1 i x r.2).c i).sent⟩ else (doneF y.1 i x r.2).c j := c_set _ hl _ j
    refine ⟨?_, ?_, rfl, List.length_set, rfl⟩
    ·simp only
     rw [hc]
     by_cases e : j = i
     ·subst e; rw [if_pos rfl]; exact h0.1
     ·rw [if_neg e]; exact h0.1
    ·simp only
     rw [hc]
     by_cases e : j = i
     ·subst e; rw [if_pos rfl]; exact .inr rfl
     ·rw [if_neg e]; exact .inl h0.2
   ·exact ⟨h0.1, .inl h0.2, rfl, rfl, rfl⟩
theorem busy_nil {f : Fr} {j : Nat} (h : (f.c j).pend = []) : busy f j = false := by unfold busy; rw [h]; rfl
theorem served (S : List Nat) (c : Nat) : ∀ (l : List (St × Bool)) {z : Fr × PB} {f : Fr} {w : Wo}, Sim z (f, w) → Lone S f c → (f.c c).pend = l → Served S f w c l := by
 intro l
 induction l with
 | nil =>
  intro z f w h hl ep
  have hb : ∀ j, busy f j = false := fun j => by
   by_cases e : j = c
   ·rw [e]; exact busy_nil ep
   ·exact hl.only j e
  have hr : ready f c = false := by unfold ready; rw [hb]; rfl
  have hp : pickF f = none := by rw [pick_lone hl.lt hl.only, hr]; rfl
  have hq : (queueF f).wait = [] := by rw [queue_lone hl.lt hl.only hl.wait, hb]; rfl
  have hs : stepM houseB (f, w) = ((queueF f, w), false) := step_stop houseB (f, w) hp (.inl hq)
  have hend : pumpM houseB (f, w) = (queueF f, w) := by rw [pump_end _ _ (by rw [hs]), hs]
  refine ⟨?_, ?_, ?_, ?_, ?_, ?_⟩ <;> rw [hend]
  ·rfl
  ·exact hb
  ·exact hq
  ·exact hl.held
  ·rfl
  ·rfl
 | cons p l ih =>
  have hgo : ∀ {z : Fr × PB} {f : Fr} {w : Wo}, Sim z (f, w) → Lone S f c → (f.c c).pend = p :: l → ready f c = true → Served S f w c (p :: l) := by
   intro z f w h hl ep hr
   have h6 : f.cl.length = 6 := by have := h.fi.six; rw [h.front] at this; exact this
   have hcl : c < f.cl.length := by rw [h6]; exact hl.lt
   have hp : pickF f = some c := by rw [pick_lone hl.lt hl.only, hr]; rfl
   have hs : stepM houseB (f, w) = (nextM houseB (f, w) c, true) := step_next houseB (f, w) hp
   have hb := busy_next (y := (f, w)) (i := c) hcl ep
   have hau := au_next (y := (f, w)) (i := c) hcl ep
   have hsim := (step_sim h).1
   rw [hs] at hsim
   simp only at hsim
   have hgo : pumpM houseB (f, w) = pumpM houseB (nextM houseB (f, w) c) := by rw [pump_go _ _ (by rw [hs]), hs]
   rcases hn : nextM houseB (f, w) c with ⟨f', w'⟩
   rw [hn] at hb hau hsim hgo
   simp only at hb
   have hl' : Lone S f' c := by
    refine ⟨fun i hi hne => ?_, by rw [(hb c).2.2.2.1]; exact hl.few, hl.once, hl.mem, hl.lt, fun j hj => ?_, by rw [(hb c).2.2.1]; exact hl.wait⟩
    ·rcases (hb i).2.1 with e | e
     ·rw [e] at hne; exact hl.held i hi hne
     ·exact absurd e hne
    ·have := (hb j).1
     rw [if_neg hj] at this
     have h2 := hl.only j hj
     unfold busy at h2 ⊢
     rw [this]
     exact h2
   have hpe : (f'.c c).pend = l := by have := (hb c).1; rw [if_pos rfl] at this; exact this
   have k := ih hsim hl' hpe
   refine ⟨?_, ?_, ?_, ?_, ?_, ?_⟩ <;> rw [hgo]
   ·rw [k.au, hau, (hb c).2.2.2.2]
    rfl
   ·exact k.calm
   ·exact k.wait
   ·exact k.held
   ·rw [k.owner]; exact (hb c).2.2.2.1
   ·rw [k.mode]; exact (hb c).2.2.2.2
  intro z f w h hl ep
  cases hr : ready f c with
  | true => exact hgo h hl ep hr
  | false =>
   have hfi : FI f := by have := h.fi; rw [h.front] at this; exact this
   have hcl : c < f.cl.length := by rw [hfi.six]; exact hl.lt
   have hbz : busy f c = true := by unfold busy; rw [ep]; rfl
   have hsv : (f.c c).srv = -1 := by
    rcases hfi.fo.cl c hl.lt with e | ⟨s, _, e, _⟩
    ·exact e
    ·exfalso
     have e : (f.c c).srv = (s : Int) := e
     unfold ready at hr
     rw [hbz, e] at hr
     simp at hr
   have hp : pickF f = none := by rw [pick_lone hl.lt hl.only, hr]; rfl
   have hq : (queueF f).wait = [c] := by rw [queue_lone hl.lt hl.only hl.wait, hbz]; rfl
   obtain ⟨s, hs⟩ := idle_some hfi hl hsv
   have hst : stepM houseB (f, w) = (((queueF f).unwait.bindS s c, w), true) := step_bind houseB (f, w) hp hq hs
   have hsim := (step_sim h).1
   rw [hst] at hsim
   simp only at hsim
   have hgo' : pumpM houseB (f, w) = pumpM houseB ((queueF f).unwait.bindS s c, w) := by rw [pump_go _ _ (by rw [hst]), hst]
   have hc : ∀ j, ((queueF f).unwait.bindS s c).c j = if j = c then ⟨(f.c c).bytes, (f.c c).pend, (s : Int), (f.c c).sent⟩ else f.c j := fun j => c_set f hcl _ j
   have hl' : Lone S ((queueF f).unwait.bindS s c) c := by
    refine ⟨fun i hi hne => ?_, by show S.length ≤ (f.owner.set s (c : Int)).length; rw [List.length_set]; exact hl.few, hl.once, hl.mem, hl.lt, fun j hj => ?_, by show (queueF f).wait.tail = []; rw [hq]; rfl⟩
    ·rw [hc] at hne
     by_cases e : i = c
     ·rw [e]; exact hl.mem
     ·rw [if_neg e] at hne
      exact hl.held i hi hne
    ·have h2 := hl.only j hj
     unfold busy at h2 ⊢
     rw [hc, if_neg hj]
     exact h2
   have hpe : (((queueF f).unwait.bindS s c).c c).pend = p :: l := by rw [hc, if_pos rfl]; exact ep
   have hrd : ready ((queueF f).unwait.bindS s c) c = true := by
    have hb2 : busy ((queueF f).unwait.bindS s c) c = true := by unfold busy; rw [hpe]; rfl
    unfold ready
    rw [hb2, hc, if_pos rfl]
    simp
   have k := hgo hsim hl' hpe hrd
   have hau : auOf ((queueF f).unwait.bindS s c, w) = auOf (f, w) := by
    unfold auOf
    simp only
    have : (fun i => (((queueF f).unwait.bindS s c).c i).sent) = fun i => (f.c i).sent := sent_same (x := ⟨(f.c c).bytes, (f.c c).pend, (s : Int), (f.c c).sent⟩) hcl rfl
    rw [this]
    rfl
   refine ⟨?_, ?_, ?_, ?_, ?_, ?_⟩ <;> rw [hgo']
   ·rw [k.au, hau]; rfl
   ·exact k.calm
   ·exact k.wait
   ·exact k.held
   ·rw [k.owner]; exact List.length_set
   ·rw [k.mode]; rfl
end Go.Proofs.YtjbnfigpflambacGreatDoor
/- Plain laws, no program: with servers enough, an act is done at once; TopModes and TopCuts. -/
namespace Go.Proofs.YtjbnfigpflambacGreatDoor
def feedB (b : ByteArray) : List (St × Bool) × ByteArray × Bool :=
 if _h : wholeB b = true then
  if kindAt b = 88 then ([], restAt b, true) else (askedOf b :: (feedB (restAt b)).1, (feedB (restAt b)).2)
 else ([], b, false)
termination_by b.size
decreasing_by all_goals exact rest_lt _h
theorem feedB_no {b : ByteArray} (h : wholeB b = false) : feedB b = ([], b, false) := by rw [feedB, dif_neg (by rw [h]; simp)]
theorem feedB_x {b : ByteArray} (h : wholeB b = true) (hk : kindAt b = 88) : feedB b = ([], restAt b, true) := by rw [feedB, dif_pos h, if_pos hk]
theorem feedB_go {b : ByteArray} (h : wholeB b = true) (hk : kindAt b ≠ 88) : feedB b = (askedOf b :: (feedB (restAt b)).1, (feedB (restAt b)).2) := by rw [feedB, dif_pos h, if_neg hk]
theorem feedC_eq (x : Cl) : feedC x = (⟨(feedB x.bytes).2.1, x.pend ++ (feedB x.bytes).1, x.srv, x.sent⟩, (feedB x.bytes).2.2) := by
 induction hn : x.bytes.size using Nat.strongRecOn generalizing x with
 | ind n ih =>
  rw [feedC]
  by_cases hw : wholeB x.bytes = true
  ·rw [dif_pos hw]
   by_cases hk : kindAt x.bytes = 88
   ·rw [if_pos hk, feedB_x hw hk]
    simp
   ·rw [if_neg hk, feedB_go hw hk, ih _ (by rw [← hn]; exact rest_lt hw) ⟨restAt x.bytes, x.pend ++ [askedOf x.bytes], x.srv, x.sent⟩ rfl]
    simp
  ·rw [dif_neg hw, feedB_no (by simpa using hw)]
   simp
structure Av where
 u : Au
 bytes : Nat → ByteArray
def avOf (y : Fr × Wo) : Av := ⟨auOf y, fun i => (y.1.c i).bytes⟩
def Av.leave (v : Av) (i : Nat) : Av := ⟨⟨v.u.deeds, v.u.sent, v.u.w.put i Se.new⟩, fun j => if j = i then ⟨#[]⟩ else v.bytes j⟩
def Av.fed (mode : Int) (v : Av) (i : Nat) (data : ByteArray) : Av := ⟨(feedB (v.bytes i ++ data)).1.foldl (serve mode i) v.u, fun j => if j = i then (feedB (v.bytes i ++ data)).2.1 else v.bytes j⟩
def actV (mode : Int) (v : Av) (a : Ac) : Av :=
 if a.kind = 2 then v.leave a.c.toNat
 else if (feedB (v.bytes a.c.toNat ++ a.data)).2.2 = true then (v.fed mode a.c.toNat a.data).leave a.c.toNat else v.fed mode a.c.toNat a.data
structure AtRest (S : List Nat) (f : Fr) : Prop where
 held : Held S f
 few : S.length ≤ f.owner.length
 once : S.Nodup
 idle : ∀ j, busy f j = false
 wait : f.wait = []
theorem bytes_pump (y : Fr × Wo) : (fun i => ((pumpM houseB y).1.c i).bytes) = fun i => (y.1.c i).bytes := by
 funext i
 exact pump_bytes houseB y i
theorem pump_lone {S : List Nat} {z : Fr × PB} {f : Fr} {w : Wo} (h : Sim z (f, w)) {c : Nat} (hl : Lone S f c) :
  avOf (pumpM houseB (f, w)) = ⟨(f.c c).pend.foldl (serve f.mode c) (auOf (f, w)), fun i => (f.c i).bytes⟩ ∧ AtRest S (pumpM houseB (f, w)).1 ∧ (pumpM houseB (f, w)).1.mode = f.mode := by
 have k := served S c _ h hl rfl
 refine ⟨?_, ⟨k.held, by rw [k.owner]; exact hl.few, hl.once, k.calm, k.wait⟩, k.mode⟩
 unfold avOf
 rw [k.au, bytes_pump]
theorem pend_of_calm {f : Fr} {c : Nat} (h : busy f c = false) : (f.c c).pend = [] := by
 unfold busy at h
 simpa using h
theorem close_calm {S : List Nat} {z : Fr × PB} {f : Fr} {w : Wo} (h : Sim z (f, w)) (k : AtRest S f) {c : Nat} (hm : c ∈ S) (h6 : c < 6) :
  avOf (pumpM houseB (closeM houseB (f, w) c)) = (avOf (f, w)).leave c ∧ AtRest S (pumpM houseB (closeM houseB (f, w) c)).1 ∧ (pumpM houseB (closeM houseB (f, w) c)).1.mode = f.mode := by
 have hfi : FI f := by have := h.fi; rw [h.front] at this; exact this
 have hl : c < f.cl.length := by rw [hfi.six]; exact h6
 have hs := h.close h6
 have hc : ∀ j, (closeM houseB (f, w) c).1.c j = if j = c then ⟨⟨#[]⟩, [], -1, (f.c c).sent⟩ else f.c j := fun j => c_set f hl _ j
 have hau : auOf (closeM houseB (f, w) c) = ⟨f.deeds, fun i => (f.c i).sent, w.put c Se.new⟩ := by
  unfold auOf
  have : (fun i => ((closeM houseB (f, w) c).1.c i).sent) = fun i => (f.c i).sent := sent_same (x := ⟨⟨#[]⟩, [], -1, (f.c c).sent⟩) hl rfl
  rw [this]
  rfl
 have hmode : (closeM houseB (f, w) c).1.mode = f.mode := rfl
 have hown : (closeM houseB (f, w) c).1.owner.length = f.owner.length := by
  show (if 0 ≤ (f.c c).srv then f.owner.set (f.c c).srv.toNat (-1) else f.owner).length = _
  split
  ·exact List.length_set
  ·rfl
 have hwait : (closeM houseB (f, w) c).1.wait = [] := by
  show f.wait.filter _ = []
  rw [k.wait]
  rfl
 generalize closeM houseB (f, w) c = y at *
 obtain ⟨f', w'⟩ := y
 simp only at hc hau hmode hown hwait
 have hlo : Lone S f' c := by
  refine ⟨fun i hi hne => ?_, by rw [hown]; exact k.few, k.once, hm, h6, fun j hj => ?_, hwait⟩
  ·rw [hc] at hne
   by_cases e : i = c
   ·rw [e]; exact hm
   ·rw [if_neg e] at hne
    exact k.held i hi hne
  ·have := k.idle j
   unfold busy at this ⊢
   rw [hc, if_neg hj]
   exact this
 obtain ⟨p1, p2, p3⟩ := pump_lone hs hlo
 refine ⟨?_, p2, p3.trans hmode⟩
 rw [p1, hc, if_pos rfl, hau]
 unfold Av.leave avOf auOf
 simp only [List.foldl_nil]
 congr 1
 funext j
 rw [hc]
 by_cases e : j = c
 ·rw [if_pos e, if_pos e]
 ·rw [if_neg e, if_neg e]
theorem act_calm {S : List Nat} {z : Fr × PB} {f : Fr} {w : Wo} (h : Sim z (f, w)) (k : AtRest S f) {a : Ac} (hm : a.c.toNat ∈ S) (h6 : a.c.toNat < 6) :
  avOf (actM houseB (f, w) a) = actV f.mode (avOf (f, w)) a ∧ AtRest S (actM houseB (f, w) a).1 ∧ (actM houseB (f, w) a).1.mode = f.mode := by
 have hfi : FI f := by have := h.fi; rw [h.front] at this; exact this
 have hl : a.c.toNat < f.cl.length := by rw [hfi.six]; exact h6
 unfold actM actV
 by_cases h2 : a.kind = 2
 ·rw [if_pos h2, if_pos h2]
  exact close_calm h k hm h6
 ·rw [if_neg h2, if_neg h2]
  generalize a.c.toNat = c at *
  have hp := h.pour h6 a.data
  have hpc : pourC (f.c c) a.data = (⟨(feedB ((f.c c).bytes ++ a.data)).2.1, (f.c c).pend ++ (feedB ((f.c c).bytes ++ a.data)).1, (f.c c).srv, (f.c c).sent⟩, (feedB ((f.c c).bytes ++ a.data)).2.2) := feedC_eq _
  rw [pend_of_calm (k.idle c), List.nil_append] at hpc
  have hav : (avOf (f, w)).bytes c = (f.c c).bytes := rfl
  rw [hav]
  unfold deliverM
  simp only
  rw [hpc]
  have hp' : Sim (z.1.set c (pourC (z.1.c c) a.data).1, z.2) (f.set c ⟨(feedB ((f.c c).bytes ++ a.data)).2.1, (feedB ((f.c c).bytes ++ a.data)).1, (f.c c).srv, (f.c c).sent⟩, w) := by
   have := hp
   simp only at this
   rw [hpc] at this
   exact this
  have hc : ∀ j, (f.set c ⟨(feedB ((f.c c).bytes ++ a.data)).2.1, (feedB ((f.c c).bytes ++ a.data)).1, (f.c c).srv, (f.c c).sent⟩).c j = if j = c then ⟨(feedB ((f.c c).bytes ++ a.data)).2.1, (feedB ((f.c c).bytes ++ a.data)).1, (f.c c).srv, (f.c c).sent⟩ else f.c j := fun j => c_set f hl _ j
  have hau : auOf (f.set c ⟨(feedB ((f.c c).bytes ++ a.data)).2.1, (feedB ((f.c c).bytes ++ a.data)).1, (f.c c).srv, (f.c c).sent⟩, w) = auOf (f, w) := by
   unfold auOf
   have : (fun i => ((f.set c ⟨(feedB ((f.c c).bytes ++ a.data)).2.1, (feedB ((f.c c).bytes ++ a.data)).1, (f.c c).srv, (f.c c).sent⟩).c i).sent) = fun i => (f.c i).sent := sent_same hl rfl
   simp only
   rw [this]
   rfl
  have hfed : (avOf (f, w)).fed f.mode c a.data = ⟨(feedB ((f.c c).bytes ++ a.data)).1.foldl (serve f.mode c) (auOf (f, w)), fun j => if j = c then (feedB ((f.c c).bytes ++ a.data)).2.1 else (f.c j).bytes⟩ := rfl
  have hlo : Lone S (f.set c ⟨(feedB ((f.c c).bytes ++ a.data)).2.1, (feedB ((f.c c).bytes ++ a.data)).1, (f.c c).srv, (f.c c).sent⟩) c := by
   refine ⟨fun i hi hne => ?_, k.few, k.once, hm, h6, fun j hj => ?_, k.wait⟩
   ·rw [hc] at hne
    by_cases e : i = c
    ·rw [e]; exact hm
    ·rw [if_neg e] at hne
     exact k.held i hi hne
   ·have := k.idle j
    unfold busy at this ⊢
    rw [hc, if_neg hj]
    exact this
  generalize hx : (⟨(feedB ((f.c c).bytes ++ a.data)).2.1, (feedB ((f.c c).bytes ++ a.data)).1, (f.c c).srv, (f.c c).sent⟩ : Cl) = x at *
  obtain ⟨p1, p2, p3⟩ := pump_lone hp' hlo
  have hfin : avOf (pumpM houseB (f.set c x, w)) = (avOf (f, w)).fed f.mode c a.data := by
   rw [p1, hau, hfed, hc, if_pos rfl]
   have e1 : x.pend = (feedB ((f.c c).bytes ++ a.data)).1 := by rw [← hx]
   rw [e1]
   congr 1
   funext j
   rw [hc]
   by_cases e : j = c
   ·rw [if_pos e, if_pos e, ← hx]
   ·rw [if_neg e, if_neg e]
  have hm2 : (f.set c x).mode = f.mode := rfl
  by_cases hb : (feedB ((f.c c).bytes ++ a.data)).2.2 = true
  ·rw [if_pos hb, if_pos hb]
   rcases hpu : pumpM houseB (f.set c x, w) with ⟨f', w'⟩
   have hs' := hp'.pump
   rw [hpu] at hfin p2 p3 hs'
   obtain ⟨q1, q2, q3⟩ := close_calm hs' p2 hm h6
   refine ⟨by rw [q1, hfin], q2, q3.trans p3⟩
  ·rw [if_neg hb, if_neg hb]
   exact ⟨hfin, p2, p3⟩
theorem run_calm {S : List Nat} : ∀ (l : List Ac) {z : Fr × PB} {f : Fr} {w : Wo}, (∀ a ∈ l, a.c.toNat ∈ S ∧ a.c.toNat < 6) → Sim z (f, w) → AtRest S f → avOf (runM houseB (f, w) l) = l.foldl (actV f.mode) (avOf (f, w))
 | [], _, _, _, _, _, _ => rfl
 | a :: l, z, f, w, hl, h, k => by
  obtain ⟨h1, h2⟩ := hl a List.mem_cons_self
  obtain ⟨p1, p2, p3⟩ := act_calm h k h1 h2
  have hs := h.actM (a := a) h2
  show avOf (runM houseB (actM houseB (f, w) a) l) = _
  rcases hy : actM houseB (f, w) a with ⟨f', w'⟩
  rw [hy] at p1 p2 p3 hs
  rw [run_calm l (fun x hx => hl x (List.mem_cons_of_mem _ hx)) hs p2, p1]
  have p3 : f'.mode = f.mode := p3
  rw [p3]
  rfl
def av0 : Av := ⟨⟨[], fun _ => ⟨#[]⟩, startH⟩, fun _ => ⟨#[]⟩⟩
theorem start_av (mode : Int) (n : Nat) : avOf (startF mode n, startH) = av0 := by
 unfold avOf auOf av0
 simp only [start_c]
 rfl
theorem start_calm (mode : Int) (n : Nat) {S : List Nat} (h1 : S.Nodup) (h2 : S.length ≤ n) : AtRest S (startF mode n) := by
 refine ⟨fun i _ hne => ?_, by simpa [startF] using h2, h1, fun j => ?_, rfl⟩
 ·rw [start_c] at hne
  exact absurd rfl hne
 ·unfold busy
  rw [start_c]
  rfl
theorem enough (mode : Int) (n : Nat) (hn : n ≤ 8) {S : List Nat} (h1 : S.Nodup) (h2 : S.length ≤ n) (l : List Ac) (hl : ∀ a ∈ l, a.c.toNat ∈ S ∧ a.c.toNat < 6) :
  avOf (runM houseB (startF mode n, startH) l) = l.foldl (actV mode) av0 := by
 rw [run_calm l hl (start_sim mode n hn) (start_calm mode n h1 h2), start_av]
 rfl
end Go.Proofs.YtjbnfigpflambacGreatDoor
/- Plain laws, no program: TopGone: where every client went, nothing is left of one. -/
namespace Go.Proofs.YtjbnfigpflambacGreatDoor
theorem Sim.ses {z : Fr × PB} {y : Fr × Wo} (h : Sim z y) : y.2.ses.length = 6 := h.rb.ses6
def aK : ByteArray := ⟨#[97]⟩
end Go.Proofs.YtjbnfigpflambacGreatDoor
/- Plain laws, no program: what a statement is answered. -/
namespace Go.Proofs.YtjbnfigpflambacGreatDoor
def errL : List ByteArray := [tFailed, tBegun, tNoTx, tNotIn, tFull, tHeld, tNotPrep, tAsked]
def AnsOk (a : An) : Prop := (a.kind = 1 ∧ a.text = ⟨#[]⟩) ∨ (a.kind = 3 ∧ a.text = ⟨#[]⟩) ∨ (a.kind = 2 ∧ 1 ≤ a.text.size ∧ a.text.size ≤ 20) ∨ (a.kind = 4 ∧ a.text ∈ errL)
theorem ok_ok : AnsOk okA := .inl ⟨rfl, rfl⟩
theorem no_ok {t : ByteArray} (h : t ∈ errL) : AnsOk (noA t) := .inr (.inr (.inr ⟨rfl, h⟩))
theorem value_sz {v : ByteArray} (h : valueB v = true) : 1 ≤ v.size ∧ v.size ≤ 20 := by
 unfold valueB at h
 simp only [Bool.and_eq_true, decide_eq_true_eq] at h
 exact h.1
theorem check_val {k : Int} {key v : ByteArray} (hk : k = 9 ∨ k = 10) (h : checkE ⟨k, key, v⟩ = 0) : valueB v = true := by
 unfold checkE at h
 rw [if_neg (by show ¬ k = 11; omega)] at h
 unfold plainE at h
 simp only at h
 rw [if_neg (by omega), if_neg (by omega)] at h
 split at h
 ·cases h
 rw [if_neg (by omega)] at h
 split at h
 ·assumption
 ·cases h
theorem found_ok {l : List Pr} {k : Int} (hk : k = 9 ∨ k = 10) (h : ∀ p ∈ l, checkE ⟨k, p.k, p.v⟩ = 0) (key : ByteArray) : AnsOk (foundA (atP l key)) := by
 cases e : atP l key with
 | none => exact .inr (.inl ⟨rfl, rfl⟩)
 | some v => exact .inr (.inr (.inl ⟨rfl, value_sz (check_val hk (h _ (atP_mem' e)))⟩))
theorem did1_ok {W : Wo} (g : Good W) {i : Nat} (hi : i < W.ses.length) (x : St) : AnsOk (did1 W i x).2 := by
 have gs := g.se hi
 have hset := ((pairs_iff _ _ _).1 gs.set).1
 have hwri := ((pairs_iff _ _ _).1 gs.wri).1
 have hrow := ((pairs_iff _ _ _).1 g.rows).1
 unfold did1
 split
 ·exact no_ok (by simp [errL])
 split
 ·unfold transW
  split
  ·exact ok_ok
  split
  ·exact no_ok (by simp [errL])
  split
  ·exact no_ok (by simp [errL])
  ·exact ok_ok
 split
 ·unfold resetW
  split
  ·exact ok_ok
  ·exact no_ok (by simp [errL])
 split
 ·exact found_ok (.inl rfl) hset _
 split
 ·unfold readW
  have h1 := found_ok (.inr rfl) hwri x.key
  have h2 := found_ok (.inr rfl) hrow x.key
  cases e : atP (W.se i).wri x.key with
  | none => exact h2
  | some v => rw [e] at h1; exact h1
 split
 ·unfold setW
  split
  ·exact no_ok (by simp [errL])
  ·exact ok_ok
 split
 ·unfold putW
  split
  ·exact no_ok (by simp [errL])
  split
  ·exact no_ok (by simp [errL])
  split
  ·exact ok_ok
  ·exact ok_ok
 split
 ·unfold prepW
  split
  ·exact no_ok (by simp [errL])
  ·exact ok_ok
 ·exact no_ok (by simp [errL])
theorem did_ok {W : Wo} (g : Good W) {i : Nat} (hi : i < W.ses.length) (x : St) : AnsOk (did W i x).2 := by
 unfold did
 split
 ·unfold execW
  split
  ·exact no_ok (by simp [errL])
  ·split
   ·exact no_ok (by simp [errL])
   ·exact did1_ok g hi _
 ·exact did1_ok g hi x
theorem doW_ok {W : Wo} (g : Good W) {i : Nat} (hi : i < W.ses.length) (x : St) : AnsOk (doW W i x).2 := by
 have h := did_ok g hi x
 unfold AnsOk at h ⊢
 exact h
theorem ans_size {a : An} (h : AnsOk a) : a.text.size ≤ 60 := by
 rcases h with ⟨_, h⟩ | ⟨_, h⟩ | ⟨_, _, h⟩ | ⟨_, h⟩
 ·rw [h]; decide
 ·rw [h]; decide
 ·omega
 ·have : errL.all (fun t => decide (t.size ≤ 60)) = true := by decide +kernel
  simpa using List.all_eq_true.1 this _ h
end Go.Proofs.YtjbnfigpflambacGreatDoor
/- Plain laws, no program: what a client was sent: answers to its requests, in order; those of its deeds, and those that no server gave. -/
namespace Go.Proofs.YtjbnfigpflambacGreatDoor
/-! answers of a session -/
theorem size_toList (t : ByteArray) : t.data.toList.length = t.size := by simp
theorem fit_of {a : An} (h : AnsOk a) (h0 : 0 ≤ a.st) (h2 : a.st ≤ 2) : fitA a.kind a.text a.st = true := by
 unfold fitA
 have hst : (decide (0 ≤ a.st) && decide (a.st ≤ 2)) = true := by simp [h0, h2]
 rcases h with ⟨h, e⟩ | ⟨h, e⟩ | ⟨h, e1, e2⟩ | ⟨h, e⟩
 ·have h5 : (⟨#[]⟩ : ByteArray).size ≤ 60 := by decide
  rw [h, e]; simp [h0, h2, h5]
 ·have h5 : (⟨#[]⟩ : ByteArray).size ≤ 60 := by decide
  rw [h, e]; simp [h0, h2, h5]
 ·have hne : a.text.data.toList.isEmpty = false := by
   rcases e : a.text.data.toList with _ | ⟨b, l⟩
   ·have := size_toList a.text
    rw [e] at this
    simp at this
    omega
   ·rfl
  rw [h, hne]
  simp [h0, h2]
  omega
 ·have hall : ∀ t ∈ errL, t.data.toList.isEmpty = false ∧ t.size ≤ 60 := by decide +kernel
  obtain ⟨q1, q2⟩ := hall _ e
  rw [h, q1]
  simp [h0, h2]
  exact q2
/-! texts that no server gives -/
def notL : List ByteArray := [stB 0, stB 1, stB 2].flatMap fun s => [s ++ bodyB 4 tNotUnd, s ++ bodyB 4 tNotMode]
def errB (t : ByteArray) : Bool := notL.any fun x => decide (x = t)
def tellA (a : An) : ByteArray := tellS a.kind a.text a.st
theorem body_sz (k : Int) (t : ByteArray) (ht : t.size ≤ 60) : (bodyB k t).size ≤ 61 := by
 unfold bodyB
 split
 ·decide
 split
 ·rw [ByteArray.size_append]; have : (⟨#[61]⟩ : ByteArray).size = 1 := rfl; omega
 split
 ·decide
 ·rw [ByteArray.size_append]; have : (⟨#[33]⟩ : ByteArray).size = 1 := rfl; omega
theorem tell_sz (a : An) : (tellA a).size ≤ 62 := by
 unfold tellA tellS
 split
 ·rename_i h
  unfold fitA at h
  simp only [Bool.and_eq_true, decide_eq_true_eq] at h
  rw [ByteArray.size_append]
  have h1 := body_sz a.kind a.text h.2
  have h3 : (stB a.st).size = 1 := by unfold stB; split; rfl; split <;> rfl
  omega
 ·decide
theorem tellM_eq (a : An) : tellM a = msg 82 (tellA a) := by
 unfold tellM packS
 rw [if_neg (by have := tell_sz a; unfold tellA at this; omega)]
 rfl
/-! what a client was sent -/
def catM (ts : List ByteArray) : ByteArray := ts.foldl (fun s t => s ++ msg 82 t) ⟨#[]⟩
theorem cat_snoc (ts : List ByteArray) (t : ByteArray) : catM (ts ++ [t]) = catM ts ++ msg 82 t := by unfold catM; rw [List.foldl_append]; rfl
theorem cat_acc : ∀ (ts : List ByteArray) (s : ByteArray), ts.foldl (fun s t => s ++ msg 82 t) s = s ++ catM ts
 | [], s => (app_nil s).symm
 | t :: ts, s => by
  unfold catM
  rw [List.foldl_cons, List.foldl_cons, cat_acc ts, cat_acc ts (⟨#[]⟩ ++ msg 82 t), ← ByteArray.append_assoc, show (⟨#[]⟩ : ByteArray) ++ msg 82 t = msg 82 t from arr_eq (by simp)]
theorem cat_cons (t : ByteArray) (ts : List ByteArray) : catM (t :: ts) = msg 82 t ++ catM ts := by
 have e : catM (t :: ts) = ts.foldl (fun s t => s ++ msg 82 t) (⟨#[]⟩ ++ msg 82 t) := rfl
 rw [e, cat_acc]
 have e2 : (⟨#[]⟩ : ByteArray) ++ msg 82 t = msg 82 t := arr_eq (by simp)
 rw [e2]
def ownD (c : Nat) (ds : List De) : List ByteArray := (ds.filter fun d => decide (d.c = c)).map fun d => tellA d.a
def SentOk (N : Nat) (f : Fr) (c : Nat) : Prop := ∃ ts, (f.c c).sent = catM ts ∧ (∀ t ∈ ts, t.size ≤ 62) ∧ ownD c f.deeds = ts.filter (fun t => !errB t) ∧ ts.length + (f.c c).pend.length + (f.c c).bytes.size ≤ N
theorem SentOk.same {N : Nat} {f g : Fr} {c : Nat} (h : SentOk N f c) (h1 : (g.c c).sent = (f.c c).sent) (h2 : ownD c g.deeds = ownD c f.deeds) (h3 : (g.c c).pend.length + (g.c c).bytes.size ≤ (f.c c).pend.length + (f.c c).bytes.size) : SentOk N g c := by
 obtain ⟨ts, e1, e2, e3, e4⟩ := h
 exact ⟨ts, by rw [h1, e1], e2, by rw [h2, e3], by omega⟩
theorem SentOk.tell {N : Nat} {f g : Fr} {c : Nat} (h : SentOk N f c) {t : ByteArray} (ht : t.size ≤ 62) (h1 : (g.c c).sent = (f.c c).sent ++ msg 82 t) (h2 : ownD c g.deeds = ownD c f.deeds ++ (if errB t = true then [] else [t]))
  (h3 : (g.c c).pend.length + 1 ≤ (f.c c).pend.length) (h4 : (g.c c).bytes = (f.c c).bytes) : SentOk N g c := by
 obtain ⟨ts, e1, e2, e3, e4⟩ := h
 refine ⟨ts ++ [t], by rw [h1, e1, cat_snoc], fun x hx => ?_, ?_, ?_⟩
 ·rcases List.mem_append.1 hx with hx | hx
  ·exact e2 x hx
  ·rw [List.mem_singleton] at hx; subst hx; exact ht
 ·rw [h2, e3, List.filter_append]
  congr 1
  cases he : errB t <;> simp [he]
 ·rw [h4]
  simp only [List.length_append, List.length_cons, List.length_nil]
  omega
theorem SentOk.more {N M : Nat} {f : Fr} {c : Nat} (h : SentOk N f c) (hM : N ≤ M) : SentOk M f c := by
 obtain ⟨ts, e1, e2, e3, e4⟩ := h
 exact ⟨ts, e1, e2, e3, by omega⟩
end Go.Proofs.YtjbnfigpflambacGreatDoor
/- Plain laws, no program: a client alone is answered as by a server of its own. -/
namespace Go.Proofs.YtjbnfigpflambacGreatDoor
theorem whole_msg (k : UInt8) {t : ByteArray} (ht : t.size ≤ 120) (more : ByteArray) : wholeB (msg k t ++ more) = true ∧ kindAt (msg k t ++ more) = k ∧ textAt (msg k t ++ more) = t ∧ restAt (msg k t ++ more) = more := by
 have e : (msg k t ++ more).data.toList = k :: UInt8.ofNat t.size :: (t.data.toList ++ more.data.toList) := by simp [msg_list]
 have hh : headN (msg k t ++ more) = 2 + t.size := by
  unfold headN
  rw [e]
  show 2 + (UInt8.ofNat t.size).toNat = _
  rw [UInt8.toNat_ofNat']
  omega
 have hz : (msg k t ++ more).size = 2 + t.size + more.size := by rw [ByteArray.size_append, msg_size]
 refine ⟨?_, ?_, ?_, ?_⟩
 ·unfold wholeB
  rw [hh, hz]
  simp only [Bool.and_eq_true, decide_eq_true_eq]
  omega
 ·unfold kindAt
  rw [e]
  rfl
 ·unfold textAt
  rw [hh]
  exact msg_text k t more
 ·unfold restAt
  rw [hh]
  apply arr_eq
  rw [extract_list, e, hz]
  have h2 : (k :: UInt8.ofNat t.size :: (t.data.toList ++ more.data.toList)).drop (2 + t.size) = more.data.toList := by
   rw [show 2 + t.size = t.size + 1 + 1 by omega, List.drop_succ_cons, List.drop_succ_cons, List.drop_append_of_le_length (by simp), List.drop_of_length_le (by simp), List.nil_append]
  rw [h2]
  exact List.take_of_length_le (by simp)
structure TextFor (t : ByteArray) (x : St) : Prop where
 sz : t.size ≤ 120
 e : readE t = 0
 s : readS t = x
theorem feed_msg {t : ByteArray} {x : St} (h : TextFor t x) (more : ByteArray) : feedB (msg 81 t ++ more) = ((x, false) :: (feedB more).1, (feedB more).2) := by
 obtain ⟨h1, h2, h3, h4⟩ := whole_msg 81 h.sz more
 have ha : askedOf (msg 81 t ++ more) = (x, false) := by
  unfold askedOf
  rw [h3, h2, h.s, h.e]
  rfl
 rw [feedB_go h1 (by rw [h2]; decide), h4, ha]
theorem feed_nil : feedB ⟨#[]⟩ = ([], ⟨#[]⟩, false) := feedB_no (by decide)
theorem app_none (a : ByteArray) : a ++ (⟨#[]⟩ : ByteArray) = a := arr_eq (by simp)
theorem none_app (a : ByteArray) : (⟨#[]⟩ : ByteArray) ++ a = a := arr_eq (by simp)
theorem feed_one {t : ByteArray} {x : St} (h : TextFor t x) : feedB (msg 81 t) = ([(x, false)], ⟨#[]⟩, false) := by
 have := feed_msg h ⟨#[]⟩
 rw [app_none, feed_nil] at this
 exact this
def alF (z : Wo × List ByteArray) (x : St) : Wo × List ByteArray := ((doW z.1 0 x).1, z.2 ++ [tellA (doW z.1 0 x).2])
def alL (xs : List St) : Wo × List ByteArray := xs.foldl alF (⟨[], [Se.new]⟩, [])
structure Lonely (c : Nat) (v : Av) (z : Wo × List ByteArray) : Prop where
 bytes : v.bytes c = ⟨#[]⟩
 six : v.u.w.ses.length = 6
 new : ∀ j, j ≠ c → v.u.w.se j = Se.new
 one : z.1.ses.length = 1
 se : v.u.w.se c = z.1.se 0
 rows : v.u.w.rows = z.1.rows
 sent : v.u.sent c = catM z.2
 deeds : v.u.deeds.length = z.2.length
theorem Lonely.held {c : Nat} {v : Av} {z : Wo × List ByteArray} (h : Lonely c v z) (k : ByteArray) : heldB v.u.w.ses c k = heldB z.1.ses 0 k := by
 rw [Bool.eq_iff_iff, held_iff, held_iff]
 constructor
 ·rintro ⟨j, _, hj, hk⟩
  have hk : hasK (v.u.w.se j).wri k = true := hk
  rw [h.new j hj] at hk
  cases hk
 ·rintro ⟨j, hj, hne, _⟩
  rw [h.one] at hj
  omega
theorem Lonely.keys {c : Nat} {v : Av} {z : Wo × List ByteArray} (h : Lonely c v z) (hc : c < 6) : card (keysW v.u.w) = card (keysW z.1) := by
 refine card_congr fun x => ?_
 rw [mem_keys, mem_keys, h.rows]
 refine or_congr Iff.rfl ⟨?_, ?_⟩
 ·rintro ⟨j, hj, hk⟩
  by_cases e : j = c
  ·subst e
   exact ⟨0, by rw [h.one]; omega, by rw [← h.se]; exact hk⟩
  ·rw [h.new j e] at hk
   cases hk
 ·rintro ⟨j, hj, hk⟩
  rw [h.one] at hj
  obtain rfl : j = 0 := by omega
  exact ⟨c, by rw [h.six]; exact hc, by rw [h.se]; exact hk⟩
theorem Lonely.act {c : Nat} (hc : c < 6) {mode : Int} (hm : mode ≠ 3) {v : Av} {z : Wo × List ByteArray} (h : Lonely c v z) {t : ByteArray} {x : St} (ht : TextFor t x) : Lonely c (actV mode v ⟨1, (c : Int), msg 81 t⟩) (alF z x) := by
 have hb : v.bytes c ++ msg 81 t = msg 81 t := by rw [h.bytes, none_app]
 have e : actV mode v ⟨1, (c : Int), msg 81 t⟩ = ⟨serve mode c v.u (x, false), fun j => if j = c then ⟨#[]⟩ else v.bytes j⟩ := by
  unfold actV
  rw [if_neg (by simp)]
  show (if (feedB (v.bytes c ++ msg 81 t)).2.2 = true then _ else v.fed mode c (msg 81 t)) = _
  rw [hb, feed_one ht, if_neg (by simp)]
  unfold Av.fed
  rw [hb, feed_one ht]
  rfl
 have es : serve mode c v.u (x, false) = (⟨v.u.deeds ++ [⟨c, x, (doW v.u.w c x).2⟩], v.u.sent, (doW v.u.w c x).1⟩ : Au).tell c (doW v.u.w c x).2 := by
  unfold serve
  rw [if_neg (by simp), if_neg (fun hh => hm hh.1)]
 have hs : c < v.u.w.ses.length := by rw [h.six]; exact hc
 have hi : 0 < z.1.ses.length := by rw [h.one]; omega
 obtain ⟨a1, a2, a3⟩ := doW_sim hs hi h.se h.rows h.held (h.keys hc) x
 have m1 := doW_mine v.u.w c x
 have m2 := doW_mine z.1 0 x
 rw [e, es]
 refine ⟨if_pos rfl, m1.1.trans h.six, fun j hj => (m1.2 j hj).trans (h.new j hj), m2.1.trans h.one, a3, a2, ?_, ?_⟩
 ·show (if c = c then v.u.sent c ++ tellM (doW v.u.w c x).2 else v.u.sent c) = catM (z.2 ++ [tellA (doW z.1 0 x).2])
  rw [if_pos rfl, h.sent, a1, cat_snoc, tellM_eq]
 ·show (v.u.deeds ++ [_]).length = (z.2 ++ [_]).length
  rw [List.length_append, List.length_append, h.deeds]
  rfl
theorem Lonely.run {c : Nat} (hc : c < 6) {mode : Int} (hm : mode ≠ 3) : ∀ (ts : List (ByteArray × St)) {v : Av} {z : Wo × List ByteArray}, (∀ p ∈ ts, TextFor p.1 p.2) → Lonely c v z →
  Lonely c ((ts.map fun p => (⟨1, (c : Int), msg 81 p.1⟩ : Ac)).foldl (actV mode) v) ((ts.map (·.2)).foldl alF z)
 | [], _, _, _, h => h
 | p :: ts, _, _, ht, h => Lonely.run hc hm ts (fun q hq => ht q (List.mem_cons_of_mem _ hq)) (h.act hc hm (ht p List.mem_cons_self))
theorem alone_law (mode : Int) (hm : mode ≠ 3) (n : Nat) (h1 : 1 ≤ n) (hn : n ≤ 8) {c : Nat} (hc : c < 6) (ts : List (ByteArray × St)) (ht : ∀ p ∈ ts, TextFor p.1 p.2) :
  ((runM houseB (startF mode n, startH) (ts.map fun p => (⟨1, (c : Int), msg 81 p.1⟩ : Ac))).1.c c).sent = catM (alL (ts.map (·.2))).2 ∧
  (runM houseB (startF mode n, startH) (ts.map fun p => (⟨1, (c : Int), msg 81 p.1⟩ : Ac))).2.rows = (alL (ts.map (·.2))).1.rows ∧
  (runM houseB (startF mode n, startH) (ts.map fun p => (⟨1, (c : Int), msg 81 p.1⟩ : Ac))).1.deeds.length = (alL (ts.map (·.2))).2.length := by
 have he := enough mode n hn (S := [c]) (by simp) (by simpa using h1) (ts.map fun p => (⟨1, (c : Int), msg 81 p.1⟩ : Ac)) (by
  intro a ha
  obtain ⟨p, _, rfl⟩ := List.mem_map.1 ha
  exact ⟨by simp, by simpa using hc⟩)
 have hl : Lonely c av0 (⟨[], [Se.new]⟩, []) := by
  refine ⟨rfl, rfl, fun j _ => ?_, rfl, ?_, rfl, rfl, rfl⟩
  ·show (List.replicate 6 Se.new).getD j Se.new = Se.new
   exact rep_getD 6 j Se.new
  ·show (List.replicate 6 Se.new).getD c Se.new = Se.new
   exact rep_getD 6 c Se.new
 have k := hl.run hc hm ts ht
 rw [← he] at k
 exact ⟨k.sent, k.rows, k.deeds⟩
theorem al_len (xs : List St) : ∀ (z : Wo × List ByteArray), (xs.foldl alF z).2.length = z.2.length + xs.length := by
 induction xs with
 | nil => intro z; rfl
 | cons x xs ih => intro z; rw [List.foldl_cons, ih]; unfold alF; simp; omega
end Go.Proofs.YtjbnfigpflambacGreatDoor
