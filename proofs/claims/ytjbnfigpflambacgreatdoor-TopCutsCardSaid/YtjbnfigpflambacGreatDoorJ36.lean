/- Plain laws, no program: with servers enough, an act is done at once; TopModes and TopCuts. Plain laws, no program: every row was written by a client that was answered so; a client gets its own settings alone. The pool's outcome is the house's. slices.Equal on deeds, on texts and tillermantop.same, for what is the same. slices.ContainsFunc over deeds with TopCommitted$1. -/
import Derived.Test.YtjbnfigpflambacGreatDoorJ03
import Derived.Test.YtjbnfigpflambacGreatDoorJ06
import Derived.Test.YtjbnfigpflambacGreatDoorJ22
import Derived.Test.YtjbnfigpflambacGreatDoorJ35
import Derived.Lib.SliceRun
import Derived.Deep.CutBlock
/- Plain laws, no program: with servers enough, an act is done at once; TopModes and TopCuts. -/
namespace Go.Proofs.YtjbnfigpflambacGreatDoor
/-- the statements in bytes, what is left, and whether the client says that it goes -/
def feedB (b : ByteArray) : List (St × Bool) × ByteArray × Bool :=
 if _h : wholeB b = true then
  if kindAt b = 88 then ([], restAt b, true) else (askedOf b :: (feedB (restAt b)).1, (feedB (restAt b)).2)
 else ([], b, false)
termination_by b.size
decreasing_by all_goals exact rest_lt _h
theorem feedB_no {b : ByteArray} (h : wholeB b = false) : feedB b = ([], b, false) := by rw [feedB, dif_neg (by rw [h]; simp)]
theorem feedB_x {b : ByteArray} (h : wholeB b = true) (hk : kindAt b = 88) : feedB b = ([], restAt b, true) := by rw [feedB, dif_pos h, if_pos hk]
theorem feedB_go {b : ByteArray} (h : wholeB b = true) (hk : kindAt b ≠ 88) : feedB b = (askedOf b :: (feedB (restAt b)).1, (feedB (restAt b)).2) := by rw [feedB, dif_pos h, if_neg hk]
theorem feedC_eq (x : Cl) : feedC x = (⟨(feedB x.bytes).2.1, x.pend ++ (feedB x.bytes).1, x.srv, x.sent⟩, (feedB x.bytes).2.2) := by
 induction hn : x.bytes.size using Nat.strongRecOn generalizing x with
 | ind n ih =>
  rw [feedC]
  by_cases hw : wholeB x.bytes = true
  ·rw [dif_pos hw]
   by_cases hk : kindAt x.bytes = 88
   ·rw [if_pos hk, feedB_x hw hk]
    simp
   ·rw [if_neg hk, feedB_go hw hk, ih _ (by rw [← hn]; exact rest_lt hw) ⟨restAt x.bytes, x.pend ++ [askedOf x.bytes], x.srv, x.sent⟩ rfl]
    simp
  ·rw [dif_neg hw, feedB_no (by simpa using hw)]
   simp
/-- what shows, and the bytes of each client -/
structure Av where
 u : Au
 bytes : Nat → ByteArray
def avOf (y : Fr × Wo) : Av := ⟨auOf y, fun i => (y.1.c i).bytes⟩
def Av.leave (v : Av) (i : Nat) : Av := ⟨⟨v.u.deeds, v.u.sent, v.u.w.put i Se.new⟩, fun j => if j = i then ⟨#[]⟩ else v.bytes j⟩
def Av.fed (mode : Int) (v : Av) (i : Nat) (data : ByteArray) : Av := ⟨(feedB (v.bytes i ++ data)).1.foldl (serve mode i) v.u, fun j => if j = i then (feedB (v.bytes i ++ data)).2.1 else v.bytes j⟩
def actV (mode : Int) (v : Av) (a : Ac) : Av :=
 if a.kind = 2 then v.leave a.c.toNat
 else if (feedB (v.bytes a.c.toNat ++ a.data)).2.2 = true then (v.fed mode a.c.toNat a.data).leave a.c.toNat else v.fed mode a.c.toNat a.data
/-- nobody waits for anything -/
structure AtRest (S : List Nat) (f : Fr) : Prop where
 held : Held S f
 few : S.length ≤ f.owner.length
 once : S.Nodup
 idle : ∀ j, busy f j = false
 wait : f.wait = []
theorem bytes_pump (y : Fr × Wo) : (fun i => ((pumpM houseB y).1.c i).bytes) = fun i => (y.1.c i).bytes := by
 funext i
 exact pump_bytes houseB y i
/-- a pump of a state in which one alone may wait -/
theorem pump_lone {S : List Nat} {z : Fr × PB} {f : Fr} {w : Wo} (h : Sim z (f, w)) {c : Nat} (hl : Lone S f c) :
  avOf (pumpM houseB (f, w)) = ⟨(f.c c).pend.foldl (serve f.mode c) (auOf (f, w)), fun i => (f.c i).bytes⟩ ∧ AtRest S (pumpM houseB (f, w)).1 ∧ (pumpM houseB (f, w)).1.mode = f.mode := by
 have k := served S c _ h hl rfl
 refine ⟨?_, ⟨k.held, by rw [k.owner]; exact hl.few, hl.once, k.calm, k.wait⟩, k.mode⟩
 unfold avOf
 rw [k.au, bytes_pump]
theorem pend_of_calm {f : Fr} {c : Nat} (h : busy f c = false) : (f.c c).pend = [] := by
 unfold busy at h
 simpa using h
/-- a client leaves a calm house -/
theorem close_calm {S : List Nat} {z : Fr × PB} {f : Fr} {w : Wo} (h : Sim z (f, w)) (k : AtRest S f) {c : Nat} (hm : c ∈ S) (h6 : c < 6) :
  avOf (pumpM houseB (closeM houseB (f, w) c)) = (avOf (f, w)).leave c ∧ AtRest S (pumpM houseB (closeM houseB (f, w) c)).1 ∧ (pumpM houseB (closeM houseB (f, w) c)).1.mode = f.mode := by
 have hfi : FI f := by have := h.fi; rw [h.front] at this; exact this
 have hl : c < f.cl.length := by rw [hfi.six]; exact h6
 have hs := h.close h6
 have hc : ∀ j, (closeM houseB (f, w) c).1.c j = if j = c then ⟨⟨#[]⟩, [], -1, (f.c c).sent⟩ else f.c j := fun j => c_set f hl _ j
 have hau : auOf (closeM houseB (f, w) c) = ⟨f.deeds, fun i => (f.c i).sent, w.put c Se.new⟩ := by
  unfold auOf
  have : (fun i => ((closeM houseB (f, w) c).1.c i).sent) = fun i => (f.c i).sent := sent_same (x := ⟨⟨#[]⟩, [], -1, (f.c c).sent⟩) hl rfl
  rw [this]
  rfl
 have hmode : (closeM houseB (f, w) c).1.mode = f.mode := rfl
 have hown : (closeM houseB (f, w) c).1.owner.length = f.owner.length := by
  show (if 0 ≤ (f.c c).srv then f.owner.set (f.c c).srv.toNat (-1) else f.owner).length = _
  split
  ·exact List.length_set
  ·rfl
 have hwait : (closeM houseB (f, w) c).1.wait = [] := by
  show f.wait.filter _ = []
  rw [k.wait]
  rfl
 generalize closeM houseB (f, w) c = y at *
 obtain ⟨f', w'⟩ := y
 simp only at hc hau hmode hown hwait
 have hlo : Lone S f' c := by
  refine ⟨fun i hi hne => ?_, by rw [hown]; exact k.few, k.once, hm, h6, fun j hj => ?_, hwait⟩
  ·rw [hc] at hne
   by_cases e : i = c
   ·rw [e]; exact hm
   ·rw [if_neg e] at hne
    exact k.held i hi hne
  ·have := k.idle j
   unfold busy at this ⊢
   rw [hc, if_neg hj]
   exact this
 obtain ⟨p1, p2, p3⟩ := pump_lone hs hlo
 refine ⟨?_, p2, p3.trans hmode⟩
 rw [p1, hc, if_pos rfl, hau]
 unfold Av.leave avOf auOf
 simp only [List.foldl_nil]
 congr 1
 funext j
 rw [hc]
 by_cases e : j = c
 ·rw [if_pos e, if_pos e]
 ·rw [if_neg e, if_neg e]
theorem act_calm {S : List Nat} {z : Fr × PB} {f : Fr} {w : Wo} (h : Sim z (f, w)) (k : AtRest S f) {a : Ac} (hm : a.c.toNat ∈ S) (h6 : a.c.toNat < 6) :
  avOf (actM houseB (f, w) a) = actV f.mode (avOf (f, w)) a ∧ AtRest S (actM houseB (f, w) a).1 ∧ (actM houseB (f, w) a).1.mode = f.mode := by
 have hfi : FI f := by have := h.fi; rw [h.front] at this; exact this
 have hl : a.c.toNat < f.cl.length := by rw [hfi.six]; exact h6
 unfold actM actV
 by_cases h2 : a.kind = 2
 ·rw [if_pos h2, if_pos h2]
  exact close_calm h k hm h6
 ·rw [if_neg h2, if_neg h2]
  generalize a.c.toNat = c at *
  have hp := h.pour h6 a.data
  have hpc : pourC (f.c c) a.data = (⟨(feedB ((f.c c).bytes ++ a.data)).2.1, (f.c c).pend ++ (feedB ((f.c c).bytes ++ a.data)).1, (f.c c).srv, (f.c c).sent⟩, (feedB ((f.c c).bytes ++ a.data)).2.2) := feedC_eq _
  rw [pend_of_calm (k.idle c), List.nil_append] at hpc
  have hav : (avOf (f, w)).bytes c = (f.c c).bytes := rfl
  rw [hav]
  unfold deliverM
  simp only
  rw [hpc]
  have hp' : Sim (z.1.set c (pourC (z.1.c c) a.data).1, z.2) (f.set c ⟨(feedB ((f.c c).bytes ++ a.data)).2.1, (feedB ((f.c c).bytes ++ a.data)).1, (f.c c).srv, (f.c c).sent⟩, w) := by
   have := hp
   simp only at this
   rw [hpc] at this
   exact this
  have hc : ∀ j, (f.set c ⟨(feedB ((f.c c).bytes ++ a.data)).2.1, (feedB ((f.c c).bytes ++ a.data)).1, (f.c c).srv, (f.c c).sent⟩).c j = if j = c then ⟨(feedB ((f.c c).bytes ++ a.data)).2.1, (feedB ((f.c c).bytes ++ a.data)).1, (f.c c).srv, (f.c c).sent⟩ else f.c j := fun j => c_set f hl _ j
  have hau : auOf (f.set c ⟨(feedB ((f.c c).bytes ++ a.data)).2.1, (feedB ((f.c c).bytes ++ a.data)).1, (f.c c).srv, (f.c c).sent⟩, w) = auOf (f, w) := by
   unfold auOf
   have : (fun i => ((f.set c ⟨(feedB ((f.c c).bytes ++ a.data)).2.1, (feedB ((f.c c).bytes ++ a.data)).1, (f.c c).srv, (f.c c).sent⟩).c i).sent) = fun i => (f.c i).sent := sent_same hl rfl
   simp only
   rw [this]
   rfl
  have hfed : (avOf (f, w)).fed f.mode c a.data = ⟨(feedB ((f.c c).bytes ++ a.data)).1.foldl (serve f.mode c) (auOf (f, w)), fun j => if j = c then (feedB ((f.c c).bytes ++ a.data)).2.1 else (f.c j).bytes⟩ := rfl
  have hlo : Lone S (f.set c ⟨(feedB ((f.c c).bytes ++ a.data)).2.1, (feedB ((f.c c).bytes ++ a.data)).1, (f.c c).srv, (f.c c).sent⟩) c := by
   refine ⟨fun i hi hne => ?_, k.few, k.once, hm, h6, fun j hj => ?_, k.wait⟩
   ·rw [hc] at hne
    by_cases e : i = c
    ·rw [e]; exact hm
    ·rw [if_neg e] at hne
     exact k.held i hi hne
   ·have := k.idle j
    unfold busy at this ⊢
    rw [hc, if_neg hj]
    exact this
  generalize hx : (⟨(feedB ((f.c c).bytes ++ a.data)).2.1, (feedB ((f.c c).bytes ++ a.data)).1, (f.c c).srv, (f.c c).sent⟩ : Cl) = x at *
  obtain ⟨p1, p2, p3⟩ := pump_lone hp' hlo
  have hfin : avOf (pumpM houseB (f.set c x, w)) = (avOf (f, w)).fed f.mode c a.data := by
   rw [p1, hau, hfed, hc, if_pos rfl]
   have e1 : x.pend = (feedB ((f.c c).bytes ++ a.data)).1 := by rw [← hx]
   rw [e1]
   congr 1
   funext j
   rw [hc]
   by_cases e : j = c
   ·rw [if_pos e, if_pos e, ← hx]
   ·rw [if_neg e, if_neg e]
  have hm2 : (f.set c x).mode = f.mode := rfl
  by_cases hb : (feedB ((f.c c).bytes ++ a.data)).2.2 = true
  ·rw [if_pos hb, if_pos hb]
   rcases hpu : pumpM houseB (f.set c x, w) with ⟨f', w'⟩
   have hs' := hp'.pump
   rw [hpu] at hfin p2 p3 hs'
   obtain ⟨q1, q2, q3⟩ := close_calm hs' p2 hm h6
   refine ⟨by rw [q1, hfin], q2, q3.trans p3⟩
  ·rw [if_neg hb, if_neg hb]
   exact ⟨hfin, p2, p3⟩
theorem run_calm {S : List Nat} : ∀ (l : List Ac) {z : Fr × PB} {f : Fr} {w : Wo}, (∀ a ∈ l, a.c.toNat ∈ S ∧ a.c.toNat < 6) → Sim z (f, w) → AtRest S f → avOf (runM houseB (f, w) l) = l.foldl (actV f.mode) (avOf (f, w))
 | [], _, _, _, _, _, _ => rfl
 | a :: l, z, f, w, hl, h, k => by
  obtain ⟨h1, h2⟩ := hl a List.mem_cons_self
  obtain ⟨p1, p2, p3⟩ := act_calm h k h1 h2
  have hs := h.actM (a := a) h2
  show avOf (runM houseB (actM houseB (f, w) a) l) = _
  rcases hy : actM houseB (f, w) a with ⟨f', w'⟩
  rw [hy] at p1 p2 p3 hs
  rw [run_calm l (fun x hx => hl x (List.mem_cons_of_mem _ hx)) hs p2, p1]
  have p3 : f'.mode = f.mode := p3
  rw [p3]
  rfl
def av0 : Av := ⟨⟨[], fun _ => ⟨#[]⟩, startH⟩, fun _ => ⟨#[]⟩⟩
theorem start_av (mode : Int) (n : Nat) : avOf (startF mode n, startH) = av0 := by
 unfold avOf auOf av0
 simp only [start_c]
 rfl
theorem start_calm (mode : Int) (n : Nat) {S : List Nat} (h1 : S.Nodup) (h2 : S.length ≤ n) : AtRest S (startF mode n) := by
 refine ⟨fun i _ hne => ?_, by simpa [startF] using h2, h1, fun j => ?_, rfl⟩
 ·rw [start_c] at hne
  exact absurd rfl hne
 ·unfold busy
  rw [start_c]
  rfl
/-- a script of some clients over servers enough -/
theorem enough (mode : Int) (n : Nat) (hn : n ≤ 8) {S : List Nat} (h1 : S.Nodup) (h2 : S.length ≤ n) (l : List Ac) (hl : ∀ a ∈ l, a.c.toNat ∈ S ∧ a.c.toNat < 6) :
  avOf (runM houseB (startF mode n, startH) l) = l.foldl (actV mode) av0 := by
 rw [run_calm l hl (start_sim mode n hn) (start_calm mode n h1 h2), start_av]
 rfl
/-! cuts -/
theorem getD_app {s t : ByteArray} {i : Nat} (h : i < s.size) : (s ++ t).data.toList.getD i 0 = s.data.toList.getD i 0 := by
 have e : (s ++ t).data.toList = s.data.toList ++ t.data.toList := by simp
 have hl : i < s.data.toList.length := by have : s.data.toList.length = s.size := by simp
                                          omega
 rw [e, List.getD_eq_getElem?_getD, List.getElem?_append_left hl, List.getD_eq_getElem?_getD]
theorem whole_app {s : ByteArray} (h : wholeB s = true) (t : ByteArray) : wholeB (s ++ t) = true ∧ kindAt (s ++ t) = kindAt s ∧ textAt (s ++ t) = textAt s ∧ restAt (s ++ t) = restAt s ++ t := by
 unfold wholeB at h
 simp only [Bool.and_eq_true, decide_eq_true_eq] at h
 obtain ⟨h1, h2⟩ := h
 have hh : headN (s ++ t) = headN s := by unfold headN; rw [getD_app (by omega)]
 have hz : (s ++ t).size = s.size + t.size := ByteArray.size_append
 refine ⟨?_, ?_, ?_, ?_⟩
 ·unfold wholeB
  rw [hh, hz]
  simp only [Bool.and_eq_true, decide_eq_true_eq]
  omega
 ·unfold kindAt
  exact getD_app (by omega)
 ·unfold textAt
  rw [hh]
  apply arr_eq
  rw [extract_list, extract_list]
  have e : (s ++ t).data.toList = s.data.toList ++ t.data.toList := by simp
  have hl : s.data.toList.length = s.size := by simp
  rw [e, List.drop_append_of_le_length (by omega), List.take_append_of_le_length (by rw [List.length_drop]; omega)]
 ·unfold restAt
  rw [hh, hz]
  apply arr_eq
  have e : (restAt s ++ t).data.toList = (restAt s).data.toList ++ t.data.toList := by simp
  have hl : s.data.toList.length = s.size := by simp
  have e2 : (s.extract (headN s) s.size ++ t).data.toList = (s.extract (headN s) s.size).data.toList ++ t.data.toList := by simp
  rw [e2, extract_list, extract_list]
  have e3 : (s ++ t).data.toList = s.data.toList ++ t.data.toList := by simp
  have ht : t.data.toList.length = t.size := by simp
  rw [e3, List.drop_append_of_le_length (by omega), List.take_of_length_le (by rw [List.length_append, List.length_drop]; omega), List.take_of_length_le (by rw [List.length_drop]; omega)]
theorem feedB_app (b t : ByteArray) (h : (feedB b).2.2 = false) : feedB (b ++ t) = ((feedB b).1 ++ (feedB ((feedB b).2.1 ++ t)).1, (feedB ((feedB b).2.1 ++ t)).2) := by
 induction hn : b.size using Nat.strongRecOn generalizing b with
 | ind n ih =>
  cases hw : wholeB b with
  | false =>
   rw [feedB_no hw]
   simp
  | true =>
   obtain ⟨w1, w2, w3, w4⟩ := whole_app hw t
   by_cases hk : kindAt b = 88
   ·rw [feedB_x hw hk] at h
    simp at h
   ·rw [feedB_go hw hk] at h ⊢
    have e : askedOf (b ++ t) = askedOf b := by unfold askedOf; rw [w2, w3]
    rw [feedB_go w1 (by rw [w2]; exact hk), w4, e, ih _ (by rw [← hn]; exact rest_lt hw) (restAt b) h rfl]
    simp
theorem feedB_noX (b : ByteArray) (h : noX b) : (feedB b).2.2 = false ∧ noX (feedB b).2.1 := by
 have := feed_noX ⟨b, [], 0, ⟨#[]⟩⟩ h
 rw [feedC_eq] at this
 exact this
/-- a delivery cut in two -/
theorem act_cut (mode : Int) (v : Av) (c : Int) (d1 d2 : ByteArray) (hq : noX (v.bytes c.toNat)) (h1 : noX d1) (h2 : noX d2) :
  actV mode (actV mode v ⟨1, c, d1⟩) ⟨1, c, d2⟩ = actV mode v ⟨1, c, d1 ++ d2⟩ ∧ noX ((actV mode v ⟨1, c, d1 ++ d2⟩).bytes c.toNat) ∧ ∀ j, j ≠ c.toNat → (actV mode v ⟨1, c, d1 ++ d2⟩).bytes j = v.bytes j := by
 have f1 := feedB_noX _ (noX_app hq h1)
 have f2 := feedB_noX _ (noX_app hq (noX_app h1 h2))
 have fa := feedB_app (v.bytes c.toNat ++ d1) d2 f1.1
 rw [ByteArray.append_assoc] at fa
 have e12 : actV mode v ⟨1, c, d1 ++ d2⟩ = v.fed mode c.toNat (d1 ++ d2) := by
  unfold actV
  simp only
  rw [if_neg (by decide), f2.1, if_neg (by simp)]
 have e1 : actV mode v ⟨1, c, d1⟩ = v.fed mode c.toNat d1 := by
  unfold actV
  simp only
  rw [if_neg (by decide), f1.1, if_neg (by simp)]
 have eb : (v.fed mode c.toNat d1).bytes c.toNat = (feedB (v.bytes c.toNat ++ d1)).2.1 := by
  unfold Av.fed
  simp only [if_true]
 have f3 : (feedB ((feedB (v.bytes c.toNat ++ d1)).2.1 ++ d2)).2.2 = false := (feedB_noX _ (noX_app f1.2 h2)).1
 refine ⟨?_, ?_, fun j hj => ?_⟩
 ·rw [e12, e1]
  have e2 : actV mode (v.fed mode c.toNat d1) ⟨1, c, d2⟩ = (v.fed mode c.toNat d1).fed mode c.toNat d2 := by
   unfold actV
   simp only
   rw [if_neg (by decide), eb, f3, if_neg (by simp)]
  rw [e2]
  unfold Av.fed
  simp only [if_true]
  rw [fa]
  simp only [List.foldl_append]
  congr 1
  funext j
  by_cases e : j = c.toNat
  ·rw [if_pos e, if_pos e]
  ·rw [if_neg e, if_neg e, if_neg e]
 ·rw [e12]
  unfold Av.fed
  simp only [if_true]
  exact f2.2
 ·rw [e12]
  unfold Av.fed
  simp only
  rw [if_neg hj]
/-- acts cut in two, each somewhere -/
def cutAll : List (Ac × Nat) → List Ac
 | [] => []
 | (a, k) :: l => ⟨a.kind, a.c, a.data.extract 0 k⟩ :: ⟨a.kind, a.c, a.data.extract k a.data.size⟩ :: cutAll l
theorem dat_app (a b : ByteArray) : (a ++ b).data.toList = a.data.toList ++ b.data.toList := by simp
theorem cut_join (d : ByteArray) (k : Nat) : d.extract 0 k ++ d.extract k d.size = d := by
 apply arr_eq
 have e := dat_app (d.extract 0 k) (d.extract k d.size)
 have hl : d.data.toList.length = d.size := by simp
 have e2 : (d.data.toList.drop k).take (d.size - k) = d.data.toList.drop k := List.take_of_length_le (by rw [List.length_drop]; omega)
 rw [e, extract_list, extract_list, e2, List.drop_zero, Nat.sub_zero]
 exact List.take_append_drop _ _
theorem noX_cut {d : ByteArray} (h : noX d) (a b : Nat) : noX (d.extract a b) := by
 intro hm
 rw [extract_list] at hm
 exact h (List.mem_of_mem_drop (List.mem_of_mem_take hm))
theorem cuts_fold (mode : Int) : ∀ (l : List (Ac × Nat)) (v : Av), (∀ i, noX (v.bytes i)) → (∀ p ∈ l, p.1.kind = 1 ∧ noX p.1.data) → (cutAll l).foldl (actV mode) v = (l.map (·.1)).foldl (actV mode) v
 | [], _, _, _ => rfl
 | (a, k) :: l, v, hv, hl => by
  obtain ⟨h1, h2⟩ := hl (a, k) List.mem_cons_self
  obtain ⟨kind, c, data⟩ := a
  simp only at h1 h2
  subst h1
  obtain ⟨c1, c2, c3⟩ := act_cut mode v c (data.extract 0 k) (data.extract k data.size) (hv _) (noX_cut h2 _ _) (noX_cut h2 _ _)
  rw [cut_join] at c1 c2 c3
  simp only [cutAll, List.foldl_cons, List.map_cons]
  rw [c1]
  refine cuts_fold mode l _ (fun i => ?_) fun p hp => hl p (List.mem_cons_of_mem _ hp)
  by_cases e : i = c.toNat
  ·rw [e]; exact c2
  ·rw [c3 i e]; exact hv i
/-- TopCuts's law -/
theorem cuts_law (mode : Int) (n : Nat) (hn : n ≤ 8) {S : List Nat} (h1 : S.Nodup) (h2 : S.length ≤ n) (l : List (Ac × Nat)) (hl : ∀ p ∈ l, p.1.c.toNat ∈ S ∧ p.1.c.toNat < 6) (hk : ∀ p ∈ l, p.1.kind = 1 ∧ noX p.1.data) :
  avOf (runM houseB (startF mode n, startH) (l.map (·.1))) = avOf (runM houseB (startF mode n, startH) (cutAll l)) := by
 have hc : ∀ a ∈ cutAll l, a.c.toNat ∈ S ∧ a.c.toNat < 6 := by
  clear hk
  induction l with
  | nil => intro a ha; simp [cutAll] at ha
  | cons p l ih =>
   obtain ⟨a, k⟩ := p
   intro x hx
   simp only [cutAll, List.mem_cons] at hx
   rcases hx with rfl | rfl | hx
   ·exact hl (a, k) List.mem_cons_self
   ·exact hl (a, k) List.mem_cons_self
   ·exact ih (fun p hp => hl p (List.mem_cons_of_mem _ hp)) x hx
 rw [enough mode n hn h1 h2 _ (fun a ha => by obtain ⟨p, hp, rfl⟩ := List.mem_map.1 ha; exact hl p hp), enough mode n hn h1 h2 _ hc, cuts_fold mode l av0 (fun i => by simp [av0, noX]) hk]
end Go.Proofs.YtjbnfigpflambacGreatDoor
/- Plain laws, no program: every row was written by a client that was answered so; a client gets its own settings alone. -/
namespace Go.Proofs.YtjbnfigpflambacGreatDoor
theorem mem_plusAll {m : List Pr} : ∀ {l : List Pr} {p : Pr}, p ∈ plusAll l m → p ∈ l ∨ p ∈ m := by
 induction m with
 | nil => intro l p h; exact .inl h
 | cons q m ih =>
  intro l p h
  have h : p ∈ plusAll (plusP l q.k q.v) m := h
  rcases ih h with h | h
  ·rcases plus_mem h with rfl | ⟨h, _⟩
   ·exact .inr List.mem_cons_self
   ·exact .inl h
  ·exact .inr (List.mem_cons_of_mem _ h)
/-- a pair among the rows, or among what some session wrote -/
def allP (W : Wo) (p : Pr) : Prop := p ∈ W.rows ∨ ∃ j, p ∈ (W.se j).wri
theorem allP_put {W : Wo} {i : Nat} {s : Se} {p : Pr} (hi : i < W.ses.length) (h : allP (W.put i s) p) : allP W p ∨ p ∈ s.wri := by
 rcases h with h | ⟨j, h⟩
 ·exact .inl (.inl h)
 ·rw [se_put W hi] at h
  split at h
  ·exact .inr h
  ·exact .inl (.inr ⟨j, h⟩)
theorem allP_sub {W : Wo} {i : Nat} {s : Se} {p : Pr} (hi : i < W.ses.length) (hs : ∀ q ∈ s.wri, q ∈ (W.se i).wri) (h : allP (W.put i s) p) : allP W p := by
 rcases allP_put hi h with h | h
 ·exact h
 ·exact .inr ⟨i, hs p h⟩
theorem did1_allP {W : Wo} {i : Nat} (hi : i < W.ses.length) (x : St) {p : Pr} (h : allP (did1 W i x).1 p) : allP W p ∨ (x.k = 10 ∧ x.key = p.k ∧ x.val = p.v ∧ (did1 W i x).2.kind = 1) := by
 unfold did1 at h ⊢
 split at h
 ·exact .inl h
 rename_i hf
 split at h
 ·left
  unfold transW at h
  split at h
  ·exact allP_sub hi (by exact fun q hq => hq) h
  split at h
  ·exact h
  split at h
  ·exact h
  unfold endW at h
  split at h
  ·rcases h with h | ⟨j, h⟩
   ·rcases mem_plusAll h with h | h
    ·exact .inl h
    ·exact .inr ⟨i, h⟩
   ·have h : p ∈ ((W.put i ⟨0, (W.se i).set, (W.se i).pre, [], []⟩).se j).wri := h
    rw [se_put W hi] at h
    split at h
    ·simp at h
    ·exact .inr ⟨j, h⟩
  ·exact allP_sub hi (fun q hq => by simp at hq) h
 rename_i h123
 split at h
 ·left
  unfold resetW at h
  split at h
  ·exact allP_sub hi (by exact fun q hq => hq) h
  ·exact h
 rename_i h4
 split at h
 ·exact .inl h
 rename_i h6
 split at h
 ·exact .inl h
 rename_i h7
 split at h
 ·left
  unfold setW at h
  split at h
  ·exact h
  ·exact allP_sub hi (by exact fun q hq => hq) h
 rename_i h9
 split at h
 ·rename_i h10
  rw [if_neg hf, if_neg h123, if_neg h4, if_neg h6, if_neg h7, if_neg h9, if_pos h10]
  unfold putW at h ⊢
  split at h
  ·exact .inl h
  rename_i hh
  split at h
  ·exact .inl h
  rename_i hfull
  rw [if_neg hh, if_neg hfull]
  split at h
  ·rename_i h1
   rw [if_pos h1]
   rcases allP_put hi h with h | h
   ·exact .inl h
   ·rcases plus_mem h with rfl | ⟨h, _⟩
    ·exact .inr ⟨h10, rfl, rfl, rfl⟩
    ·exact .inl (.inr ⟨i, h⟩)
  ·rename_i h1
   rw [if_neg h1]
   rcases h with h | ⟨j, h⟩
   ·rcases plus_mem h with rfl | ⟨h, _⟩
    ·exact .inr ⟨h10, rfl, rfl, rfl⟩
    ·exact .inl (.inl h)
   ·exact .inl (.inr ⟨j, h⟩)
 split at h
 ·left
  unfold prepW at h
  split at h
  ·exact h
  ·exact allP_sub hi (by exact fun q hq => hq) h
 ·exact .inl h
theorem did_allP {W : Wo} {i : Nat} (hi : i < W.ses.length) (x : St) {p : Pr} (h : allP (did W i x).1 p) : allP W p ∨ ((x.k = 8 ∨ (x.k = 10 ∧ x.key = p.k ∧ x.val = p.v)) ∧ (did W i x).2.kind = 1) := by
 unfold did at h ⊢
 split at h
 ·rename_i h8
  rw [if_pos h8]
  unfold execW at h ⊢
  split at h
  ·exact .inl h
  ·rename_i hn
   rw [if_neg hn]
   split at h
   ·exact .inl h
   ·rcases did1_allP hi _ h with h | ⟨_, _, _, h⟩
    ·exact .inl h
    ·exact .inr ⟨.inl h8, h⟩
 ·rename_i h8
  rw [if_neg h8]
  rcases did1_allP hi _ h with h | ⟨h1, h2, h3, h⟩
  ·exact .inl h
  ·exact .inr ⟨.inr ⟨h1, h2, h3⟩, h⟩
theorem doW_allP {W : Wo} {i : Nat} (hi : i < W.ses.length) (x : St) {p : Pr} (h : allP (doW W i x).1 p) : allP W p ∨ ((x.k = 8 ∨ (x.k = 10 ∧ x.key = p.k ∧ x.val = p.v)) ∧ (doW W i x).2.kind = 1) := by
 have l1 : i < (did W i x).1.ses.length := by rw [(did_mine W i x).1]; exact hi
 have h1 : allP (did W i x).1 p := by
  refine allP_sub l1 (fun q hq => ?_) h
  unfold failSe at hq
  split at hq
  ·simp at hq
  ·exact hq
 exact did_allP hi x h1
/-- a deed that may have written the pair -/
def Wrote (ds : List De) (p : Pr) : Prop := ∃ d ∈ ds, d.a.kind = 1 ∧ ((d.x.k = 10 ∧ d.x.key = p.k ∧ d.x.val = p.v) ∨ d.x.k = 8)
theorem Wrote.more {ds : List De} {p : Pr} (h : Wrote ds p) (l : List De) : Wrote (ds ++ l) p := by
 obtain ⟨d, hd, h⟩ := h
 exact ⟨d, List.mem_append_left _ hd, h⟩
theorem allP_new {w : Wo} {i : Nat} (hi : i < w.ses.length) {p : Pr} (h : allP (w.put i Se.new) p) : allP w p := allP_sub hi (fun q hq => by simp [Se.new] at hq) h
theorem inv_committed : Inv fun ds w => ∀ p, allP w p → Wrote ds p := by
 refine ⟨⟨?_⟩, ?_⟩
 ·intro ds w i x hi hx g h6 h p hp
  rcases doW_allP (by rw [h6]; exact hi) x hp with hp | ⟨h1, h2⟩
  ·exact (h p hp).more _
  ·refine ⟨_, List.mem_append_right _ List.mem_cons_self, h2, ?_⟩
   rcases h1 with h1 | h1
   ·exact .inr h1
   ·exact .inl h1
 ·intro ds w i hi h6 h p hp
  exact h p (allP_new (by rw [h6]; exact hi) hp)
theorem start_allP (p : Pr) : ¬ allP startH p := by
 rintro (h | ⟨j, h⟩)
 ·simp [startH] at h
 ·have e : startH.se j = Se.new := rep_getD 6 j _
  rw [e] at h
  simp [Se.new] at h
def SetBy (ds : List De) (j : Nat) (p : Pr) : Prop := ∃ d ∈ ds, d.c = j ∧ d.x.k = 9 ∧ d.x.key = p.k ∧ d.x.val = p.v ∧ d.a.kind = 1
theorem SetBy.more {ds : List De} {j : Nat} {p : Pr} (h : SetBy ds j p) (l : List De) : SetBy (ds ++ l) j p := by
 obtain ⟨d, hd, h⟩ := h
 exact ⟨d, List.mem_append_left _ hd, h⟩
/-- deeds in which who gets a value has set it -/
def Fair (ds : List De) : Prop := ∀ l1 d l2, ds = l1 ++ d :: l2 → d.x.k = 6 → d.a.kind = 2 → SetBy l1 d.c ⟨d.x.key, d.a.text⟩
theorem Fair.snoc {ds : List De} (h : Fair ds) (d : De) (hd : d.x.k = 6 → d.a.kind = 2 → SetBy ds d.c ⟨d.x.key, d.a.text⟩) : Fair (ds ++ [d]) := by
 intro l1 e l2 he h6 h2
 rcases List.append_eq_append_iff.1 he with ⟨m, e1, e2⟩ | ⟨m, e1, e2⟩
 ·rcases m with _ | ⟨a, m⟩
  ·simp only [List.nil_append, List.append_nil, List.cons.injEq] at e1 e2
   rw [e1, ← e2.1]
   rw [← e2.1] at h6 h2
   exact hd h6 h2
  ·simp at e2
 ·rcases m with _ | ⟨a, m⟩
  ·simp only [List.nil_append, List.append_nil, List.cons.injEq] at e1 e2
   rw [← e1, e2.1]
   rw [e2.1] at h6 h2
   exact hd h6 h2
  ·simp only [List.cons_append, List.cons.injEq] at e2
   rw [← e2.1] at e1
   exact h l1 e m e1 h6 h2
end Go.Proofs.YtjbnfigpflambacGreatDoor
/- The pool's outcome is the house's. -/
namespace Go.Proofs.YtjbnfigpflambacGreatDoor
open Go.RowKit
theorem fair_c {m : Nat} (h6 : m ≤ 6) {l : List Ac} (h : ∀ a ∈ l, AcFair m a) : ∀ a ∈ l, a.c.toNat < 6 := fun a ha => by
 have := (h a ha).lt
 have := (h a ha).ok.c0
 omega
theorem fair_ok {m : Nat} {l : List Ac} (h : ∀ a ∈ l, AcFair m a) : ∀ a ∈ l, AcOk a := fun a ha => (h a ha).ok
/-- the house's outcome -/
noncomputable def outH (y : Fr × Wo) : Outc := ⟨(List.range 6).map fun c => (y.1.c c).sent, y.1.deeds, y.2.rows⟩
theorem out_house (mode : Int) (n : Nat) (hn : n ≤ 8) (l : List Ac) (hl : ∀ a ∈ l, a.c.toNat < 6) : outM mode n l = outH (runM houseB (startF mode n, startH) l) := by
 have h := run_sim mode n hn l hl
 unfold outM outH
 rw [h.front, h.rb.rows]
theorem outH_av {y z : Fr × Wo} (h : avOf y = avOf z) : outH y = outH z := by
 have hu : auOf y = auOf z := congrArg Av.u h
 have h1 : y.1.deeds = z.1.deeds := congrArg Au.deeds hu
 have h2 : (fun i => (y.1.c i).sent) = fun i => (z.1.c i).sent := congrArg Au.sent hu
 have h3 : y.2 = z.2 := congrArg Au.w hu
 unfold outH
 rw [h1, h3]
 congr 1
 refine List.map_congr_left fun c _ => congrFun h2 c
end Go.Proofs.YtjbnfigpflambacGreatDoor
/- slices.Equal on deeds, on texts and tillermantop.same, for what is the same. -/
namespace Go.Proofs.YtjbnfigpflambacGreatDoor
open Go.ChangeShapes Go.WideShapes Go.ChangeAt Go.RowKit
def dV (d : De) : List Value := [.int .i64 (d.c : Int), .int .i64 d.x.k, .string d.x.key, .string d.x.val, .int .i64 d.a.kind, .string d.a.text, .int .i64 d.a.st]
theorem deV_at : ∀ (l : List De) (k : Nat) (h : k < l.length) (j : Nat), j < 7 → (deV l)[k * 7 + j]? = (dV l[k])[j]?
 | [], _, h, _, _ => absurd h (by simp)
 | d :: l, 0, _, j, hj => by
  show ((dV d) ++ deV l)[0 * 7 + j]? = _
  rw [List.getElem?_append_left (by simp [dV]; omega)]
  simp
 | d :: l, k + 1, h, j, hj => by
  show ((dV d) ++ deV l)[(k + 1) * 7 + j]? = _
  rw [List.getElem?_append_right (by simp [dV]; omega)]
  have := deV_at l k (by simpa using h) j hj
  rw [show (k + 1) * 7 + j - (dV d).length = k * 7 + j by simp [dV]; omega, this]
  rfl
/-- a deed in memory -/
structure DeAt (w : World) (p : Addr) (d : De) : Prop where
 c : w.cell? p = some (.int .i64 (d.c : Int))
 k : w.cell? ⟨p.block, p.off + 1, none⟩ = some (.int .i64 d.x.k)
 key : w.cell? ⟨p.block, p.off + 2, none⟩ = some (.string d.x.key)
 val : w.cell? ⟨p.block, p.off + 3, none⟩ = some (.string d.x.val)
 kind : w.cell? ⟨p.block, p.off + 4, none⟩ = some (.int .i64 d.a.kind)
 text : w.cell? ⟨p.block, p.off + 5, none⟩ = some (.string d.a.text)
 st : w.cell? ⟨p.block, p.off + 6, none⟩ = some (.int .i64 d.a.st)
theorem DeAt.below {w w' : World} {B : Nat} {p : Addr} {x : De} (h : DeAt w p x) (hp : p.block < B) (hb : Below B w w') : DeAt w' p x :=
 ⟨(hb.cell hp).trans h.c, (hb.cell (by exact hp)).trans h.k, (hb.cell (by exact hp)).trans h.key, (hb.cell (by exact hp)).trans h.val, (hb.cell (by exact hp)).trans h.kind, (hb.cell (by exact hp)).trans h.text, (hb.cell (by exact hp)).trans h.st⟩
theorem deed_at {w : World} {B : Nat} {A : Option Addr} {l : List De} (h : Reads w B 7 A l.length (deV l)) {k : Nat} (hk : k < l.length) : ∃ ad : Addr, A = some ad ∧ ad.block < B ∧ DeAt w (ad.add (k * 7)) l[k] := by
 obtain ⟨ad, hA, hB, hcell⟩ := h.2 (by omega)
 have e : ∀ j, j < 7 → ∀ u, (dV l[k])[j]? = some u → w.cell? (ad.add (k * 7 + j)) = some u := fun j hj u hu => hcell _ _ ((deV_at l k hk j hj).trans hu)
 have ea : ∀ j, (⟨(ad.add (k * 7)).block, (ad.add (k * 7)).off + (j + 1), none⟩ : Addr) = ad.add (k * 7 + (j + 1)) := fun j => by rw [← add_of_add]; rfl
 exact ⟨ad, hA, hB, e 0 (by omega) _ rfl, by rw [ea 0]; exact e 1 (by omega) _ rfl, by rw [ea 1]; exact e 2 (by omega) _ rfl, by rw [ea 2]; exact e 3 (by omega) _ rfl, by rw [ea 3]; exact e 4 (by omega) _ rfl, by rw [ea 4]; exact e 5 (by omega) _ rfl, by rw [ea 5]; exact e 6 (by omega) _ rfl⟩
theorem OwnO.most {w : World} {B : Nat} {e : TypeId} {size n : Nat} {v : Value} {xs : List Value} (h : OwnO w B e size v n xs) : n ≤ maxLen := by
 rcases h.2 with ⟨_, rfl⟩ | ⟨_, _, _, _, _, _, _, h1, h2, _⟩
 ·exact Nat.zero_le _
 ·omega
set_option maxHeartbeats 4000000 in
set_option maxRecDepth 100000 in
theorem deeds_same (w : World) (A1 A2 : Option Addr) (c1 c2 n : Nat) (l : List De) (hn : l.length = n) (hm : n ≤ maxLen) (hu : Reads w w.heap.size 7 A1 n (deV l)) (hv : Reads w w.heap.size 7 A2 n (deV l)) :
  Calls Tryz.prog 38 #[.slice A1 n c1, .slice A2 n c2] w fun e w' => e = .returned (.bool true) ∧ Below w.heap.size w w' := by
 subst hn
 have H1 := Lib.hid hu
 have H2 := Lib.hid hv
 obtain ⟨n, hN⟩ : ∃ n, l.length = n := ⟨_, rfl⟩
 rw [hN] at hm ⊢
 have HN := Lib.hid hN
 unfold maxLen at hm
 clear hu hv hN
 go_enter Tryz.func38, Tryz.ntmps38
 go_wp2_with fail
 go_loopw [13] (fun i wx => ∃ k : Nat, k ≤ n ∧ i = .int .i64 k ∧ Below w.heap.size w wx) (fun i _ => n - (intOf i).toNat)
 case atStart => exact ⟨0, Nat.zero_le _, rfl, Below.refl _ _⟩
 case round =>
  obtain ⟨k, hk, rfl, hb⟩ := hrel
  by_cases hlt : k < n
  ·have hkl : k < l.length := by rw [HN.out]; exact hlt
   have HBd := (hb.drew)
   obtain ⟨a1, hA1, -, x⟩ := deed_at (H1.out.below HBd) hkl
   obtain ⟨a2, hA2, -, y⟩ := deed_at (H2.out.below HBd) hkl
   subst hA1 hA2
   obtain ⟨p, hp⟩ : ∃ p, l[k] = p := ⟨_, rfl⟩
   rw [hp] at x y
   obtain ⟨x0, x1, x2, x3, x4, x5, x6⟩ := x
   obtain ⟨y0, y1, y2, y3, y4, y5, y6⟩ := y
   have HB := Lib.hid HBd
   have g1 : (k : Int) < (n : Int) := by omega
   have g2 : (0 : Int) ≤ (k : Int) := by omega
   clear hb HBd hp
   go_upto_region 6 with fail
   refine region_segs [] (by kernel_rfl) ?_
   refine anyB_seg [0, 1, 2, 3, 4, 5, 6, 7] 1 rfl (by kernel_rfl) (by kernel_rfl) (by kernel_rfl) (fun _ _ d _ _ h => by cases d <;> exact h) ?_
   simp only [pickOps, List.getElem?_toArray, List.getElem?_cons_zero, List.getElem?_cons_succ]
   go_wp2_with fail
   refine ⟨rfl, by simp [plainOps, plainV, plain1, Act.eval], ?_⟩
   refine anyB_one (i := 8) (by kernel_rfl) rfl (fun K hK => ?_)
   go_simp
   refine hK.out _ _ (fun _ => (Below.refl _ _)) ?_
   clear hK K
   refine anyB_done (by kernel_rfl) ?_ _
   clear x0 x1 x2 x3 x4 x5 x6 y0 y1 y2 y3 y4 y5 y6
   generalize World.drew _ = x9 at HB ⊢
   go_wp2_with fail
   go_roundw
   case rel => exact ⟨k + 1, by omega, by go_num, HB.out⟩
   case measure => simp [intOf]; omega
  ·have g1 : (n : Int) ≤ (k : Int) := by omega
   have HB := Lib.hid hb
   clear hb hlt
   go_wp2_with fail
   go_ret
   exact ⟨rfl, HB.out⟩
/-- texts that are the same -/
theorem own_strs {w : World} {B n : Nat} {v : Value} {l : List ByteArray} (h : OwnO w B 9 1 v n (l.map .string)) (hn : 0 < n) : ∃ g off cap, v = .slice (some ⟨g, off, none⟩) n cap ∧ ∀ j, j < l.length → w.cell? ⟨g, off + j, none⟩ = some (.string (l.getD j ByteArray.empty)) := by
 obtain ⟨A, c, e, _, r⟩ := h.reads
 rcases h.2 with ⟨_, h0⟩ | ⟨g, off, cap, cur, e2, _⟩
 ·omega
 ·obtain ⟨a, hA, _, hc⟩ := r.2 hn
  rw [e2] at e
  injection e with e3 e4 e5
  rw [hA] at e3
  injection e3 with e3
  subst e3
  refine ⟨g, off, cap, e2, fun j hj => ?_⟩
  have := hc j _ (by rw [List.getElem?_map, List.getElem?_eq_getElem hj]; rfl)
  rw [List.getD_eq_getElem?_getD, List.getElem?_eq_getElem hj]
  unfold Addr.add at this
  split at this
  ·rename_i h0
   subst h0
   exact this
  ·exact this
theorem strs_same (w : World) (B1 B2 n : Nat) (u v : Value) (l : List ByteArray) (hn : l.length = n) (hu : OwnO w B1 9 1 u n (l.map .string)) (hv : OwnO w B2 9 1 v n (l.map .string)) :
  Calls Tryz.prog 22 #[u, v] w fun e w' => e = .returned (.bool true) ∧ Below w.heap.size w w' := by
 have hm := hu.most
 unfold maxLen at hm
 rcases Nat.eq_zero_or_pos n with h0 | h0
 ·subst h0
  obtain ⟨A1, c1, rfl, _⟩ := hu.form
  obtain ⟨A2, c2, rfl, _⟩ := hv.form
  refine (Tryz.slices_Equal_string_empty A1 A2 c1 0 c2 w (by omega)).mono ?_
  rintro e w' ⟨rfl, rfl⟩
  exact ⟨by simp, Below.refl _ _⟩
 ·obtain ⟨b1, o1, c1, rfl, r1⟩ := own_strs hu h0
  obtain ⟨b2, o2, c2, rfl, r2⟩ := own_strs hv h0
  refine (Tryz.slices_Equal_string b1 o1 n c1 b2 o2 n c2 l l w (by omega) (by omega) (by omega) (by omega) r1 r2).mono ?_
  rintro e w' ⟨rfl, q, rfl⟩
  exact ⟨by simp, below_drewN (Below.refl _ _) q⟩
set_option maxHeartbeats 4000000 in
set_option maxRecDepth 100000 in
theorem same_top (w : World) (B : Nat) (vs vd vr us ud ur : Value) (o : Outc) (h1 : OutR w B vs vd vr o) (h2 : OutR w B us ud ur o) :
  Calls Tryz.prog 35 #[.agg #[vs, vd, vr], .agg #[us, ud, ur]] w fun e w' => e = .returned (.bool true) ∧ Below w.heap.size w w' := by
 have HS : Hid (∀ w', Below w.heap.size w w' → Calls Tryz.prog 22 #[vs, us] w' fun e w'' => e = .returned (.bool true) ∧ Below w'.heap.size w' w'') := Lib.hid fun w' hb => strs_same w' B B _ vs us o.sent rfl (h1.keep hb).sent (h2.keep hb).sent
 have HD : Hid (∀ w', Below w.heap.size w w' → Calls Tryz.prog 38 #[vd, ud] w' fun e w'' => e = .returned (.bool true) ∧ Below w'.heap.size w' w'') := Lib.hid fun w' hb => by
  have hm := h1.deeds.most
  obtain ⟨A1, c1, rfl, _, r1⟩ := (h1.keep hb).deeds.reads
  obtain ⟨A2, c2, rfl, _, r2⟩ := (h2.keep hb).deeds.reads
  exact deeds_same w' A1 A2 c1 c2 _ o.deeds rfl hm r1 r2
 have HP : Hid (∀ w', Below w.heap.size w w' → Calls Tryz.prog 23 #[vr, ur] w' fun e w'' => e = .returned (.bool true) ∧ Below w'.heap.size w' w'') := Lib.hid fun w' hb =>
  equal_same w' vr ur o.rows (h1.keep hb).rows.pl (h2.keep hb).rows.pl
 obtain ⟨A1, c1, rfl, _⟩ := h1.sent.form
 obtain ⟨A2, c2, rfl, _⟩ := h1.deeds.form
 obtain ⟨A3, c3, rfl⟩ := h1.rows.form
 obtain ⟨E1, d1, rfl, _⟩ := h2.sent.form
 obtain ⟨E2, d2, rfl, _⟩ := h2.deeds.form
 obtain ⟨E3, d3, rfl⟩ := h2.rows.form
 clear h1 h2
 generalize o.sent.length = n1 at *
 generalize o.deeds.length = n2 at *
 generalize o.rows.length = n3 at *
 have Y : Hid (Blk ((w.alloc (.cells #[.slice A1 n1 c1, .slice A2 n2 c2, .slice A3 n3 c3] 29)).alloc (.cells #[.slice E1 n1 d1, .slice E2 n2 d2, .slice E3 n3 d3] 29)) w.heap.size 29 #[.slice A1 n1 c1, .slice A2 n2 c2, .slice A3 n3 c3]) := Lib.hid ((Blk.new w _ _).alloc _)
 have Z : Hid (Blk ((w.alloc (.cells #[.slice A1 n1 c1, .slice A2 n2 c2, .slice A3 n3 c3] 29)).alloc (.cells #[.slice E1 n1 d1, .slice E2 n2 d2, .slice E3 n3 d3] 29)) (w.heap.size + 1) 29 #[.slice E1 n1 d1, .slice E2 n2 d2, .slice E3 n3 d3]) := Lib.hid (by
  have := Blk.new (w.alloc (.cells #[.slice A1 n1 c1, .slice A2 n2 c2, .slice A3 n3 c3] 29)) 29 #[.slice E1 n1 d1, .slice E2 n2 d2, .slice E3 n3 d3]
  rwa [show (w.alloc (.cells #[.slice A1 n1 c1, .slice A2 n2 c2, .slice A3 n3 c3] 29)).heap.size = w.heap.size + 1 by simp] at this)
 go_enter Tryz.func35, Tryz.ntmps35
 go_wp2_with fail
 refine (HS.out _ (boxed2 w _ _)).mono ?_
 rintro e w1 ⟨rfl, b1⟩
 have B1 := Lib.hid (below_step (boxed2 w _ _) (Nat.le_refl _) b1)
 have Y1 := Lib.hid (Y.out.keep b1)
 have Z1 := Lib.hid (Z.out.keep b1)
 have y0 := Y1.out.cell_ 1 _ rfl
 have z0 := Z1.out.cell_ 1 _ rfl
 clear b1 Y Z
 go_wp2_with fail
 refine (HD.out _ B1.out).mono ?_
 rintro e w2 ⟨rfl, b1⟩
 have B2 := Lib.hid (below_step B1.out (Nat.le_refl _) b1)
 have Y2 := Lib.hid (Y1.out.keep b1)
 have Z2 := Lib.hid (Z1.out.keep b1)
 clear y0 z0
 have y0 := Y2.out.cell_ 2 _ rfl
 have z0 := Z2.out.cell_ 2 _ rfl
 clear b1 Y1 Z1 B1
 go_wp2_with fail
 refine (HP.out _ B2.out).mono ?_
 rintro e w3 ⟨rfl, b1⟩
 have B3 := Lib.hid (below_step B2.out (Nat.le_refl _) b1)
 clear b1 B2 y0 z0 Y2 Z2
 go_wp2_with fail
 go_ret
 exact ⟨rfl, B3.out⟩
end Go.Proofs.YtjbnfigpflambacGreatDoor
/- slices.ContainsFunc over deeds with TopCommitted$1. -/
namespace Go.Proofs.YtjbnfigpflambacGreatDoor
open Go.ChangeShapes Go.WideShapes Go.ChangeAt Go.RowKit
def dAgg (d : De) : Value := .agg #[.int .i64 (d.c : Int), .int .i64 d.x.k, .string d.x.key, .string d.x.val, .int .i64 d.a.kind, .string d.a.text, .int .i64 d.a.st]
def cloD (q : Nat) : Value := .func (.func 29) #[] #[.pointer (some ⟨q, 0, none⟩)]
set_option maxHeartbeats 2000000 in
set_option maxRecDepth 100000 in
theorem idxd_any (w : World) (A : Option Addr) (n k : Nat) (l : List De) (q : Nat) (P : De → Bool) (_hw : ∀ x ∈ l, P x = true ∨ P x = false) (h : Reads w w.heap.size 7 A n (deV l)) (hn : l.length = n) (hm : n ≤ maxLen)
  (hP : ∀ w' d, Below w.heap.size w w' → d ∈ l → Calls Tryz.prog 29 #[dAgg d, .pointer (some ⟨q, 0, none⟩)] w' fun e w'' => e = .returned (.bool (P d)) ∧ Below w'.heap.size w' w'') :
  Calls Tryz.prog 58 #[.slice A n k, cloD q] w fun e w' => ∃ r : Int, e = .returned (.int .i64 r) ∧ decide (0 ≤ r) = l.any P ∧ Below w.heap.size w w' := by
 have HR := Lib.hid h
 have HN := Lib.hid hn
 have HP := Lib.hid hP
 unfold maxLen at hm
 clear h hn hP _hw
 unfold cloD
 go_enter Tryz.func58, Tryz.ntmps58
 go_wp2_with fail
 go_loopw [8] (fun i wx => ∃ m : Nat, m ≤ n ∧ i = .int .i64 m ∧ Below w.heap.size w wx ∧ Hid (∀ j (hj : j < l.length), j < m → P l[j] = false)) (fun i _ => n - (intOf i).toNat)
 case atStart => exact ⟨0, Nat.zero_le _, rfl, Below.refl _ _, Lib.hid (fun j _ hj => absurd hj (Nat.not_lt_zero _))⟩
 case round =>
  obtain ⟨m, hm', rfl, hb, HJ⟩ := hrel
  by_cases hlt : m < n
  ·have g1 : (m : Int) < (n : Int) := by omega
   have g2 : (0 : Int) ≤ (m : Int) := by omega
   have hml : m < l.length := by rw [HN.out]; exact hlt
   have hr := HR.out
   rw [← HN.out] at hr
   obtain ⟨ad, hA, _, x⟩ := deed_at (hr.below hb) hml
   have hcall := fun w' hb' => HP.out w' l[m] hb' (List.getElem_mem hml)
   obtain ⟨d, hd⟩ : ∃ d, l[m] = d := ⟨_, rfl⟩
   rw [hd] at x hcall
   subst hA
   have HD := Lib.hid hd
   have HB := Lib.hid hb
   have HC := Lib.hid hcall
   have HM := Lib.hid hml
   obtain ⟨x0, x1, x2, x3, x4, x5, x6⟩ := x
   obtain ⟨b, hb'⟩ : ∃ b, P d = b := ⟨_, rfl⟩
   have HPB := Lib.hid hb'
   rw [hb'] at HC
   unfold dAgg at HC
   clear hb hcall hr hd hb'
   go_wp2_with fail
   refine (HC.out _ HB.out).mono ?_
   rintro e w1 ⟨rfl, b1⟩
   have HB1 := Lib.hid (below_step HB.out (Nat.le_refl _) b1)
   clear x0 x1 x2 x3 x4 x5 x6 b1 HC
   cases b
   ·have HF := Lib.hid (show ∀ j (hj : j < l.length), j < m + 1 → P l[j] = false by
     intro j hj hjm
     rcases Nat.lt_succ_iff_lt_or_eq.1 hjm with h | h
     ·exact HJ.out j hj h
     ·subst h; rw [HD.out]; exact HPB.out)
    go_wp2_with fail
    go_roundw
    case rel => exact ⟨m + 1, by omega, by go_num, HB1.out, Lib.hid HF.out⟩
    case measure => simp [intOf]; omega
   ·have HF := Lib.hid (show decide (0 ≤ (m : Int)) = l.any P by
     rw [show decide (0 ≤ (m : Int)) = true by simp]
     exact (List.any_eq_true.2 ⟨l[m]'HM.out, List.getElem_mem _, by rw [HD.out]; exact HPB.out⟩).symm)
    go_wp2_with fail
    go_ret
    exact ⟨_, rfl, HF.out, HB1.out⟩
  ·have g1 : (n : Int) ≤ (m : Int) := by omega
   have HB := Lib.hid hb
   have HF := Lib.hid (show decide (0 ≤ (-1 : Int)) = l.any P by
    rw [show decide (0 ≤ (-1 : Int)) = false by decide]
    refine (List.any_eq_false.2 fun x hx => ?_).symm
    obtain ⟨j, hj, rfl⟩ := List.getElem_of_mem hx
    rw [HJ.out j hj (by rw [HN.out] at hj; omega)]
    decide)
   clear hb
   go_wp2_with fail
   go_ret
   exact ⟨_, rfl, HF.out, HB.out⟩
set_option maxRecDepth 100000 in
theorem contd_any (w : World) (A : Option Addr) (n k : Nat) (l : List De) (q : Nat) (P : De → Bool) (hw : ∀ x ∈ l, P x = true ∨ P x = false) (h : Reads w w.heap.size 7 A n (deV l)) (hn : l.length = n) (hm : n ≤ maxLen)
  (hP : ∀ w' d, Below w.heap.size w w' → d ∈ l → Calls Tryz.prog 29 #[dAgg d, .pointer (some ⟨q, 0, none⟩)] w' fun e w'' => e = .returned (.bool (P d)) ∧ Below w'.heap.size w' w'') :
  Calls Tryz.prog 28 #[.slice A n k, cloD q] w fun e w' => e = .returned (.bool (l.any P)) ∧ Below w.heap.size w w' := by
 have HI := Lib.hid (idxd_any w A n k l q P hw h hn hm hP)
 obtain ⟨b, hb⟩ : ∃ b, l.any P = b := ⟨_, rfl⟩
 rw [hb] at HI ⊢
 clear h hn hP hw hb
 unfold cloD at *
 go_enter Tryz.func28, Tryz.ntmps28
 go_wp2_with fail
 refine HI.out.mono ?_
 rintro e w1 ⟨r, rfl, hr, b1⟩
 have B1 := Lib.hid b1
 have HR := Lib.hid hr
 clear b1 hr
 go_wp2_with fail
 go_ret
 exact ⟨by rw [← HR.out]; rfl, B1.out⟩
end Go.Proofs.YtjbnfigpflambacGreatDoor
