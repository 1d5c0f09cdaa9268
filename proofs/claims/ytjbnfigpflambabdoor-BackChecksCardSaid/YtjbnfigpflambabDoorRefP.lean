/- The reference's Pairs and plus. -/
import Derived.Test.YtjbnfigpflambabDoorRefA
import Derived.Test.YtjbnfigpflambabDoorCopy
import Derived.Test.YtjbnfigpflambabDoorRb
namespace Go.Proofs.YtjbnfigpflambabDoor
open Go.ChangeShapes Go.WideShapes Go.ChangeAt Go.RowKit

set_option maxHeartbeats 1000000 in
/-- new memory -/
theorem refpairs_any (w : World) (v : Value) (l : List Pr) (h : PL w w.heap.size v l) :
    Calls Tryd.prog 49 #[v] w fun e w' => ∃ v', e = .returned v' ∧ OPL w' w.heap.size v' l ∧ Below w.heap.size w w' := by
  obtain ⟨i0, hi0, hz0, hz1, hz2⟩ := info_parts pair_info
  obtain ⟨A, c, rfl, hc, hr, hf⟩ := h
  have HR := Lib.hid hr
  have HF := Lib.hid hf
  clear hr hf
  go_enter Tryd.func49, Tryd.ntmps49
  go_wp2_with (at_builtin; refine wpList_append_any _ rfl (.const (.slice none 0 0)) (.tmp 3) 28 rfl w.heap.size 66 i0 _ 2 32 Tryd.underlying28 hi0 hz0 hz1 hz2 rfl (by decide) (.slice none 0 0) 0 [] rfl (World.ownsRow_nil _ _ _ _) w.heap.size A l.length c (cellsP l) rfl HR.out (cellsP_one l) (by have := HF.out.1; unfold maxLen; omega) (by have := HF.out.1; omega) (Nat.le_refl _) ?_; intro v' w1 hown hgr hat)
  have hb : Below w.heap.size w w1 := (Below.refl w.heap.size w).grown hgr (Nat.le_refl _) (fun k hk => by simp [Value.ownBlock] at hk)
  have HO := Lib.hid (OPL.mk (by simpa using hown) HF.out)
  have HB := Lib.hid hb
  clear hown hgr hat hb
  go_wp2_with fail
  go_ret
  exact ⟨_, rfl, HO.out, HB.out⟩
/-- plus, pair by pair: is the new one in, and what is gathered -/
def plF (key v : ByteArray) (s : Bool × List Pr) (p : Pr) : Bool × List Pr :=
  let d := s.1 || !ltS p.k key
  let o := if !s.1 && !ltS p.k key then s.2 ++ [⟨key, v⟩] else s.2
  (d, if p.k = key then o else o ++ [p])
theorem plF_done (key v : ByteArray) : ∀ (l o : List Pr), l.foldl (plF key v) (true, o) = (true, o ++ l.filter fun q => !decide (q.k = key))
  | [], o => by simp
  | p :: l, o => by
    rw [List.foldl_cons]
    by_cases h : p.k = key
    · rw [show plF key v (true, o) p = (true, o) by simp [plF, h], plF_done key v l o]
      simp [h]
    · rw [show plF key v (true, o) p = (true, o ++ [p]) by simp [plF, h], plF_done key v l (o ++ [p])]
      simp [h]
def plE (key v : ByteArray) (s : Bool × List Pr) : List Pr := if s.1 then s.2 else s.2 ++ [⟨key, v⟩]
theorem plF_all (key v : ByteArray) : ∀ (l o : List Pr), plE key v (l.foldl (plF key v) (false, o)) = o ++ plusP l key v
  | [], o => by simp [plE, plusP]
  | p :: l, o => by
    rw [List.foldl_cons]
    by_cases h : ltS p.k key = true
    · have hn : ¬ p.k = key := fun e => by
        rw [e] at h
        unfold ltS at h
        rw [less_irrefl] at h
        cases h
      rw [show plF key v (false, o) p = (false, o ++ [p]) by simp [plF, h, hn], plF_all key v l (o ++ [p])]
      simp [plusP, h]
    · have h' : ltS p.k key = false := by simpa using h
      by_cases e : p.k = key
      · have h2 : ltS key key = false := by have := h'; rwa [e] at this
        rw [show plF key v (false, o) p = (true, o ++ [⟨key, v⟩]) by simp [plF, h2, e], plF_done]
        simp [plE, plusP, h2, e]
      · rw [show plF key v (false, o) p = (true, o ++ [⟨key, v⟩] ++ [p]) by simp [plF, h', e], plF_done]
        simp [plE, plusP, h', e]
theorem plF_len (key v : ByteArray) : ∀ (l : List Pr) (s : Bool × List Pr), (l.foldl (plF key v) s).2.length ≤ s.2.length + 2 * l.length
  | [], _ => by simp
  | p :: l, s => by
    rw [List.foldl_cons]
    have h := plF_len key v l (plF key v s p)
    have h2 : (plF key v s p).2.length ≤ s.2.length + 2 := by
      unfold plF
      simp only
      split <;> split <;> simp
    rw [List.length_cons]
    omega
theorem plF_take {l : List Pr} {k : Nat} (h : k < l.length) (key v : ByteArray) (s : Bool × List Pr) : (l.take (k + 1)).foldl (plF key v) s = plF key v ((l.take k).foldl (plF key v) s) l[k] := by
  rw [List.take_succ_eq_append_getElem h, List.foldl_append]
  rfl
theorem own_base {w : World} {B : Nat} {t : TypeId} {size n : Nat} {v : Value} {xs : List Value} (h : w.ownsRow B t size v n xs) : ∀ k, v.ownBlock = some k → B ≤ k := by
  intro k hk
  rcases h.2 with ⟨rfl, _⟩ | ⟨g, cap, cur, rfl, hB, _⟩
  · simp [Value.ownBlock] at hk
  · have : g = k := by simpa [Value.ownBlock] using hk
    omega
theorem cellsP_app (l m : List Pr) : cellsP (l ++ m) = cellsP l ++ cellsP m := by unfold cellsP; rw [List.flatMap_append]
end Go.Proofs.YtjbnfigpflambabDoor
