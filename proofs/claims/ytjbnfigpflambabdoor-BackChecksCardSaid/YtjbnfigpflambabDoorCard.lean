/- Plain laws: a set of names in a map, and how many there are. -/
import Derived.Test.YtjbnfigpflambabDoorWo
import Derived.Maps.Own
import Derived.Maps.OwnSet
import Derived.Maps.Views
namespace Go.Proofs.YtjbnfigpflambabDoor
open Go.Maps Go.WideMaps

def litS (k : ByteArray) : Lit := .string k.data.toList
theorem litS_inj {a b : ByteArray} (h : litS a = litS b) : a = b := by
  unfold litS at h
  injection h with h
  obtain ⟨⟨x⟩⟩ := a
  obtain ⟨⟨y⟩⟩ := b
  simp only at h
  rw [h]
/-- the set of the names of a list -/
def setN {H : Type} (l : List ByteArray) : DataW H := setOf (.lit (.bool true)) (l.map litS)
theorem setN_nil {H : Type} : setN (H := H) [] = .map [] := rfl
theorem setN_snoc {H : Type} (l : List ByteArray) (k : ByteArray) : setN (H := H) (l ++ [k]) = (setN l).put (litS k) (.lit (.bool true)) := by
  unfold setN
  rw [List.map_append, List.map_cons, List.map_nil, setOf_snoc]
theorem key_lits (l : List ByteArray) : ∀ x ∈ l.map litS, WideAt.IsKeyLit x := by
  intro x hx
  obtain ⟨k, _, rfl⟩ := List.mem_map.1 hx
  trivial
theorem has_setN {H : Type} (l : List ByteArray) (k : ByteArray) : Maps.has (setN (H := H) l) (litS k) = hasN l k := by
  unfold setN
  rw [has_setOf _ _ _ (key_lits l), Bool.eq_iff_iff, hasN_iff, List.any_eq_true]
  constructor
  · rintro ⟨x, hx, h⟩
    obtain ⟨j, hj, rfl⟩ := List.mem_map.1 hx
    rw [← litS_inj (WideAt.sameKey_eq h)]
    exact hj
  · intro h
    exact ⟨litS k, List.mem_map.2 ⟨k, h, rfl⟩, WideAt.sameKey_self trivial⟩
theorem size_rev {H : Type} : ∀ l : List ByteArray, Maps.size (setN (H := H) l.reverse) = card l
  | [] => rfl
  | k :: m => by
    have ih := size_rev (H := H) m
    have hh : hasN m.reverse k = hasN m k := by rw [Bool.eq_iff_iff, hasN_iff, hasN_iff]; simp
    rw [List.reverse_cons, setN_snoc, size_put (show Tidy (setN (H := H) m.reverse) from tidy_setOf _ _ (key_lits _)), has_setN, ih, hh, card_cons]
theorem size_setN {H : Type} (l : List ByteArray) : Maps.size (setN (H := H) l) = card l := by
  have h := size_rev (H := H) l.reverse
  rw [List.reverse_reverse] at h
  rw [h]
  exact card_congr fun x => by simp
end Go.Proofs.YtjbnfigpflambabDoor
