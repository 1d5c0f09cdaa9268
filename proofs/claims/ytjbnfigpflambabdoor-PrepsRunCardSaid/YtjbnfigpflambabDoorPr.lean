/- The texts of PrepsRun. -/
import Derived.Test.YtjbnfigpflambabDoorUn
namespace Go.Proofs.YtjbnfigpflambabDoor

def ownK : ByteArray := ⟨#[111, 119, 110]⟩
def textsP : List ByteArray := [⟨#[103, 101, 116, 32, 97]⟩, ⟨#[114, 101, 97, 100, 32, 114, 111, 119]⟩, ⟨#[112, 117, 116, 32, 114, 111, 119, 32, 118, 57]⟩, ⟨#[112, 117, 116, 32, 122, 122, 122, 32, 120]⟩]
def okT (t : ByteArray) : Bool := decide (t.size ≤ 60) && decide (readE t = 0) && decide ((readS t).k ≠ 8) && decide (checkE (readS t) = 0) && decide (checkE ⟨11, ownK, t⟩ = 0)
theorem texts_ok : textsP.all okT = true := by decide +kernel
theorem text_ok {t : ByteArray} (h : t ∈ textsP) : t.size ≤ 60 ∧ readE t = 0 ∧ (readS t).k ≠ 8 ∧ checkE (readS t) = 0 ∧ checkE ⟨11, ownK, t⟩ = 0 := by
  have h1 := List.all_eq_true.1 texts_ok t h
  unfold okT at h1
  simp only [Bool.and_eq_true, decide_eq_true_eq] at h1
  exact ⟨h1.1.1.1.1, h1.1.1.1.2, h1.1.1.2, h1.1.2, h1.2⟩
end Go.Proofs.YtjbnfigpflambabDoor
