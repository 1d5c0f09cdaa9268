/- strconv.Itoa of 0 to 11. -/
import Derived.Test.YtjbnfigpflambabDoorBase
namespace Go.Proofs.YtjbnfigpflambabDoor
open Go.ChangeShapes Go.WideShapes Go.ChangeAt Go.RowKit

def numsL : List ByteArray := [⟨#[48]⟩, ⟨#[49]⟩, ⟨#[50]⟩, ⟨#[51]⟩, ⟨#[52]⟩, ⟨#[53]⟩, ⟨#[54]⟩, ⟨#[55]⟩, ⟨#[56]⟩, ⟨#[57]⟩, ⟨#[49, 48]⟩, ⟨#[49, 49]⟩]
def numT (n : Int) : ByteArray := numsL.getD n.toNat ByteArray.empty
theorem below12 {n : Int} (h0 : 0 ≤ n) (h1 : n < 12) : n = 0 ∨ n = 1 ∨ n = 2 ∨ n = 3 ∨ n = 4 ∨ n = 5 ∨ n = 6 ∨ n = 7 ∨ n = 8 ∨ n = 9 ∨ n = 10 ∨ n = 11 := by omega
theorem str_ret {a b : ByteArray} (h : a = b) : Ending.returned (.string a) = .returned (.string b) := by rw [h]
set_option maxRecDepth 100000 in
theorem small_any (n : Int) (h0 : 0 ≤ n) (h1 : n < 12) (w : World) :
    Calls Tryd.prog 93 #[.int .i64 n] w fun e w' => e = .returned (.string (numT n)) ∧ w = w' := by
  rcases below12 h0 h1 with rfl | rfl | rfl | rfl | rfl | rfl | rfl | rfl | rfl | rfl | rfl | rfl
  all_goals
    go_enter Tryd.func93, Tryd.ntmps93
    go_wp2
    go_ret
    exact ⟨str_ret (by decide +kernel), rfl⟩
theorem format_any (n : Int) (h0 : 0 ≤ n) (h1 : n < 12) (w : World) :
    Calls Tryd.prog 78 #[.int .i64 n, .int .i64 10] w fun e w' => e = .returned (.string (numT n)) ∧ w = w' := by
  have g1 : n < 100 := by omega
  go_enter Tryd.func78, Tryd.ntmps78
  go_wp2_with fail
  refine (small_any n h0 h1 _).mono ?_
  rintro e w1 ⟨rfl, rfl⟩
  go_wp2_with fail
  go_ret
  exact ⟨rfl, rfl⟩
theorem itoa_in (n : Int) (h0 : 0 ≤ n) (h1 : n < 12) (w : World) :
    Calls Tryd.prog 54 #[.int .i64 n] w fun e w' => e = .returned (.string (numT n)) ∧ w = w' := by
  go_enter Tryd.func54, Tryd.ntmps54
  go_wp2_with fail
  refine (format_any n h0 h1 _).mono ?_
  rintro e w1 ⟨rfl, rfl⟩
  go_wp2_with fail
  go_ret
  exact ⟨rfl, rfl⟩
theorem itoa_any (n : Int) (h0 : 0 ≤ n) (h1 : n < 12) (w : World) :
    Calls Tryd.prog 27 #[.int .i64 n] w fun e w' => e = .returned (.string (numT n)) ∧ w = w' := by
  go_enter Tryd.func27, Tryd.ntmps27
  go_wp2_with fail
  refine (itoa_in n h0 h1 _).mono ?_
  rintro e w1 ⟨rfl, rfl⟩
  go_wp2_with fail
  go_ret
  exact ⟨rfl, rfl⟩
end Go.Proofs.YtjbnfigpflambabDoor
