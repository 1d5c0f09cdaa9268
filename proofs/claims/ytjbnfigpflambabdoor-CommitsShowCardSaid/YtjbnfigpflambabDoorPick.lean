/- The keep package's picked: what it returns. -/
import Derived.Test.YtjbnfigpflambabDoorBase
namespace Go.Proofs.YtjbnfigpflambabDoor
open Go.ChangeShapes Go.WideShapes Go.ChangeAt Go.RowKit

/-- a number from 0 to m - 1 -/
def pick (n m : Int) : Int := (if n < 0 then -(n + 1) else n) % m
theorem pick_bd (n m : Int) (hm : 0 < m) : 0 ≤ pick n m ∧ pick n m < m := by
  unfold pick
  exact ⟨Int.emod_nonneg _ (by omega), Int.emod_lt_of_pos _ hm⟩
theorem neg_mod {n m : Int} (h : n < 0) : -(n + 1).tmod m = -(n + 1) % m := by
  rw [← Int.neg_tmod, Int.tmod_eq_emod_of_nonneg (by omega)]
theorem int_ret {a b : Int} (h : a = b) : Ending.returned (.int .i64 a) = .returned (.int .i64 b) := by rw [h]
theorem picked_any (n m : Int) (w : World) (hn : (Lit.int .i64 n).wf = true) (hm : 0 < m) (hm2 : m ≤ 9223372036854775807) :
    Calls Tryd.prog 18 #[.int .i64 n, .int .i64 m] w fun e w' => e = .returned (.int .i64 (pick n m)) ∧ w = w' := by
  obtain ⟨h1, h2⟩ := wf_i64 hn
  clear hn
  have hz : (m == 0) = false := by simp; omega
  unfold pick
  by_cases h : n < 0
  · rw [if_pos h]
    go_enter Tryd.func18, Tryd.ntmps18
    go_wp2
    go_ret
    exact ⟨int_ret (neg_mod h), rfl⟩
  · rw [if_neg h]
    go_enter Tryd.func18, Tryd.ntmps18
    go_wp2
    go_ret
    exact ⟨rfl, rfl⟩
theorem picked_is (n m r : Int) (w : World) (hn : (Lit.int .i64 n).wf = true) (hm : 0 < m) (hm2 : m ≤ 9223372036854775807) (hr : pick n m = r) :
    Calls Tryd.prog 18 #[.int .i64 n, .int .i64 m] w fun e w' => e = .returned (.int .i64 r) ∧ w = w' := by
  subst hr
  exact picked_any n m w hn hm hm2
end Go.Proofs.YtjbnfigpflambabDoor
