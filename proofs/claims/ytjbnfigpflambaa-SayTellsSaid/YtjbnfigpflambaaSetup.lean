/- pool.CheckSetup and the reference's SetupFault: what each returns. -/
import Derived.Test.YtjbnfigpflambaaBase
import Derived.Test.YtjbnfigpflambaaIn
namespace Go.Proofs.Ytjbnfigpflambaa
open Go.ChangeShapes Go.WideShapes Go.ChangeAt Go.RowKit

def setupE (m s : Int) : Int := if m < 1 ∨ 3 < m then 3 else if s < 1 ∨ 4 < s then 2 else 0

theorem setup_any (m s : Int) (w : World) :
    Calls Try.prog 16 #[.agg #[.int .i64 m, .int .i64 s]] w fun e w' => e = .returned (.int .i64 (setupE m s)) ∧ Below w.heap.size w w' := by
  unfold setupE
  by_cases h1 : m < 1
  · go_enter Try.func16, Try.ntmps16
    go_wp2
    go_ret
    exact ⟨by simp, boxed _ _⟩
  by_cases h2 : 3 < m
  · go_enter Try.func16, Try.ntmps16
    go_wp2
    go_ret
    exact ⟨by simp, boxed _ _⟩
  by_cases h3 : s < 1
  · go_enter Try.func16, Try.ntmps16
    go_wp2
    go_ret
    exact ⟨by simp, boxed _ _⟩
  by_cases h4 : 4 < s
  · go_enter Try.func16, Try.ntmps16
    go_wp2
    go_ret
    exact ⟨by simp, boxed _ _⟩
  · go_enter Try.func16, Try.ntmps16
    go_wp2
    go_ret
    exact ⟨by simp, boxed _ _⟩
theorem setupRef_any (m s : Int) (w : World) :
    Calls Try.prog 17 #[.agg #[.int .i64 m, .int .i64 s]] w fun e w' => e = .returned (.int .i64 (setupE m s)) ∧ Below w.heap.size w w' := by
  unfold setupE
  by_cases h1 : m < 1 ∨ 3 < m
  · go_enter Try.func17, Try.ntmps17
    go_wp2_with fail
    refine (in_no _ _ _ _ h1).mono ?_
    rintro e w1 ⟨rfl, rfl⟩
    go_wp2_with fail
    go_ret
    exact ⟨by simp [h1], boxed _ _⟩
  by_cases h2 : s < 1 ∨ 4 < s
  · have hm : 1 ≤ m ∧ m ≤ 3 := by omega
    go_enter Try.func17, Try.ntmps17
    go_wp2_with fail
    refine (in_yes _ _ _ _ hm.1 hm.2).mono ?_
    rintro e w1 ⟨rfl, rfl⟩
    go_wp2_with fail
    refine (in_no _ _ _ _ h2).mono ?_
    rintro e w1 ⟨rfl, rfl⟩
    go_wp2_with fail
    go_ret
    exact ⟨by simp [h1, h2], boxed _ _⟩
  · have hm : 1 ≤ m ∧ m ≤ 3 := by omega
    have hs : 1 ≤ s ∧ s ≤ 4 := by omega
    go_enter Try.func17, Try.ntmps17
    go_wp2_with fail
    refine (in_yes _ _ _ _ hm.1 hm.2).mono ?_
    rintro e w1 ⟨rfl, rfl⟩
    go_wp2_with fail
    refine (in_yes _ _ _ _ hs.1 hs.2).mono ?_
    rintro e w1 ⟨rfl, rfl⟩
    go_wp2_with fail
    go_ret
    exact ⟨by simp [h1, h2], boxed _ _⟩
end Go.Proofs.Ytjbnfigpflambaa
