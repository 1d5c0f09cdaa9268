/- pool.CheckSetup and the reference's SetupFault: what each returns. -/
import Derived.Test.YtjbnfigpflambaaDoorBase
namespace Go.Proofs.YtjbnfigpflambaaDoor
open Go.ChangeShapes Go.WideShapes Go.ChangeAt Go.RowKit

def setupE (m s : Int) : Int := if m < 1 ∨ 3 < m then 3 else if s < 1 ∨ 4 < s then 2 else 0

theorem setup_any (m s : Int) (w : World) :
    Calls Tryd.prog 14 #[.agg #[.int .i64 m, .int .i64 s]] w fun e w' => e = .returned (.int .i64 (setupE m s)) ∧ Below w.heap.size w w' := by
  unfold setupE
  by_cases h1 : m < 1
  · go_enter Tryd.func14, Tryd.ntmps14
    go_wp2
    go_ret
    exact ⟨by simp, boxed _ _⟩
  by_cases h2 : 3 < m
  · go_enter Tryd.func14, Tryd.ntmps14
    go_wp2
    go_ret
    exact ⟨by simp, boxed _ _⟩
  by_cases h3 : s < 1
  · go_enter Tryd.func14, Tryd.ntmps14
    go_wp2
    go_ret
    exact ⟨by simp, boxed _ _⟩
  by_cases h4 : 4 < s
  · go_enter Tryd.func14, Tryd.ntmps14
    go_wp2
    go_ret
    exact ⟨by simp, boxed _ _⟩
  · go_enter Tryd.func14, Tryd.ntmps14
    go_wp2
    go_ret
    exact ⟨by simp, boxed _ _⟩
end Go.Proofs.YtjbnfigpflambaaDoor
