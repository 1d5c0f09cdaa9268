/- pool.CheckSetup and the reference's SetupFault: what each returns. pool.Run where it turns its input down: a bad setup; too many acts; one bad act. -/
import Derived.Test.YtjbnfigpflambacGreatDoorG05
/- pool.CheckSetup and the reference's SetupFault: what each returns. -/
namespace Go.Proofs.YtjbnfigpflambacGreatDoor
open Go.ChangeShapes Go.WideShapes Go.ChangeAt Go.RowKit
def setupE (m s : Int) : Int := if m < 1 ∨ 3 < m then 3 else if s < 1 ∨ 4 < s then 2 else 0
theorem setup_any (m s : Int) (w : World) :
  Calls Tryz.prog 41 #[.agg #[.int .i64 m, .int .i64 s]] w fun e w' => e = .returned (.int .i64 (setupE m s)) ∧ Below w.heap.size w w' := by
 unfold setupE
 by_cases h1 : m < 1
 ·go_enter Tryz.func41, Tryz.ntmps41
  go_wp2
  go_ret
  exact ⟨by simp, boxed _ _⟩
 by_cases h2 : 3 < m
 ·go_enter Tryz.func41, Tryz.ntmps41
  go_wp2
  go_ret
  exact ⟨by simp, boxed _ _⟩
 by_cases h3 : s < 1
 ·go_enter Tryz.func41, Tryz.ntmps41
  go_wp2
  go_ret
  exact ⟨by simp, boxed _ _⟩
 by_cases h4 : 4 < s
 ·go_enter Tryz.func41, Tryz.ntmps41
  go_wp2
  go_ret
  exact ⟨by simp, boxed _ _⟩
 ·go_enter Tryz.func41, Tryz.ntmps41
  go_wp2
  go_ret
  exact ⟨by simp, boxed _ _⟩
end Go.Proofs.YtjbnfigpflambacGreatDoor
/- pool.Run where it turns its input down: a bad setup; too many acts; one bad act. -/
namespace Go.Proofs.YtjbnfigpflambacGreatDoor
open Go.ChangeShapes Go.WideShapes Go.ChangeAt Go.RowKit
def bxU (m s : Int) : Obj := .cells #[.int .i64 m, .int .i64 s] 23 (0, 0)
def bxO : Obj := .cells #[.slice none 0 0, .slice none 0 0, .slice none 0 0] 29 (0, 0)
structure RU (w0 : World) (m s : Int) (w : World) : Prop where
 bel : Below w0.heap.size w0 w
 set : Blk w w0.heap.size 23 #[.int .i64 m, .int .i64 s]
 out : Blk w (w0.heap.size + 1) 29 #[.slice none 0 0, .slice none 0 0, .slice none 0 0]
theorem RU.start (w : World) (m s : Int) : RU w m s ((w.alloc (bxU m s)).alloc bxO) := by
 refine ⟨boxed2 w _ _, (Blk.new w _ _).alloc _, ?_⟩
 have h := Blk.new (w.alloc (bxU m s)) 29 #[.slice none 0 0, .slice none 0 0, .slice none 0 0]
 have e : ∀ o : Obj, (w.alloc o).heap.size = w.heap.size + 1 := fun o => by simp
 rw [e] at h
 exact h
theorem RU.keep {w0 w w' : World} {m s : Int} (h : RU w0 m s w) (hb : Below w.heap.size w w') : RU w0 m s w' :=
 ⟨below_step h.bel (Nat.le_refl _) hb, h.set.keep hb, h.out.keep hb⟩
theorem RU.after {w0 w' : World} {m s : Int} (hb : Below ((w0.alloc (bxU m s)).alloc bxO).heap.size ((w0.alloc (bxU m s)).alloc bxO) w') : RU w0 m s w' := (RU.start w0 m s).keep hb
end Go.Proofs.YtjbnfigpflambacGreatDoor
