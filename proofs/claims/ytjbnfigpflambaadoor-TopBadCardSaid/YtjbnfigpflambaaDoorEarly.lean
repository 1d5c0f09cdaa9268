/- pool.Run where it turns its input down: a bad setup; too many acts; one bad act. -/
import Derived.Test.YtjbnfigpflambaaDoorSetup
import Derived.Test.YtjbnfigpflambaaDoorBlk
namespace Go.Proofs.YtjbnfigpflambaaDoor
open Go.ChangeShapes Go.WideShapes Go.ChangeAt Go.RowKit

def outZ : Value := .agg #[.slice none 0 0, .slice none 0 0, .slice none 0 0]
def bxU (m s : Int) : Obj := .cells #[.int .i64 m, .int .i64 s] 24 (0, 0)
def bxO : Obj := .cells #[.slice none 0 0, .slice none 0 0, .slice none 0 0] 29 (0, 0)
/-- Run's first blocks: the setup, the result -/
structure RU (w0 : World) (m s : Int) (w : World) : Prop where
  bel : Below w0.heap.size w0 w
  set : Blk w w0.heap.size 24 #[.int .i64 m, .int .i64 s]
  out : Blk w (w0.heap.size + 1) 29 #[.slice none 0 0, .slice none 0 0, .slice none 0 0]
theorem RU.start (w : World) (m s : Int) : RU w m s ((w.alloc (bxU m s)).alloc bxO) := by
  refine ⟨boxed2 w _ _, (Blk.new w _ _).alloc _, ?_⟩
  have h := Blk.new (w.alloc (bxU m s)) 29 #[.slice none 0 0, .slice none 0 0, .slice none 0 0]
  have e : ∀ o : Obj, (w.alloc o).heap.size = w.heap.size + 1 := fun o => by simp
  rw [e] at h
  exact h
theorem RU.keep {w0 w w' : World} {m s : Int} (h : RU w0 m s w) (hb : Below w.heap.size w w') : RU w0 m s w' :=
  ⟨below_step h.bel (Nat.le_refl _) hb, h.set.keep hb, h.out.keep hb⟩
theorem RU.after {w0 w' : World} {m s : Int} (hb : Below ((w0.alloc (bxU m s)).alloc bxO).heap.size ((w0.alloc (bxU m s)).alloc bxO) w') : RU w0 m s w' := (RU.start w0 m s).keep hb

theorem run_setup (m s : Int) (v : Value) (w : World) (h : setupE m s ≠ 0) :
    Calls Tryd.prog 7 #[.agg #[.int .i64 m, .int .i64 s], v] w fun e w' => e = .returned (.tuple #[outZ, .int .i64 (setupE m s)]) ∧ Below w.heap.size w w' := by
  have hs := fun w => setup_any m s w
  obtain ⟨E, hE⟩ : ∃ E, setupE m s = E := ⟨_, rfl⟩
  rw [hE] at h ⊢
  rw [hE] at hs
  have XS := Lib.hid hs
  have hb0 : (E != 0) = true := by simp [h]
  clear hs h hE
  unfold outZ
  go_enter Tryd.func7, Tryd.ntmps7
  go_wp2_with fail
  refine (XS.out _).mono ?_
  rintro e w1 ⟨rfl, hb1⟩
  have hr := RU.after hb1
  have c0 := hr.out.cell_ 0 _ rfl
  have c1 := hr.out.cell_ 1 _ rfl
  have c2 := hr.out.cell_ 2 _ rfl
  have fr := hr.out.frozen
  have HR := Lib.hid hr
  clear hr hb1
  go_wp2_with fail
  refine bodyPost_ret (v := .tuple #[.agg #[.slice none 0 0, .slice none 0 0, .slice none 0 0], .int .i64 E]) ?_ rfl ⟨rfl, ?_⟩
  · simp [results, Tryd.results7, go_sem, c0, c1, c2]
  · exact ((HR.out.bel.setCell (Nat.le_succ _) _).setCell (Nat.le_succ _) _).setCell (Nat.le_succ _) _
theorem run_long (m s : Int) (a : Option Addr) (n c : Nat) (w : World) (h : setupE m s = 0) (hn : 300 < n) :
    Calls Tryd.prog 7 #[.agg #[.int .i64 m, .int .i64 s], .slice a n c] w fun e w' => e = .returned (.tuple #[outZ, .int .i64 1]) ∧ Below w.heap.size w w' := by
  have hs := fun w => setup_any m s w
  rw [h] at hs
  have XS := Lib.hid hs
  have hn1 : (300 : Int) < (n : Int) := by omega
  clear hs h
  unfold outZ
  go_enter Tryd.func7, Tryd.ntmps7
  go_wp2_with fail
  refine (XS.out _).mono ?_
  rintro e w1 ⟨rfl, hb1⟩
  have hr := RU.after hb1
  have c0 := hr.out.cell_ 0 _ rfl
  have c1 := hr.out.cell_ 1 _ rfl
  have c2 := hr.out.cell_ 2 _ rfl
  have fr := hr.out.frozen
  have HR := Lib.hid hr
  clear hr hb1
  go_wp2_with fail
  refine bodyPost_ret (v := .tuple #[.agg #[.slice none 0 0, .slice none 0 0, .slice none 0 0], .int .i64 1]) ?_ rfl ⟨rfl, ?_⟩
  · simp [results, Tryd.results7, go_sem, c0, c1, c2]
  · exact ((HR.out.bel.setCell (Nat.le_succ _) _).setCell (Nat.le_succ _) _).setCell (Nat.le_succ _) _
def actE (k c : Int) (d : ByteArray) : Int := if k < 1 ∨ 2 < k then 3 else if c < 0 ∨ 6 ≤ c then 2 else if 1000 < d.size then 1 else 0
theorem actE_cases {k c : Int} {d : ByteArray} (h : actE k c d ≠ 0) : (k < 1 ∧ actE k c d = 3) ∨ (1 ≤ k ∧ 2 < k ∧ actE k c d = 3) ∨ (1 ≤ k ∧ k ≤ 2 ∧ c < 0 ∧ actE k c d = 2) ∨ (1 ≤ k ∧ k ≤ 2 ∧ 0 ≤ c ∧ 6 ≤ c ∧ actE k c d = 2) ∨ (1 ≤ k ∧ k ≤ 2 ∧ 0 ≤ c ∧ c < 6 ∧ 1000 < d.size ∧ actE k c d = 1) := by
  unfold actE at h ⊢
  by_cases h1 : k < 1 ∨ 2 < k
  · rw [if_pos h1]
    rcases Int.lt_or_le k 1 with h2 | h2
    · exact .inl ⟨h2, rfl⟩
    · exact .inr (.inl ⟨h2, by omega, rfl⟩)
  rw [if_neg h1] at h ⊢
  by_cases h3 : c < 0 ∨ 6 ≤ c
  · rw [if_pos h3]
    rcases Int.lt_or_le c 0 with h2 | h2
    · exact .inr (.inr (.inl ⟨by omega, by omega, h2, rfl⟩))
    · exact .inr (.inr (.inr (.inl ⟨by omega, by omega, h2, by omega, rfl⟩)))
  rw [if_neg h3] at h ⊢
  by_cases h4 : 1000 < d.size
  · rw [if_pos h4]
    exact .inr (.inr (.inr (.inr ⟨by omega, by omega, by omega, by omega, h4, rfl⟩)))
  · rw [if_neg h4] at h
    exact absurd rfl h
set_option maxHeartbeats 2000000 in
theorem run_one (m s : Int) (k c : Int) (d : ByteArray) (b o : Nat) (w : World) (h : setupE m s = 0) (q0 : w.cell? ⟨b, o, none⟩ = some (.int .i64 k)) (q1 : w.cell? ⟨b, o + 1, none⟩ = some (.int .i64 c)) (q2 : w.cell? ⟨b, o + 2, none⟩ = some (.string d)) (hbad : actE k c d ≠ 0) :
    Calls Tryd.prog 7 #[.agg #[.int .i64 m, .int .i64 s], .slice (some ⟨b, o, none⟩) 1 1] w fun e w' => e = .returned (.tuple #[outZ, .int .i64 (actE k c d)]) ∧ Below w.heap.size w w' := by
  have hs := fun w => setup_any m s w
  rw [h] at hs
  have XS := Lib.hid hs
  have hcs := actE_cases hbad
  clear hs h hbad
  generalize actE k c d = E at hcs ⊢
  unfold outZ
  go_enter Tryd.func7, Tryd.ntmps7
  go_wp2_with fail
  refine (XS.out _).mono ?_
  rintro e w1 ⟨rfl, hb1⟩
  have hr := RU.after hb1
  replace q0 := keep_cell hr.bel q0
  replace q1 := keep_cell hr.bel q1
  replace q2 := keep_cell hr.bel q2
  have c0 := hr.out.cell_ 0 _ rfl
  have c1 := hr.out.cell_ 1 _ rfl
  have c2 := hr.out.cell_ 2 _ rfl
  have fr := hr.out.frozen
  have lo := hr.out.lt
  have nlo := Nat.ne_of_lt lo
  have HR := Lib.hid hr
  clear hr hb1
  rcases hcs with ⟨h1, rfl⟩ | ⟨h1, h2, rfl⟩ | ⟨h1, h2, h3, rfl⟩ | ⟨h1, h2, h3, h4, rfl⟩ | ⟨h1, h2, h3, h4, h5, rfl⟩
  all_goals
    try (have h6 : (1000 : Int) < (d.size : Int) := by omega)
    go_wp2_with fail
    refine wp_loop_once ?_
    go_wp2_with fail
    have B := (((HR.out.out.set_ 0 (.slice none 0 0)).set_ 1 (.slice none 0 0)).set_ 2 (.slice none 0 0)).alloc (.cells #[.int .i64 k, .int .i64 c, .string d] 34 (0, 0))
    have t0 := B.cell_ 0 _ rfl
    have t1 := B.cell_ 1 _ rfl
    have t2 := B.cell_ 2 _ rfl
    refine bodyPost_ret (v := .tuple #[.agg #[.slice none 0 0, .slice none 0 0, .slice none 0 0], .int .i64 _]) ?_ rfl ⟨rfl, ?_⟩
    · simp [results, Tryd.results7, go_sem, t0, t1, t2]
    · exact (((HR.out.bel.setCell (Nat.le_succ _) _).setCell (Nat.le_succ _) _).setCell (Nat.le_succ _) _).alloc (by have := lo; simp; omega) _
end Go.Proofs.YtjbnfigpflambaaDoor
