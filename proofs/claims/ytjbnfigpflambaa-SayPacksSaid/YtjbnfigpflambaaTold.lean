/- The reference's ToldOf: what it returns. -/
import Derived.Test.YtjbnfigpflambaaTell
import Derived.Test.YtjbnfigpflambaaIn
namespace Go.Proofs.Ytjbnfigpflambaa
open Go.ChangeShapes Go.WideShapes Go.ChangeAt Go.RowKit

set_option maxHeartbeats 2000000 in
theorem told_ok (k : Int) (t : ByteArray) (st : Int) (w : World) (h1 : 1 ≤ k) (h4 : k ≤ 4) (hs : 0 ≤ st) (hs2 : st ≤ 2) (hf : (k = 2 ∨ k = 4) ↔ t.toList ≠ []) (hz : t.size ≤ 60) :
    Calls Try.prog 19 #[.agg #[.int .i64 k, .string t, .int .i64 st]] w fun e w' => e = .returned (.tuple #[.string (stB st ++ bodyB k t), .int .i64 0]) ∧ Below w.heap.size w w' := by
  by_cases he : t.toList = []
  · have hk : k = 1 ∨ k = 3 := by simp only [he, ne_eq, not_true_eq_false, iff_false] at hf; omega
    clear hf
    rcases hk with rfl | rfl <;> rcases three hs hs2 with rfl | rfl | rfl
    all_goals
      go_enter Try.func19, Try.ntmps19
      go_wp2
      go_ret2
      exact ⟨by simp [stB, bodyB], boxed _ _⟩
  · have hk : k = 2 ∨ k = 4 := by simpa [he] using hf
    clear hf
    have hi : t.toList.isEmpty = false := by simpa using he
    rcases hk with rfl | rfl <;> rcases three hs hs2 with rfl | rfl | rfl
    all_goals
      go_enter Try.func19, Try.ntmps19
      go_wp2
      go_ret2
      exact ⟨by simp [stB, bodyB, ByteArray.append_assoc], boxed _ _⟩
theorem told_kind (k : Int) (t : ByteArray) (st : Int) (w : World) (h : k < 1 ∨ 4 < k ∨ st < 0 ∨ 2 < st) :
    Calls Try.prog 19 #[.agg #[.int .i64 k, .string t, .int .i64 st]] w fun e w' => e = .returned (.tuple #[.string ⟨#[]⟩, .int .i64 3]) ∧ Below w.heap.size w w' := by
  by_cases hk : k < 1 ∨ 4 < k
  · go_enter Try.func19, Try.ntmps19
    go_wp2_with fail
    refine (in_no _ _ _ _ hk).mono ?_
    rintro e w1 ⟨rfl, rfl⟩
    go_wp2_with fail
    go_ret2
    exact ⟨rfl, boxed _ _⟩
  · have h1 : 1 ≤ k := by omega
    have h2 : k ≤ 4 := by omega
    have hs : st < 0 ∨ 2 < st := by omega
    clear hk h
    go_enter Try.func19, Try.ntmps19
    go_wp2_with fail
    refine (in_yes _ _ _ _ h1 h2).mono ?_
    rintro e w1 ⟨rfl, rfl⟩
    go_wp2_with fail
    refine (in_no _ _ _ _ hs).mono ?_
    rintro e w1 ⟨rfl, rfl⟩
    go_wp2_with fail
    go_ret2
    exact ⟨rfl, boxed _ _⟩
theorem told_form (k : Int) (t : ByteArray) (st : Int) (w : World) (h1 : 1 ≤ k) (h4 : k ≤ 4) (hs : 0 ≤ st) (hs2 : st ≤ 2) (hf : ¬ (((k = 2 ∨ k = 4) ↔ t.toList ≠ []) ∧ t.size ≤ 60)) (hm : t.size ≤ maxLen) :
    Calls Try.prog 19 #[.agg #[.int .i64 k, .string t, .int .i64 st]] w fun e w' => e = .returned (.tuple #[.string ⟨#[]⟩, .int .i64 4]) ∧ Below w.heap.size w w' := by
  unfold maxLen at hm
  by_cases he : t.toList = []
  · have hz : t.size ≤ 60 := by rw [size_of_nil he]; omega
    have hk : k = 2 ∨ k = 4 := by simp only [he, hz, ne_eq, not_true_eq_false, iff_false, and_true] at hf; omega
    clear hf
    rcases hk with rfl | rfl
    all_goals
      go_enter Try.func19, Try.ntmps19
      go_wp2
      go_ret2
      exact ⟨rfl, boxed _ _⟩
  · have hi : t.toList.isEmpty = false := by simpa using he
    rcases four h1 h4 with rfl | rfl | rfl | rfl
    · clear hf
      go_enter Try.func19, Try.ntmps19
      go_wp2
      go_ret2
      exact ⟨rfl, boxed _ _⟩
    · have hz : 60 < t.size := by simp [he] at hf; omega
      clear hf
      go_enter Try.func19, Try.ntmps19
      go_wp2
      go_ret2
      exact ⟨rfl, boxed _ _⟩
    · clear hf
      go_enter Try.func19, Try.ntmps19
      go_wp2
      go_ret2
      exact ⟨rfl, boxed _ _⟩
    · have hz : 60 < t.size := by simp [he] at hf; omega
      clear hf
      go_enter Try.func19, Try.ntmps19
      go_wp2
      go_ret2
      exact ⟨rfl, boxed _ _⟩
end Go.Proofs.Ytjbnfigpflambaa
