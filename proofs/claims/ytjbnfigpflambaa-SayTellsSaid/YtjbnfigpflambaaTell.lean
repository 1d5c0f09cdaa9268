/- say.Tell and the reference's ToldOf: what each returns. -/
import Derived.Test.YtjbnfigpflambaaBase
namespace Go.Proofs.Ytjbnfigpflambaa
open Go.ChangeShapes Go.WideShapes Go.ChangeAt Go.RowKit

def stB (st : Int) : ByteArray := if st = 0 then ⟨#[73]⟩ else if st = 1 then ⟨#[84]⟩ else ⟨#[70]⟩
def bodyB (k : Int) (t : ByteArray) : ByteArray := if k = 1 then ⟨#[111, 107]⟩ else if k = 2 then ⟨#[61]⟩ ++ t else if k = 3 then ⟨#[110, 111, 110, 101]⟩ else ⟨#[33]⟩ ++ t

theorem four {k : Int} (h1 : 1 ≤ k) (h4 : k ≤ 4) : k = 1 ∨ k = 2 ∨ k = 3 ∨ k = 4 := by omega
theorem three {k : Int} (h1 : 0 ≤ k) (h4 : k ≤ 2) : k = 0 ∨ k = 1 ∨ k = 2 := by omega

theorem cut0 : (⟨#[73, 84, 70]⟩ : ByteArray).extract 0 1 = ⟨#[73]⟩ := by decide +kernel
theorem cut1 : (⟨#[73, 84, 70]⟩ : ByteArray).extract 1 2 = ⟨#[84]⟩ := by decide +kernel
theorem cut2 : (⟨#[73, 84, 70]⟩ : ByteArray).extract 2 3 = ⟨#[70]⟩ := by decide +kernel
set_option maxHeartbeats 2000000 in
theorem tell_ok (k : Int) (t : ByteArray) (st : Int) (w : World) (h1 : 1 ≤ k) (h4 : k ≤ 4) (hs : 0 ≤ st) (hs2 : st ≤ 2) (hf : (k = 2 ∨ k = 4) ↔ t.toList ≠ []) (hz : t.size ≤ 60) :
    Calls Try.prog 18 #[.agg #[.int .i64 k, .string t, .int .i64 st]] w fun e w' => e = .returned (.tuple #[.string (stB st ++ bodyB k t), .int .i64 0]) ∧ Below w.heap.size w w' := by
  by_cases he : t.toList = []
  · have hk : k = 1 ∨ k = 3 := by simp only [he, ne_eq, not_true_eq_false, iff_false] at hf; omega
    clear hf
    rcases hk with rfl | rfl <;> rcases three hs hs2 with rfl | rfl | rfl
    all_goals
      go_enter Try.func18, Try.ntmps18
      go_wp2
      go_ret2
      exact ⟨by simp [stB, bodyB, cut0, cut1, cut2], boxed2 _ _ _⟩
  · have hk : k = 2 ∨ k = 4 := by simpa [he] using hf
    clear hf
    have hi : t.toList.isEmpty = false := by simpa using he
    rcases hk with rfl | rfl <;> rcases three hs hs2 with rfl | rfl | rfl
    all_goals
      go_enter Try.func18, Try.ntmps18
      go_wp2
      go_ret2
      exact ⟨by simp [stB, bodyB, cut0, cut1, cut2], boxed2 _ _ _⟩
theorem tell_kind (k : Int) (t : ByteArray) (st : Int) (w : World) (h : k < 1 ∨ 4 < k ∨ st < 0 ∨ 2 < st) :
    Calls Try.prog 18 #[.agg #[.int .i64 k, .string t, .int .i64 st]] w fun e w' => e = .returned (.tuple #[.string ⟨#[]⟩, .int .i64 3]) ∧ Below w.heap.size w w' := by
  by_cases c1 : k < 1
  · go_enter Try.func18, Try.ntmps18
    go_wp2
    go_ret2
    exact ⟨rfl, boxed _ _⟩
  · by_cases c2 : 4 < k
    · go_enter Try.func18, Try.ntmps18
      go_wp2
      go_ret2
      exact ⟨rfl, boxed _ _⟩
    · by_cases c3 : st < 0
      · go_enter Try.func18, Try.ntmps18
        go_wp2
        go_ret2
        exact ⟨rfl, boxed _ _⟩
      · have c4 : 2 < st := by omega
        clear h
        go_enter Try.func18, Try.ntmps18
        go_wp2
        go_ret2
        exact ⟨rfl, boxed _ _⟩
theorem tell_form (k : Int) (t : ByteArray) (st : Int) (w : World) (h1 : 1 ≤ k) (h4 : k ≤ 4) (hs : 0 ≤ st) (hs2 : st ≤ 2) (hf : ¬ (((k = 2 ∨ k = 4) ↔ t.toList ≠ []) ∧ t.size ≤ 60)) (hm : t.size ≤ maxLen) :
    Calls Try.prog 18 #[.agg #[.int .i64 k, .string t, .int .i64 st]] w fun e w' => e = .returned (.tuple #[.string ⟨#[]⟩, .int .i64 4]) ∧ Below w.heap.size w w' := by
  unfold maxLen at hm
  by_cases he : t.toList = []
  · have hz : t.size ≤ 60 := by rw [size_of_nil he]; omega
    have hk : k = 2 ∨ k = 4 := by simp only [he, hz, ne_eq, not_true_eq_false, iff_false, and_true] at hf; omega
    clear hf
    rcases hk with rfl | rfl
    all_goals
      go_enter Try.func18, Try.ntmps18
      go_wp2
      go_ret2
      exact ⟨rfl, boxed _ _⟩
  · have hi : t.toList.isEmpty = false := by simpa using he
    rcases four h1 h4 with rfl | rfl | rfl | rfl
    · clear hf
      go_enter Try.func18, Try.ntmps18
      go_wp2
      go_ret2
      exact ⟨rfl, boxed _ _⟩
    · have hz : 60 < t.size := by simp [he] at hf; omega
      clear hf
      go_enter Try.func18, Try.ntmps18
      go_wp2
      go_ret2
      exact ⟨rfl, boxed _ _⟩
    · clear hf
      go_enter Try.func18, Try.ntmps18
      go_wp2
      go_ret2
      exact ⟨rfl, boxed _ _⟩
    · have hz : 60 < t.size := by simp [he] at hf; omega
      clear hf
      go_enter Try.func18, Try.ntmps18
      go_wp2
      go_ret2
      exact ⟨rfl, boxed _ _⟩
end Go.Proofs.Ytjbnfigpflambaa
