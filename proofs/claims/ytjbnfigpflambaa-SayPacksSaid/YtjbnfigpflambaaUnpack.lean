/- say.Unpack and the reference's UnpackedOf: what each returns. -/
import Derived.Test.YtjbnfigpflambaaBase
import Derived.Deep.QuietTactic
import Derived.BigQuiet
namespace Go.Proofs.Ytjbnfigpflambaa
open Go.ChangeShapes Go.WideShapes Go.ChangeAt Go.RowKit

theorem unpack_ok (s : ByteArray) (b0 b1 : UInt8) (w : World) (h0 : 0 < s.size) (h1 : 1 < s.size) (e0 : s[0]'h0 = b0) (e1 : s[1]'h1 = b1) (hk : 2 + b1.toNat ≤ s.size) (hm : s.size ≤ maxLen) :
    Calls Try.prog 14 #[.string s] w fun e w' => e = .returned (.tuple #[.int .u8 (b0.toNat : Int), .string (s.extract 2 (2 + b1.toNat)), .int .i64 (2 + (b1.toNat : Int))]) ∧ ∃ n, w' = w.drewN n := by
  unfold maxLen at hm
  have hb := b1.toNat_lt
  have g3 : 2 + (b1.toNat : Int) ≤ (s.size : Int) := by omega
  go_enter Try.func14, Try.ntmps14
  go_wp2
  have g1 : (0 : Int) ≤ 2 + (b1.toNat : Int) := by omega
  have g2 : (2 : Int) ≤ 2 + (b1.toNat : Int) := by omega
  have g4 : (2 + (b1.toNat : Int)).toNat = 2 + b1.toNat := by omega
  go_quiet (fail)
  go_wp2
  go_ret3
  exact ⟨rfl, _, rfl⟩
/-- no whole message: too few bytes -/
def whole (s : ByteArray) : Prop := ∃ h : 1 < s.size, 2 + (s[1]'h).toNat ≤ s.size
theorem unpack_no (s : ByteArray) (w : World) (hn : ¬ whole s) (hm : s.size ≤ maxLen) :
    Calls Try.prog 14 #[.string s] w fun e w' => e = .returned (.tuple #[.int .u8 0, .string ⟨#[]⟩, .int .i64 0]) ∧ ∃ n, w' = w.drewN n := by
  unfold maxLen at hm
  by_cases h1 : 1 < s.size
  · obtain ⟨b1, e1⟩ : ∃ b, s[1]'h1 = b := ⟨_, rfl⟩
    have hk : s.size < 2 + b1.toNat := by
      rcases Nat.lt_or_ge s.size (2 + b1.toNat) with h | h
      · exact h
      · exact absurd ⟨h1, by rw [e1]; exact h⟩ hn
    clear hn
    have hb := b1.toNat_lt
    have g3 : (s.size : Int) < 2 + (b1.toNat : Int) := by omega
    go_enter Try.func14, Try.ntmps14
    go_wp2
    go_ret3
    exact ⟨rfl, 0, rfl⟩
  · have h2 : s.size < 2 := by omega
    clear hn h1
    go_enter Try.func14, Try.ntmps14
    go_wp2
    go_ret3
    exact ⟨rfl, 0, rfl⟩
theorem unpacked_ok (s : ByteArray) (b0 b1 : UInt8) (w : World) (h0 : 0 < s.size) (h1 : 1 < s.size) (e0 : s[0]'h0 = b0) (e1 : s[1]'h1 = b1) (hk : 2 + b1.toNat ≤ s.size) (hm : s.size ≤ maxLen) :
    Calls Try.prog 15 #[.string s] w fun e w' => e = .returned (.tuple #[.int .u8 (b0.toNat : Int), .string (s.extract 2 (2 + b1.toNat)), .int .i64 (2 + (b1.toNat : Int))]) ∧ ∃ n, w' = w.drewN n := by
  unfold maxLen at hm
  have hb := b1.toNat_lt
  have g3 : 2 + (b1.toNat : Int) ≤ (s.size : Int) := by omega
  have g5 : (b1.toNat : Int) ≤ (s.size : Int) - 2 := by omega
  go_enter Try.func15, Try.ntmps15
  go_wp2
  have g1 : (0 : Int) ≤ 2 + (b1.toNat : Int) := by omega
  have g2 : (2 : Int) ≤ 2 + (b1.toNat : Int) := by omega
  have g6 : IntKind.i64.wrap (2 + (b1.toNat : Int)) = 2 + (b1.toNat : Int) := IntWalk.i64_in _ (by omega)
  have g4 : (2 + (b1.toNat : Int)).toNat = 2 + b1.toNat := by omega
  go_quiet (fail)
  go_wp2
  go_ret3
  exact ⟨rfl, _, rfl⟩
theorem unpacked_no (s : ByteArray) (w : World) (hn : ¬ whole s) (hm : s.size ≤ maxLen) :
    Calls Try.prog 15 #[.string s] w fun e w' => e = .returned (.tuple #[.int .u8 0, .string ⟨#[]⟩, .int .i64 0]) ∧ ∃ n, w' = w.drewN n := by
  unfold maxLen at hm
  by_cases h1 : 1 < s.size
  · obtain ⟨b1, e1⟩ : ∃ b, s[1]'h1 = b := ⟨_, rfl⟩
    have hk : s.size < 2 + b1.toNat := by
      rcases Nat.lt_or_ge s.size (2 + b1.toNat) with h | h
      · exact h
      · exact absurd ⟨h1, by rw [e1]; exact h⟩ hn
    clear hn
    have hb := b1.toNat_lt
    have g3 : (s.size : Int) - 2 < (b1.toNat : Int) := by omega
    go_enter Try.func15, Try.ntmps15
    go_wp2
    go_ret3
    exact ⟨rfl, 0, rfl⟩
  · have h2 : s.size < 2 := by omega
    clear hn h1
    go_enter Try.func15, Try.ntmps15
    go_wp2
    go_ret3
    exact ⟨rfl, 0, rfl⟩
end Go.Proofs.Ytjbnfigpflambaa
