/- The reference's upTo and wordOf: what each returns. -/
import Derived.Test.YtjbnfigpflambabDoorRead
import Derived.Test.YtjbnfigpflambabDoorIn
namespace Go.Proofs.YtjbnfigpflambabDoor
open Go.ChangeShapes Go.WideShapes Go.ChangeAt Go.RowKit

theorem indexB_one (s : ByteArray) : Lib.indexB s ⟨#[32]⟩ = Lib.indexByte s.data.toList 32 := Lib.index_one _ _
theorem blank_at {s : ByteArray} {o : Nat} (h : Lib.indexB s ⟨#[32]⟩ = o) : ∃ ho : o < s.size, s[o]'ho = 32 ∧ ∀ j, (hj : j < s.size) → j < o → s[j]'hj ≠ 32 := by
  rw [indexB_one] at h
  obtain ⟨h1, h2⟩ := Lib.indexByte_some h
  have ho : o < s.size := by
    have := (List.getElem?_eq_some_iff.1 h1).1
    simpa using this
  refine ⟨ho, ?_, fun j hj hlt he => h2 j hlt ?_⟩
  · rw [Lib.data_getElem? s o ho] at h1
    exact Option.some.inj h1
  · rw [Lib.data_getElem? s j hj, he]
theorem no_blank {s : ByteArray} (h : Lib.indexB s ⟨#[32]⟩ = -1) : ∀ j, (hj : j < s.size) → s[j]'hj ≠ 32 := by
  rw [indexB_one] at h
  intro j hj he
  refine Lib.indexByte_none h j ?_
  rw [Lib.data_getElem? s j hj, he]
theorem u8_ne {c : UInt8} (h : c ≠ 32) : ((c.toNat : Int) == 32) = false := by
  simp only [beq_eq_false_iff_ne]
  intro he
  apply h
  apply UInt8.toNat.inj
  show c.toNat = 32
  omega
theorem upTo_no (s : ByteArray) (w : World) (hm : s.size ≤ maxLen) (h : Lib.indexB s ⟨#[32]⟩ = -1) :
    Calls Tryd.prog 79 #[.string s] w fun e w' => e = .returned (.tuple #[.string s, .string ⟨#[]⟩, .bool false]) ∧ w = w' := by
  unfold maxLen at hm
  have HN := Lib.hid (no_blank h)
  clear h
  go_enter Tryd.func79, Tryd.ntmps79
  go_wp2_with fail
  go_loop [5] (fun i => ∃ k : Nat, k ≤ s.size ∧ i = .int .i64 k) (fun i => s.size - (intOf i).toNat)
  case atStart => exact ⟨0, Nat.zero_le _, rfl⟩
  case round =>
    obtain ⟨k, hk, rfl⟩ := hrel
    by_cases hlt : k < s.size
    · obtain ⟨c, ec⟩ : ∃ c, s[k]'hlt = c := ⟨_, rfl⟩
      have hb : ((c.toNat : Int) == 32) = false := u8_ne (by rw [← ec]; exact HN.out k hlt)
      go_wp2_with fail
      go_round
      case rel => exact ⟨k + 1, by omega, by go_num⟩
      case measure => simp [intOf]; omega
    · go_wp2_with fail
      go_ret3
      exact ⟨rfl, rfl⟩
theorem upTo_yes (s : ByteArray) (o : Nat) (w : World) (hm : s.size ≤ maxLen) (h : Lib.indexB s ⟨#[32]⟩ = o) :
    Calls Tryd.prog 79 #[.string s] w fun e w' => e = .returned (.tuple #[.string (s.extract 0 o), .string (s.extract (o + 1) s.size), .bool true]) ∧ ∃ n, w' = w.drewN n := by
  unfold maxLen at hm
  obtain ⟨ho, h1, h2⟩ := blank_at h
  have H1 := Lib.hid h1
  have H2 := Lib.hid h2
  clear h h1 h2
  go_enter Tryd.func79, Tryd.ntmps79
  go_wp2_with fail
  go_loop [5] (fun i => ∃ k : Nat, k ≤ o ∧ i = .int .i64 k) (fun i => s.size - (intOf i).toNat)
  case atStart => exact ⟨0, Nat.zero_le _, rfl⟩
  case round =>
    obtain ⟨k, hk, rfl⟩ := hrel
    have hlt : k < s.size := by omega
    obtain ⟨c, ec⟩ : ∃ c, s[k]'hlt = c := ⟨_, rfl⟩
    by_cases hko : k < o
    · have hb : ((c.toNat : Int) == 32) = false := u8_ne (by rw [← ec]; exact H2.out k hlt hko)
      go_wp2_with fail
      go_round
      case rel => exact ⟨k + 1, by omega, by go_num⟩
      case measure => simp [intOf]; omega
    · obtain rfl : k = o := by omega
      have hb : ((c.toNat : Int) == 32) = true := by rw [← ec, H1.out]; rfl
      have g1 : IntKind.i64.wrap ((k : Int) + 1) = (k : Int) + 1 := IntWalk.i64_in _ (by omega)
      have g2 : (0 : Int) ≤ (k : Int) + 1 := by omega
      have g3 : ((k : Int) + 1).toNat = k + 1 := by omega
      have g4 : (k : Int) + 1 ≤ (s.size : Int) := by omega
      have g5 : (0 : Int) ≤ (k : Int) := by omega
      have g6 : (k : Int) ≤ (s.size : Int) := by omega
      have g7 : ((k : Int)).toNat = k := by omega
      go_wp2_with fail
      go_quiet (fail)
      go_wp2_with fail
      go_ret3
      exact ⟨rfl, _, rfl⟩

set_option maxHeartbeats 4000000 in
theorem word_any (k : Int) (w : World) (h1 : 1 ≤ k) (h2 : k ≤ 11) :
    Calls Tryd.prog 31 #[.int .i64 k] w fun e w' => e = .returned (.string (wordsL.getD (k.toNat - 1) ByteArray.empty)) ∧ Below w.heap.size w w' := by
  have hk : k = 1 ∨ k = 2 ∨ k = 3 ∨ k = 4 ∨ k = 5 ∨ k = 6 ∨ k = 7 ∨ k = 8 ∨ k = 9 ∨ k = 10 ∨ k = 11 := by omega
  rcases hk with rfl | rfl | rfl | rfl | rfl | rfl | rfl | rfl | rfl | rfl | rfl
  all_goals
    go_enter Tryd.func31, Tryd.ntmps31
    go_wp2_with fail
    go_ret
    exact ⟨rfl, boxed _ _⟩
end Go.Proofs.YtjbnfigpflambabDoor
