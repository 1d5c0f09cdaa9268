/- say.Pack and say.Unpack, and what the reference says: what each returns. -/
import Derived.Test.YtjbnfigpflambaaBase
namespace Go.Proofs.Ytjbnfigpflambaa
open Go.ChangeShapes Go.WideShapes Go.ChangeAt Go.RowKit

/-- a message: the kind, the length, the text -/
def msg (k : UInt8) (s : ByteArray) : ByteArray := ⟨#[k, UInt8.ofNat s.size]⟩ ++ s
def packS (k : UInt8) (s : ByteArray) : ByteArray := if 120 < s.size then ⟨#[]⟩ else msg k s
def packE (s : ByteArray) : Int := if 120 < s.size then 1 else 0

theorem two_bytes (k : UInt8) (s : ByteArray) (w : World) (h : s.size ≤ 120) :
    (convert 50 9 (.slice (some ⟨w.heap.size, 0, none⟩) 2 2)).run Try.prog (w.alloc (.cells #[.int .u8 (k.toNat : Int), .int .u8 (s.size : Int)] 5)) = .ok (.string ⟨#[k, UInt8.ofNat s.size]⟩) (w.alloc (.cells #[.int .u8 (k.toNat : Int), .int .u8 (s.size : Int)] 5)) := by
  have hm : s.size % 256 = s.size := by omega
  exact run_convert_bytes_back (P := Try.prog) _ 50 9 5 ⟨w.heap.size, 0, none⟩ 2 [k, UInt8.ofNat s.size] Try.underlying50 Try.underlying5 Try.underlying9 (fun j hj => by
    rcases j with _ | _ | j
    · exact (cell_of_row _ _ 0 _ _ (0, 0) (heap_alloc_new w _))
    · refine (cell_of_row _ _ 1 _ _ (0, 0) (heap_alloc_new w _)).trans ?_
      simp [hm]
    · simp at hj; omega)

theorem pack_ok (k : UInt8) (s : ByteArray) (w : World) (h : s.size ≤ 120) :
    Calls Try.prog 12 #[.int .u8 (k.toNat : Int), .string s] w fun e w' => e = .returned (.tuple #[.string (msg k s), .int .i64 0]) ∧ Below w.heap.size w w' := by
  have H := two_bytes k s w h
  go_enter Try.func12, Try.ntmps12
  go_wp2
  go_ret2
  exact ⟨rfl, (Below.refl _ _).alloc (Nat.le_refl _) _⟩
theorem pack_big (k : UInt8) (s : ByteArray) (w : World) (h : 120 < s.size) (hm : s.size ≤ maxLen) :
    Calls Try.prog 12 #[.int .u8 (k.toNat : Int), .string s] w fun e w' => e = .returned (.tuple #[.string ⟨#[]⟩, .int .i64 1]) ∧ Below w.heap.size w w' := by
  unfold maxLen at hm
  go_enter Try.func12, Try.ntmps12
  go_wp2
  go_ret2
  exact ⟨rfl, Below.refl _ _⟩
theorem pack_any (k : UInt8) (s : ByteArray) (w : World) (hm : s.size ≤ maxLen) :
    Calls Try.prog 12 #[.int .u8 (k.toNat : Int), .string s] w fun e w' => e = .returned (.tuple #[.string (packS k s), .int .i64 (packE s)]) ∧ Below w.heap.size w w' := by
  unfold packS packE
  by_cases h : 120 < s.size
  · rw [if_pos h, if_pos h]; exact pack_big k s w h hm
  · rw [if_neg h, if_neg h]; exact pack_ok k s w (by omega)
theorem packed_ok (k : UInt8) (s : ByteArray) (w : World) (h : s.size ≤ 120) :
    Calls Try.prog 13 #[.int .u8 (k.toNat : Int), .string s] w fun e w' => e = .returned (.tuple #[.string (msg k s), .int .i64 0]) ∧ Below w.heap.size w w' := by
  have H := two_bytes k s w h
  go_enter Try.func13, Try.ntmps13
  go_wp2
  go_ret2
  exact ⟨rfl, (Below.refl _ _).alloc (Nat.le_refl _) _⟩
theorem packed_big (k : UInt8) (s : ByteArray) (w : World) (h : 120 < s.size) (hm : s.size ≤ maxLen) :
    Calls Try.prog 13 #[.int .u8 (k.toNat : Int), .string s] w fun e w' => e = .returned (.tuple #[.string ⟨#[]⟩, .int .i64 1]) ∧ Below w.heap.size w w' := by
  unfold maxLen at hm
  go_enter Try.func13, Try.ntmps13
  go_wp2
  go_ret2
  exact ⟨rfl, Below.refl _ _⟩
theorem packed_any (k : UInt8) (s : ByteArray) (w : World) (hm : s.size ≤ maxLen) :
    Calls Try.prog 13 #[.int .u8 (k.toNat : Int), .string s] w fun e w' => e = .returned (.tuple #[.string (packS k s), .int .i64 (packE s)]) ∧ Below w.heap.size w w' := by
  unfold packS packE
  by_cases h : 120 < s.size
  · rw [if_pos h, if_pos h]; exact packed_big k s w h hm
  · rw [if_neg h, if_neg h]; exact packed_ok k s w (by omega)
end Go.Proofs.Ytjbnfigpflambaa
