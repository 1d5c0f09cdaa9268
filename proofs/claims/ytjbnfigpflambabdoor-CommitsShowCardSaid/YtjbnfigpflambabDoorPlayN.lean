/- played, for numbers. -/
import Derived.Test.YtjbnfigpflambabDoorPlay
namespace Go.Proofs.YtjbnfigpflambabDoor
open Go.ChangeShapes Go.WideShapes Go.ChangeAt Go.RowKit

def zcells : Nat → List Value
  | 0 => []
  | n + 1 => .int .i64 0 :: .slice none 0 0 :: .slice none 0 0 :: .slice none 0 0 :: .slice none 0 0 :: zcells n
theorem zcells_ok (w : World) (B : Nat) : ∀ n, SesC w B (zcells n) (List.replicate n Se.new)
  | 0 => rfl
  | n + 1 => ⟨_, _, _, _, zcells n, rfl, OPL.nil_ _ _, OPL.nil_ _ _, OPL.nil_ _ _, OPL.nil_ _ _, by unfold Se.new; decide, zcells_ok w B n⟩
theorem played1 (w : World) (v : Value) (l : List Rw) (hl : RL w w.heap.size v l) (most : Nat) (hm : most ≤ 1000) (hT : Tabs w) :
    Calls Tryd.prog 26 #[v, .int .i64 1, .int .i64 (most : Int)] w fun e w' => ∃ r s o cs, e = .returned (.tuple #[.agg #[r, s], o, .bool true]) ∧ OPL w' w.heap.size r (playL 1 (l.take most) (newW 1)).rows ∧ OSL w' w.heap.size s (playL 1 (l.take most) (newW 1)).ses cs ∧ Below w.heap.size w w' :=
  played_any w v l hl 1 most (by decide) (by decide) hm (zcells 1).toArray (fun w B => zcells_ok w B 1) rfl hT (fun _ => by kernel_rfl)
theorem played2 (w : World) (v : Value) (l : List Rw) (hl : RL w w.heap.size v l) (most : Nat) (hm : most ≤ 1000) (hT : Tabs w) :
    Calls Tryd.prog 26 #[v, .int .i64 2, .int .i64 (most : Int)] w fun e w' => ∃ r s o cs, e = .returned (.tuple #[.agg #[r, s], o, .bool true]) ∧ OPL w' w.heap.size r (playL 2 (l.take most) (newW 2)).rows ∧ OSL w' w.heap.size s (playL 2 (l.take most) (newW 2)).ses cs ∧ Below w.heap.size w w' :=
  played_any w v l hl 2 most (by decide) (by decide) hm (zcells 2).toArray (fun w B => zcells_ok w B 2) rfl hT (fun _ => by kernel_rfl)
theorem played4 (w : World) (v : Value) (l : List Rw) (hl : RL w w.heap.size v l) (most : Nat) (hm : most ≤ 1000) (hT : Tabs w) :
    Calls Tryd.prog 26 #[v, .int .i64 4, .int .i64 (most : Int)] w fun e w' => ∃ r s o cs, e = .returned (.tuple #[.agg #[r, s], o, .bool true]) ∧ OPL w' w.heap.size r (playL 4 (l.take most) (newW 4)).rows ∧ OSL w' w.heap.size s (playL 4 (l.take most) (newW 4)).ses cs ∧ Below w.heap.size w w' :=
  played_any w v l hl 4 most (by decide) (by decide) hm (zcells 4).toArray (fun w B => zcells_ok w B 4) rfl hT (fun _ => by kernel_rfl)
end Go.Proofs.YtjbnfigpflambabDoor
