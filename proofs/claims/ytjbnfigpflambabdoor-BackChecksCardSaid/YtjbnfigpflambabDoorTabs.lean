/- What the package-level variables hold: the words of statements, and the library's MaxLen. -/
import Derived.Test.YtjbnfigpflambabDoorBase
import Derived.Test.YtjbnfigpflambabDoorSpec
import Derived.Lib.LaidTab
namespace Go.Proofs.YtjbnfigpflambabDoor
open Go.ChangeShapes Go.WideShapes Go.ChangeAt Go.RowKit

theorem gWords : Tryd.prog.globalNamed "tillerman/say.words" = some 0 := by kernel_rfl
theorem gMaxLen : Tryd.prog.globalNamed "internal/bytealg.MaxLen" = some 1 := by kernel_rfl
/-- the words' table, and some number for MaxLen -/
structure Tabs (w : World) : Prop where
  words : ∀ i, i < 11 → w.cell? ⟨0, 1 + i, none⟩ = some (.string (wordsL.getD i ByteArray.empty))
  maxLen : ∃ m, w.cell? ⟨1, 0, none⟩ = some (.int .i64 m)
theorem Tabs.below {w w' : World} (h : Tabs w) (hb : Below w.heap.size w w') : Tabs w' :=
  ⟨fun i hi => keep_cell hb (h.words i hi), by obtain ⟨m, hm⟩ := h.maxLen; exact ⟨m, keep_cell hb hm⟩⟩
theorem Tabs.alloc {w : World} (h : Tabs w) (o : Obj) : Tabs (w.alloc o) := h.below (boxed w o)
end Go.Proofs.YtjbnfigpflambabDoor
