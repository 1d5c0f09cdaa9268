/- The walks of SayChecks and SayReads: each returns true, out of the contracts of Check and Read and of the reference's. -/
import Derived.Test.YtjbnfigpflambaaDoorStmtOf
namespace Go.Proofs.YtjbnfigpflambaaDoor
open Go.ChangeShapes Go.WideShapes Go.ChangeAt Go.RowKit

theorem sayChecks_walk (W : World) (hT : Tabs W) (k : Int) (_ : (Lit.int .i64 k).wf = true) (key : ByteArray) (hk : key.size ≤ maxLen) (val : ByteArray) (hv : val.size ≤ maxLen) :
    Calls Tryd.prog 4 #[.agg #[.int .i64 k, .string key, .string val]] W fun e w' => e = .returned (.bool true) ∧ Below W.heap.size W w' := by
  have HT := Lib.hid hT
  clear hT
  go_enter Tryd.func4, Tryd.ntmps4
  go_wp2_with fail
  refine (check_all ⟨k, key, val⟩ _ (HT.out.alloc _) hk hv).mono ?_
  rintro e w1 ⟨rfl, hb1⟩
  have c0 := box_cell hb1 0
  have c1 := box_cell hb1 1
  have c2 := box_cell hb1 2
  have hb := below_of_alloc (Nat.le_refl _) hb1
  clear hb1
  go_wp2_with fail
  refine (fault_all ⟨k, key, val⟩ _ (HT.out.below hb) hk hv).mono ?_
  rintro e w2 ⟨rfl, hb2⟩
  go_wp2_with fail
  go_ret
  exact ⟨by simp, below_step hb (Nat.le_refl _) hb2⟩
theorem sayReads_walk (W : World) (hT : Tabs W) (t : ByteArray) (ht : t.size ≤ 140737488351232) :
    Calls Tryd.prog 5 #[.string t] W fun e w' => e = .returned (.bool true) ∧ Below W.heap.size W w' := by
  have hm := le_maxLen ht
  have HT := Lib.hid hT
  clear hT
  go_enter Tryd.func5, Tryd.ntmps5
  go_wp2_with fail
  refine (read_any t hm _ HT.out).mono ?_
  rintro e w1 ⟨rfl, hb1⟩
  obtain ⟨s, hs⟩ : ∃ s, readS t = s := ⟨_, rfl⟩
  have h2 : ∀ w : World, Tabs w → Calls Tryd.prog 12 #[.string t] w fun e w' => e = .returned (.tuple #[(readS t).v, .int .i64 (readE t)]) ∧ Below w.heap.size w w' := stmtOf_any t hm
  rw [hs] at h2 ⊢
  have H2 := Lib.hid h2
  clear h2 hs
  obtain ⟨k, key, val⟩ := s
  have hT1 := HT.out.below hb1
  have HT1 := Lib.hid hT1
  clear hT1
  unfold St.v
  go_wp2_with fail
  refine (H2.out _ (HT1.out.alloc _)).mono ?_
  rintro e w2 ⟨rfl, hb2⟩
  have c0 := box_cell hb2 0
  have c1 := box_cell hb2 1
  have c2 := box_cell hb2 2
  have hb : Below W.heap.size W w2 := below_step hb1 (Nat.le_refl _) (below_of_alloc (Nat.le_refl _) hb2)
  have hn := World.new_ne w2 _ c0
  have hn' := hn.symm
  have hlt : w1.heap.size < w2.heap.size := World.block_lt_of_cell? w2 _ c0
  clear hb1 hb2 H2
  unfold St.v
  go_wp2_with fail
  go_ret
  exact ⟨by simp, hb.alloc hb.size _⟩
end Go.Proofs.YtjbnfigpflambaaDoor
