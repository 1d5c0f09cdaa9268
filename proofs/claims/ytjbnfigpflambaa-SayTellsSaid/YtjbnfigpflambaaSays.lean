/- The walks of four laws of the say and pool chapters: each returns true, out of the callees' contracts. -/
import Derived.Test.YtjbnfigpflambaaPack
import Derived.Test.YtjbnfigpflambaaUnpack
import Derived.Test.YtjbnfigpflambaaTell
import Derived.Test.YtjbnfigpflambaaTold
import Derived.Test.YtjbnfigpflambaaSetup
namespace Go.Proofs.Ytjbnfigpflambaa
open Go.ChangeShapes Go.WideShapes Go.ChangeAt Go.RowKit

theorem sayPacks_walk (W : World) (k : UInt8) (s : ByteArray) (hs0 : s.size ≤ 140737488351232) :
    Calls Try.prog 4 #[.int .u8 (k.toNat : Int), .string s] W fun e w' => e = .returned (.bool true) ∧ Below W.heap.size W w' := by
  have hs := le_maxLen hs0
  go_enter Try.func4, Try.ntmps4
  go_wp2_with fail
  refine (pack_any k s _ hs).mono ?_
  rintro e w1 ⟨rfl, hb1⟩
  go_wp2_with fail
  refine (packed_any k s _ hs).mono ?_
  rintro e w2 ⟨rfl, hb2⟩
  go_wp2_with fail
  go_ret
  exact ⟨by simp, hb1.trans (hb2.mono hb1.size)⟩
theorem poolSetups_walk (W : World) (m : Int) (_ : (Lit.int .i64 m).wf = true) (s : Int) (_ : (Lit.int .i64 s).wf = true) :
    Calls Try.prog 6 #[.agg #[.int .i64 m, .int .i64 s]] W fun e w' => e = .returned (.bool true) ∧ Below W.heap.size W w' := by
  go_enter Try.func6, Try.ntmps6
  go_wp2_with fail
  refine (setup_any m s _).mono ?_
  rintro e w1 ⟨rfl, hb1⟩
  have hc0 := box_cell hb1 0
  have hc1 := box_cell hb1 1
  have hb := below_of_alloc (Nat.le_refl _) hb1
  clear hb1
  go_wp2_with fail
  refine (setupRef_any m s _).mono ?_
  rintro e w2 ⟨rfl, hb2⟩
  go_wp2_with fail
  go_ret
  exact ⟨by simp, below_step hb (Nat.le_refl _) hb2⟩
theorem sayTells_walk (W : World) (k : Int) (_ : (Lit.int .i64 k).wf = true) (t : ByteArray) (ht : t.size ≤ maxLen) (st : Int) (_ : (Lit.int .i64 st).wf = true) :
    Calls Try.prog 7 #[.agg #[.int .i64 k, .string t, .int .i64 st]] W fun e w' => e = .returned (.bool true) ∧ Below W.heap.size W w' := by
  by_cases c1 : k < 1 ∨ 4 < k ∨ st < 0 ∨ 2 < st
  · go_enter Try.func7, Try.ntmps7
    go_wp2_with fail
    refine (tell_kind k t st _ c1).mono ?_
    rintro e w1 ⟨rfl, hb1⟩
    have hc0 := box_cell hb1 0
    have hc1 := box_cell hb1 1
    have hc2 := box_cell hb1 2
    have hb := below_of_alloc (Nat.le_refl _) hb1
    clear hb1
    go_wp2_with fail
    refine (told_kind k t st _ c1).mono ?_
    rintro e w2 ⟨rfl, hb2⟩
    go_wp2_with fail
    go_ret
    exact ⟨by simp, below_step hb (Nat.le_refl _) hb2⟩
  have d1 : 1 ≤ k := by omega
  have d2 : k ≤ 4 := by omega
  have d3 : 0 ≤ st := by omega
  have d4 : st ≤ 2 := by omega
  clear c1
  by_cases c2 : ((k = 2 ∨ k = 4) ↔ t.toList ≠ []) ∧ t.size ≤ 60
  · have ho := tell_ok k t st
    have hr := told_ok k t st
    obtain ⟨c3, c4⟩ := c2
    have C := Lib.hid c3
    clear c3
    go_enter Try.func7, Try.ntmps7
    go_wp2_with fail
    refine (tell_ok k t st _ d1 d2 d3 d4 C.out c4).mono ?_
    rintro e w1 ⟨rfl, hb1⟩
    have hc0 := box_cell hb1 0
    have hc1 := box_cell hb1 1
    have hc2 := box_cell hb1 2
    have hb := below_of_alloc (Nat.le_refl _) hb1
    clear hb1
    go_wp2_with fail
    refine (told_ok k t st _ d1 d2 d3 d4 C.out c4).mono ?_
    rintro e w2 ⟨rfl, hb2⟩
    go_wp2_with fail
    go_ret
    exact ⟨by simp, below_step hb (Nat.le_refl _) hb2⟩
  · have C := Lib.hid c2
    clear c2
    go_enter Try.func7, Try.ntmps7
    go_wp2_with fail
    refine (tell_form k t st _ d1 d2 d3 d4 C.out ht).mono ?_
    rintro e w1 ⟨rfl, hb1⟩
    have hc0 := box_cell hb1 0
    have hc1 := box_cell hb1 1
    have hc2 := box_cell hb1 2
    have hb := below_of_alloc (Nat.le_refl _) hb1
    clear hb1
    go_wp2_with fail
    refine (told_form k t st _ d1 d2 d3 d4 C.out ht).mono ?_
    rintro e w2 ⟨rfl, hb2⟩
    go_wp2_with fail
    go_ret
    exact ⟨by simp, below_step hb (Nat.le_refl _) hb2⟩
theorem sayUnpacks_walk (W : World) (s : ByteArray) (hs : s.size ≤ 140737488351232) :
    Calls Try.prog 5 #[.string s] W fun e w' => e = .returned (.bool true) ∧ Below W.heap.size W w' := by
  have hm := le_maxLen hs
  by_cases hw : whole s
  · obtain ⟨h1, hk⟩ := hw
    obtain ⟨b0, e0⟩ : ∃ b, s[0]'(by omega) = b := ⟨_, rfl⟩
    obtain ⟨b1, e1⟩ : ∃ b, s[1]'h1 = b := ⟨_, rfl⟩
    rw [e1] at hk
    have E0 := Lib.hid e0
    have E1 := Lib.hid e1
    clear e0 e1
    go_enter Try.func5, Try.ntmps5
    go_wp2_with fail
    refine (unpack_ok s b0 b1 _ (by omega) h1 E0.out E1.out hk hm).mono ?_
    rintro e w1 ⟨rfl, n1, rfl⟩
    go_wp2_with fail
    refine (unpacked_ok s b0 b1 _ (by omega) h1 E0.out E1.out hk hm).mono ?_
    rintro e w1 ⟨rfl, n2, rfl⟩
    go_wp2_with fail
    go_ret
    exact ⟨by simp, below_drewN (Below.refl _ _) _⟩
  · go_enter Try.func5, Try.ntmps5
    go_wp2_with fail
    refine (unpack_no s _ hw hm).mono ?_
    rintro e w1 ⟨rfl, n1, rfl⟩
    go_wp2_with fail
    refine (unpacked_no s _ hw hm).mono ?_
    rintro e w1 ⟨rfl, n2, rfl⟩
    go_wp2_with fail
    go_ret
    exact ⟨by simp, below_drewN (Below.refl _ _) _⟩
end Go.Proofs.Ytjbnfigpflambaa
