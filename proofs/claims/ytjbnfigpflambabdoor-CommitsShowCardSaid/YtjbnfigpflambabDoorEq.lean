/- slices.Equal on pairs that are the same. -/
import Derived.Test.YtjbnfigpflambabDoorCopy
import Derived.Test.YtjbnfigpflambabDoorSeg
namespace Go.Proofs.YtjbnfigpflambabDoor
open Go.ChangeShapes Go.WideShapes Go.ChangeAt Go.RowKit

set_option maxHeartbeats 4000000 in
set_option maxRecDepth 100000 in
theorem equal_same (w : World) (u v : Value) (l : List Pr) (hu : PL w w.heap.size u l) (hv : PL w w.heap.size v l) :
    Calls Tryd.prog 29 #[u, v] w fun e w' => e = .returned (.bool true) ∧ Below w.heap.size w w' := by
  obtain ⟨A1, c1, rfl, _, r1, hf⟩ := hu
  obtain ⟨A2, c2, rfl, _, r2, _⟩ := hv
  have hl : l.length ≤ 4398046510976 := hf.1
  have H1 := Lib.hid r1
  have H2 := Lib.hid r2
  obtain ⟨n, hN⟩ : ∃ n, l.length = n := ⟨_, rfl⟩
  rw [hN] at hl ⊢
  have HN := Lib.hid hN
  clear r1 r2 hf hN
  go_enter Tryd.func29, Tryd.ntmps29
  go_wp2_with fail
  go_loopw [13] (fun i wx => ∃ k : Nat, k ≤ n ∧ i = .int .i64 k ∧ Below w.heap.size w wx) (fun i _ => n - (intOf i).toNat)
  case atStart => exact ⟨0, Nat.zero_le _, rfl, Below.refl _ _⟩
  case round =>
    obtain ⟨k, hk, rfl, hb⟩ := hrel
    by_cases hlt : k < n
    · have hkl : k < l.length := by rw [HN.out]; exact hlt
      obtain ⟨a1, hA1, -, x1, x2⟩ := pair_at (H1.out.below hb) hkl
      obtain ⟨a2, hA2, -, y1, y2⟩ := pair_at (H2.out.below hb) hkl
      subst hA1 hA2
      obtain ⟨p, hp⟩ : ∃ p, l[k] = p := ⟨_, rfl⟩
      rw [hp] at x1 x2 y1 y2
      have HB := Lib.hid hb
      have g1 : (k : Int) < (n : Int) := by omega
      have g2 : (0 : Int) ≤ (k : Int) := by omega
      clear hb hp
      go_upto_region 6 with fail
      replace x1 := keep_cell (Below.refl _ _).drew x1
      replace x2 := keep_cell (Below.refl _ _).drew x2
      replace y1 := keep_cell (Below.refl _ _).drew y1
      replace y2 := keep_cell (Below.refl _ _).drew y2
      refine region_segs [] (by kernel_rfl) ?_
      refine anyB_seg [0, 1, 2, 3, 4, 5, 6, 7, 8] 0 rfl (by kernel_rfl) (by kernel_rfl) (by kernel_rfl) (fun _ _ d _ _ h => by cases d <;> exact h) ?_
      simp only [pickOps, List.getElem?_toArray, List.getElem?_cons_zero, List.getElem?_cons_succ]
      go_wp2_with fail
      refine ⟨rfl, by simp [plainOps, plainV, plain1, Act.eval], ?_⟩
      refine anyB_done (by kernel_rfl) ?_ _
      have HB2 := Lib.hid (HB.out.drew)
      clear x1 x2 y1 y2 HB
      generalize World.drew _ = x9 at HB2 ⊢
      go_wp2_with fail
      go_roundw
      case rel => exact ⟨k + 1, by omega, by go_num, HB2.out⟩
      case measure => simp [intOf]; omega
    · have g1 : (n : Int) ≤ (k : Int) := by omega
      have HB := Lib.hid hb
      clear hb hlt
      go_wp2_with fail
      go_ret
      exact ⟨rfl, HB.out⟩
end Go.Proofs.YtjbnfigpflambabDoor
