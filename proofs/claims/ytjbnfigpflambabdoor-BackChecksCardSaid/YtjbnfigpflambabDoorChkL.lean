/- The walk of BackChecks: it returns true. -/
import Derived.Test.YtjbnfigpflambabDoorRefW
import Derived.Test.YtjbnfigpflambabDoorChk
namespace Go.Proofs.YtjbnfigpflambabDoor
open Go.ChangeShapes Go.WideShapes Go.ChangeAt Go.RowKit

set_option maxHeartbeats 4000000 in
set_option maxRecDepth 100000 in
theorem backChecks_walk (W : World) (hT : Tabs W) (r s : Value) (V : Wo) (h : WL W W.heap.size r s V) :
    Calls Tryd.prog 4 #[.agg #[r, s]] W fun e w' => e = .returned (.bool true) ∧ Below W.heap.size W w' := by
  have HT := Lib.hid hT
  have HC := Lib.hid (fun (u : World) (hb : Below W.heap.size W u) => check_world u r s V (HT.out.below hb) ((h.below hb).more hb.size))
  have HM := Lib.hid (fun (u : World) (hb : Below W.heap.size W u) => worldMay_any u r s V (HT.out.below hb) ((h.below hb).more hb.size))
  obtain ⟨Ar, cr, e1⟩ := h.rows.form
  obtain ⟨As, cs, e2, _⟩ := h.ses
  obtain ⟨nr, hnr⟩ : ∃ n, V.rows.length = n := ⟨_, rfl⟩
  obtain ⟨nv, hnv⟩ : ∃ n, V.ses.length = n := ⟨_, rfl⟩
  rw [hnr] at e1
  rw [hnv] at e2
  subst e1 e2
  have hch : chkE V = if goodW V = true then 0 else 5 := rfl
  cases hg : goodW V with
  | true =>
    rw [hg] at hch HM
    rw [show chkE V = 0 from hch] at HC
    have B0 := Lib.hid (boxed W (.cells #[.slice Ar nr cr, .slice As nv cs] 31))
    clear h hT hch hg hnr hnv
    go_enter Tryd.func4, Tryd.ntmps4
    go_wp2_with fail
    refine (HC.out _ B0.out).mono ?_
    rintro e w1 ⟨rfl, b1⟩
    have B1 := Lib.hid (below_step B0.out (Nat.le_refl _) b1)
    have X1 := (Blk.new W 31 #[.slice Ar nr cr, .slice As nv cs]).keep b1
    have f0 := X1.cell_ 0 _ rfl
    have f1 := X1.cell_ 1 _ rfl
    clear b1 X1
    go_wp2_with fail
    refine (HM.out _ B1.out).mono ?_
    rintro e w2 ⟨rfl, b2⟩
    have B2 := Lib.hid (below_step B1.out (Nat.le_refl _) b2)
    clear b2
    go_wp2_with fail
    go_ret
    exact ⟨rfl, B2.out⟩
  | false =>
    rw [hg] at hch HM
    rw [show chkE V = 5 from hch] at HC
    have B0 := Lib.hid (boxed W (.cells #[.slice Ar nr cr, .slice As nv cs] 31))
    clear h hT hch hg hnr hnv
    go_enter Tryd.func4, Tryd.ntmps4
    go_wp2_with fail
    refine (HC.out _ B0.out).mono ?_
    rintro e w1 ⟨rfl, b1⟩
    have B1 := Lib.hid (below_step B0.out (Nat.le_refl _) b1)
    have X1 := (Blk.new W 31 #[.slice Ar nr cr, .slice As nv cs]).keep b1
    have f0 := X1.cell_ 0 _ rfl
    have f1 := X1.cell_ 1 _ rfl
    clear b1 X1
    go_wp2_with fail
    refine (HM.out _ B1.out).mono ?_
    rintro e w2 ⟨rfl, b2⟩
    have B2 := Lib.hid (below_step B1.out (Nat.le_refl _) b2)
    clear b2
    go_wp2_with fail
    go_ret
    exact ⟨rfl, B2.out⟩
end Go.Proofs.YtjbnfigpflambabDoor
