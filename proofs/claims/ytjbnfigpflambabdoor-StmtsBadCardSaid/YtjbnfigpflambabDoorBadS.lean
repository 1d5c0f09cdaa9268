/- The walk of StmtsBad: it returns true. -/
import Derived.Test.YtjbnfigpflambabDoorShow
import Derived.Test.YtjbnfigpflambabDoorPick
namespace Go.Proofs.YtjbnfigpflambabDoor
open Go.ChangeShapes Go.WideShapes Go.ChangeAt Go.RowKit

def rep (c : UInt8) (n : Nat) : ByteArray := ⟨(Lib.repeatL [c] n).toArray⟩
theorem rep_any (c : UInt8) (n : Nat) (hn : n ≤ 140737488355328) (w : World) :
    Calls Tryd.prog 17 #[.string ⟨#[c]⟩, .int .i64 (n : Int)] w fun e w' => e = .returned (.string (rep c n)) ∧ Below w.heap.size w w' :=
  Tryd.strings_Repeat ⟨#[c]⟩ n w (by omega) (by show 1 * n ≤ _; omega)
theorem rep_v (w : World) : Calls Tryd.prog 17 #[.string ⟨#[118]⟩, .int .i64 21] w fun e w' => e = .returned (.string (rep 118 21)) ∧ Below w.heap.size w w' := rep_any 118 21 (by decide) w
theorem rep_a (w : World) : Calls Tryd.prog 17 #[.string ⟨#[97]⟩, .int .i64 60] w fun e w' => e = .returned (.string (rep 97 60)) ∧ Below w.heap.size w w' := rep_any 97 60 (by decide) w
/-- the odd texts, as written -/
def oddsOf (x y : ByteArray) : List ByteArray := [⟨#[]⟩, ⟨#[119, 104, 97, 116]⟩, ⟨#[98, 101, 103, 105, 110, 32]⟩, ⟨#[98, 101, 103, 105, 110, 32, 120]⟩, ⟨#[103, 101, 116]⟩, ⟨#[103, 101, 116, 32]⟩, ⟨#[103, 101, 116, 32, 65]⟩, ⟨#[103, 101, 116, 32, 97, 32, 98]⟩, ⟨#[115, 101, 116, 32, 97]⟩, ⟨#[115, 101, 116, 32, 97, 32]⟩, ⟨#[115, 101, 116, 32, 97, 32, 98, 32, 99]⟩, ⟨#[112, 117, 116, 32, 97, 98, 99, 100, 101, 102, 103, 104, 105, 32, 118]⟩, ⟨#[112, 114, 101, 112, 32, 97]⟩, ⟨#[112, 114, 101, 112, 32, 97, 32, 98, 101, 103, 105, 110]⟩, ⟨#[112, 114, 101, 112, 32, 97, 32, 112, 114, 101, 112, 32, 98, 32, 103, 101, 116, 32, 99]⟩, ⟨#[112, 114, 101, 112, 32, 97, 32, 112, 117, 116, 32, 98]⟩, ⟨#[32, 103, 101, 116, 32, 97]⟩, x, y]
def putV : ByteArray := (⟨#[112, 117, 116, 32, 97, 32]⟩ : ByteArray) ++ rep 118 21
def getA : ByteArray := (⟨#[103, 101, 116, 32]⟩ : ByteArray) ++ rep 97 60
def oddL : List ByteArray := oddsOf putV getA
def errL : List Int := [3, 3, 4, 4, 4, 4, 4, 4, 4, 4, 4, 4, 4, 4, 4, 4, 3, 4, 1]
theorem rep_sizes : (rep 118 21).size = 21 ∧ (rep 97 60).size = 60 := by decide +kernel
theorem odd_errs : (List.range 19).all (fun i => decide (readE (oddL.getD i ByteArray.empty) = errL.getD i 0) && decide (errL.getD i 0 ≠ 0) && decide ((oddL.getD i ByteArray.empty).size ≤ 64)) = true := by decide +kernel
theorem odd_at {i : Nat} (hi : i < 19) : readE (oddL.getD i ByteArray.empty) = errL.getD i 0 ∧ errL.getD i 0 ≠ 0 ∧ (oddL.getD i ByteArray.empty).size ≤ 64 := by
  have h := List.all_eq_true.1 odd_errs i (List.mem_range.2 hi)
  simp only [Bool.and_eq_true, decide_eq_true_eq] at h
  exact ⟨h.1.1, h.1.2, h.2⟩
theorem odd_none {i : Nat} (hi : i < 19) : readS (oddL.getD i ByteArray.empty) = St.none := by
  obtain ⟨h1, h2, -⟩ := odd_at hi
  unfold readS
  rw [if_neg (by rw [h1]; exact h2)]
def oddC : Array Value := (oddL.map Value.string).toArray
def errC : Array Value := (errL.map (Value.int .i64)).toArray
theorem oddC_at {i : Nat} (hi : i < 19) : oddC[i]? = some (.string (oddL.getD i ByteArray.empty)) := by
  have hl : i < oddL.length := hi
  simp [oddC, List.getD, hl]
theorem errC_at {i : Nat} (hi : i < 19) : errC[i]? = some (.int .i64 (errL.getD i 0)) := by
  have hl : i < errL.length := hi
  simp [errC, List.getD, hl]
theorem odd_kind (m : Int) (h0 : 0 ≤ m) : checkE ⟨12 + m, ⟨#[]⟩, ⟨#[]⟩⟩ = 3 := by
  unfold checkE plainE
  rw [if_neg (show ¬ (12 + m = 11) by omega), if_pos (show (12 + m < 1 ∨ 11 < 12 + m) by omega)]

set_option maxHeartbeats 2000000 in
theorem stmtsBad_walk (W : World) (hT : Tabs W) (q : Int) (hq : (Lit.int .i64 q).wf = true) (n : Int) (hn : (Lit.int .i64 n).wf = true) :
    Calls Tryd.prog 5 #[.int .i64 q, .int .i64 n] W fun e w' => e = .returned (.bool true) ∧ Below W.heap.size W w' := by
  obtain ⟨i0, i1⟩ := pick_bd q 19 (by decide)
  obtain ⟨m0, m1⟩ := pick_bd n 9 (by decide)
  obtain ⟨i, hi⟩ : ∃ i : Nat, pick q 19 = (i : Int) := ⟨(pick q 19).toNat, by omega⟩
  obtain ⟨M, hM⟩ : ∃ M, pick n 9 = M := ⟨_, rfl⟩
  rw [hM] at m0 m1
  rw [hi] at i0 i1
  have i2 : i < 19 := by omega
  have XI := Lib.hid (fun w : World => picked_is q 19 i w hq (by decide) (by decide) hi)
  have XM := Lib.hid (fun w : World => picked_is n 9 M w hn (by decide) (by decide) hM)
  have HT := Lib.hid hT
  obtain ⟨z1, z2⟩ := rep_sizes
  clear hT hq hn hi hM i0 i1
  go_enter Tryd.func5, Tryd.ntmps5
  go_wp2_with fail
  refine (rep_v _).mono ?_
  rintro e w1 ⟨rfl, hb1⟩
  go_wp2_with fail
  refine (rep_a _).mono ?_
  rintro e w2 ⟨rfl, hb2⟩
  have H2 := Lib.hid (below_step hb1 (Nat.le_refl _) hb2)
  clear hb1 hb2
  go_upto_region 2 with fail
  go_cut [5, 6] (fun a b wx => a = .slice (some ⟨w2.heap.size, 0, none⟩) 19 19 ∧ b = .slice (some ⟨w2.heap.size + 1, 0, none⟩) 19 19 ∧ Blk wx w2.heap.size 9 oddC ∧ Blk wx (w2.heap.size + 1) 24 errC ∧ Below W.heap.size W wx)
  case first =>
    have hz : ∀ o : Obj, (w2.alloc o).heap.size = w2.heap.size + 1 := fun o => by simp
    go_wp2_with fail
    go_meet
    have B1 : Blk ((w2.alloc (.cells oddC 9 (0, 0))).alloc (.cells errC 24 (0, 0))) w2.heap.size 9 oddC := (Blk.new w2 _ _).alloc _
    have B2 := Blk.new (w2.alloc (.cells oddC 9 (0, 0))) 24 errC
    rw [hz] at B2
    exact ⟨rfl, by simp, B1, B2, (H2.out.alloc H2.out.size _).alloc (by have := H2.out.size; simp; omega) _⟩
  case rest =>
    obtain ⟨rfl, rfl, B1, B2, hb⟩ := hcut
    have o1 := (B1.cell i).trans (oddC_at i2)
    have o2 := (B2.cell i).trans (errC_at i2)
    obtain ⟨p1, p2, p3⟩ := odd_at i2
    have p4 := odd_none i2
    obtain ⟨t, ht⟩ : ∃ t, oddL.getD i ByteArray.empty = t := ⟨_, rfl⟩
    obtain ⟨r, hr⟩ : ∃ r, errL.getD i 0 = r := ⟨_, rfl⟩
    rw [ht] at o1 p1 p3 p4
    rw [hr] at o2 p1
    have hrd : ∀ w : World, Tabs w → _ := fun w hT => read_any t (by unfold maxLen; omega) w hT
    rw [p1, p4] at hrd
    have hsh := fun w hT => show_any ⟨12 + M, ⟨#[]⟩, ⟨#[]⟩⟩ w hT (Nat.zero_le _) (Nat.zero_le _)
    rw [odd_kind M m0] at hsh
    have XR := Lib.hid hrd
    have XS := Lib.hid hsh
    have HB := Lib.hid hb
    clear hrd hsh hb p1 p2 p3 p4 ht hr B1 B2 H2
    unfold St.v at XR XS
    unfold St.none at XR
    have hi0 : (0 : Int) ≤ (i : Int) := by omega
    have hi1 : (i : Int) < 19 := by omega
    go_wp2_with fail
    refine (XI.out _).mono ?_
    rintro e w3 ⟨rfl, rfl⟩
    go_wp2_with fail
    refine (XR.out _ (HT.out.below HB.out)).mono ?_
    rintro e w4 ⟨rfl, hb4⟩
    replace o2 := keep_cell hb4 o2
    have H4 := Lib.hid (below_step HB.out (Nat.le_refl _) hb4)
    clear hb4 o1
    have l4 : w2.heap.size + 1 < w4.heap.size := World.block_lt_of_cell? w4 _ o2
    have n4 := Nat.ne_of_lt l4
    go_wp2_with fail
    refine (XM.out _).mono ?_
    rintro e w5 ⟨rfl, rfl⟩
    go_wp2_with fail
    refine (XS.out _ ((HT.out.below H4.out).alloc _)).mono ?_
    rintro e w6 ⟨rfl, hb6⟩
    have d0 := box_cell hb6 0
    have d1 := box_cell hb6 1
    have d2 := box_cell hb6 2
    replace o2 := keep_cell (below_of_alloc (Nat.le_refl _) hb6) o2
    have H6 := Lib.hid (below_step H4.out (Nat.le_refl _) (below_of_alloc (Nat.le_refl _) hb6))
    clear hb6
    go_wp2_with fail
    go_ret
    exact ⟨by simp, H6.out⟩
end Go.Proofs.YtjbnfigpflambabDoor
