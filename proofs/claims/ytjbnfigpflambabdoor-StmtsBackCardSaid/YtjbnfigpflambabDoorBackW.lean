/- The walk of StmtsBack: it returns true. -/
import Derived.Test.YtjbnfigpflambabDoorBackS
namespace Go.Proofs.YtjbnfigpflambabDoor
open Go.ChangeShapes Go.WideShapes Go.ChangeAt Go.RowKit

theorem show_ok {s : St} (h : checkE s = 0) : showS s = textOf s := by unfold showS; rw [if_pos h]
theorem text_size {s : St} (h : checkE s = 0) : (textOf s).size ≤ 200 := by
  have hv := valid_sorts h
  have hz := valid_sizes h
  have hw := wordK_size s.k
  have hb : blank.size = 1 := rfl
  unfold textOf
  split
  · omega
  · split
    · have := (hz (by omega)).1
      rw [ByteArray.size_append, ByteArray.size_append, hb]; omega
    · have := (hz (by omega)).1
      have := (hz (by omega)).2 (by omega)
      rw [ByteArray.size_append, ByteArray.size_append, ByteArray.size_append, ByteArray.size_append, hb]; omega
theorem readS_size (t : ByteArray) : (readS t).key.size ≤ t.size ∧ (readS t).val.size ≤ t.size := by
  unfold readS
  split
  · exact ⟨part_size t 1, part_size t 2⟩
  · exact ⟨Nat.zero_le _, Nat.zero_le _⟩
set_option maxHeartbeats 2000000 in
theorem stmtsBack_walk (W : World) (hT : Tabs W) (k : Int) (hk : (Lit.int .i64 k).wf = true) (a : Int) (ha : (Lit.int .i64 a).wf = true) (b : Int) (hb : (Lit.int .i64 b).wf = true) (c : Int) (hc : (Lit.int .i64 c).wf = true) (s : ByteArray) (hs : s.size ≤ 140737488351232) :
    Calls Tryd.prog 6 #[.agg #[.int .i64 k, .int .i64 a, .int .i64 b, .int .i64 c], .string s] W fun e w' => e = .returned (.bool true) ∧ Below W.heap.size W w' := by
  have hm := le_maxLen hs
  have HT := Lib.hid hT
  have hst := fun w => stmt_any k a b c hk ha hb hc w
  obtain ⟨x1, x2, x3⟩ := raw_ok k a b c
  obtain ⟨z1, z2⟩ := raw_size k a b c
  obtain ⟨x, hx⟩ : ∃ x, rawS k a b c = x := ⟨_, rfl⟩
  rw [hx] at hst x1 x2 x3 z1 z2
  have hsh := fun w hT => show_any x w hT (by unfold maxLen; omega) (by unfold maxLen; omega)
  have hch := fun w hT => check_all x w hT (by unfold maxLen; omega) (by unfold maxLen; omega)
  rw [show_ok x1, x1] at hsh
  rw [x1] at hch
  have hts := text_size x1
  obtain ⟨t, ht⟩ : ∃ t, textOf x = t := ⟨_, rfl⟩
  rw [ht] at hsh x2 x3 hts
  have hrd : ∀ w : World, Tabs w → _ := fun w hT => read_any t (by unfold maxLen; omega) w hT
  rw [x2, x3] at hrd
  have hrs : ∀ w : World, Tabs w → _ := fun w hT => read_any s hm w hT
  have hq := fun (h : readE s = 0) => read_text h
  have hzz := readS_size s
  obtain ⟨y, hy⟩ : ∃ y, readS s = y := ⟨_, rfl⟩
  obtain ⟨g, hg⟩ : ∃ g, readE s = g := ⟨_, rfl⟩
  rw [hy] at hrs hq hzz
  rw [hg] at hrs hq
  have hsy := fun w hT => show_any y w hT (by unfold maxLen; omega) (by unfold maxLen; omega)
  obtain ⟨xk, xn, xv⟩ := x
  obtain ⟨yk, yn, yv⟩ := y
  have XST := Lib.hid hst
  have XSH := Lib.hid hsh
  have XCH := Lib.hid hch
  have XRD := Lib.hid hrd
  have XRS := Lib.hid hrs
  have XSY := Lib.hid hsy
  have XQ := Lib.hid hq
  clear hst hsh hch hrd hrs hsy hq hk ha hb hc hT hx x1 x2 x3 ht hy hg z1 z2 hzz
  unfold St.v at XST XSH XCH XRD XRS XSY
  go_enter Tryd.func6, Tryd.ntmps6
  go_wp2_with fail
  refine (XST.out _).mono ?_
  rintro e w1 ⟨rfl, hb1⟩
  have H1 := Lib.hid (below_of_alloc (Nat.le_refl _) hb1)
  clear hb1
  go_wp2_with fail
  refine (XSH.out _ ((HT.out.below H1.out).alloc _)).mono ?_
  rintro e w2 ⟨rfl, hb2⟩
  have c0 := box_cell hb2 0
  have c1 := box_cell hb2 1
  have c2 := box_cell hb2 2
  have H2 := Lib.hid (below_step H1.out (Nat.le_refl _) (below_of_alloc (Nat.le_refl _) hb2))
  clear hb2
  go_wp2_with fail
  refine (XRD.out _ (HT.out.below H2.out)).mono ?_
  rintro e w3 ⟨rfl, hb3⟩
  replace c0 := keep_cell hb3 c0
  replace c1 := keep_cell hb3 c1
  replace c2 := keep_cell hb3 c2
  have H3 := Lib.hid (below_step H2.out (Nat.le_refl _) hb3)
  have l3 : w1.heap.size < w3.heap.size := World.block_lt_of_cell? w3 _ c0
  clear hb3
  go_wp2_with fail
  refine (XRS.out _ ((HT.out.below H3.out).alloc _)).mono ?_
  rintro e w4 ⟨rfl, hb4⟩
  have d0 := box_cell hb4 0
  have d1 := box_cell hb4 1
  have d2 := box_cell hb4 2
  have hb4' := below_of_alloc (Nat.le_refl _) hb4
  replace c0 := keep_cell hb4' c0
  replace c1 := keep_cell hb4' c1
  replace c2 := keep_cell hb4' c2
  have H4 := Lib.hid (below_step H3.out (Nat.le_refl _) hb4')
  have l4 : w1.heap.size < w4.heap.size := World.block_lt_of_cell? w4 _ c0
  have l4' : w3.heap.size < w4.heap.size := World.block_lt_of_cell? w4 _ d0
  clear hb4 hb4'
  have n4 := Nat.ne_of_lt l4
  have n4' := Nat.ne_of_lt l4'
  by_cases hg0 : g = 0
  · subst hg0
    obtain ⟨q1, q2⟩ := XQ.out rfl
    have XSZ := XSY.out
    rw [show_ok q1, q1, q2] at XSZ
    have XZ := Lib.hid XSZ
    clear XSZ XSY XQ q1 q2
    go_wp2_with fail
    refine (XZ.out _ ((HT.out.below H4.out).alloc _)).mono ?_
    rintro e w5 ⟨rfl, hb5⟩
    have hb5' := below_of_alloc (Nat.le_refl _) hb5
    replace c0 := keep_cell hb5' c0
    replace c1 := keep_cell hb5' c1
    replace c2 := keep_cell hb5' c2
    replace d0 := keep_cell hb5' d0
    replace d1 := keep_cell hb5' d1
    replace d2 := keep_cell hb5' d2
    have H5 := Lib.hid (below_step H4.out (Nat.le_refl _) hb5')
    clear hb5 hb5'
    go_wp2_with fail
    refine (XCH.out _ (HT.out.below H5.out)).mono ?_
    rintro e w6 ⟨rfl, hb6⟩
    go_wp2_with fail
    go_ret
    exact ⟨by simp, below_step H5.out (Nat.le_refl _) hb6⟩
  · have hgb : (g == 0) = false := by simp [hg0]
    clear XSY XQ
    go_wp2_with fail
    refine (XCH.out _ ((HT.out.below H4.out).alloc _)).mono ?_
    rintro e w6 ⟨rfl, hb6⟩
    go_wp2_with fail
    go_ret
    exact ⟨by simp, below_step (H4.out.alloc H4.out.size _) (Nat.le_refl _) hb6⟩
end Go.Proofs.YtjbnfigpflambabDoor
