/- back.Do: a statement in a session of a world; the world that came in stays as it is. -/
import Derived.Test.YtjbnfigpflambabDoorDoX
namespace Go.Proofs.YtjbnfigpflambabDoor
open Go.ChangeShapes Go.WideShapes Go.ChangeAt Go.RowKit

theorem put_same (W : Wo) {i : Nat} (hi : i < W.ses.length) : W.put i (W.se i) = W := by
  obtain ⟨rows, ses⟩ := W
  unfold Wo.put Wo.se
  have hi : i < ses.length := hi
  show (⟨rows, ses.set i (ses.getD i Se.new)⟩ : Wo) = ⟨rows, ses⟩
  rw [getD_at hi, List.set_getElem_self]
/-- in the midst of Do, ahead of the copy -/
structure DoAt (w wx : World) (q : Nat) (r s : Value) (x : St) : Prop where
  bel : Below w.heap.size w wx
  bx : Blk wx q 31 #[r, s]
  ax : Blk wx (q + 1) 23 #[.int .i64 x.k, .string x.key, .string x.val]
  rw_ : Blk wx (q + 2) 31 #[.slice none 0 0, .slice none 0 0]
  ra : Blk wx (q + 3) 48 #[.int .i64 0, .string ⟨#[]⟩, .int .i64 0]
theorem DoAt.keep {w wx wy : World} {q : Nat} {r s : Value} {x : St} (h : DoAt w wx q r s x) (hb : Below wx.heap.size wx wy) : DoAt w wy q r s x :=
  ⟨below_step h.bel (Nat.le_refl _) hb, h.bx.keep hb, h.ax.keep hb, h.rw_.keep hb, h.ra.keep hb⟩
theorem DoAt.start (w : World) (r s : Value) (x : St) : DoAt w ((((w.alloc (.cells #[r, s] 31)).alloc (.cells #[.int .i64 x.k, .string x.key, .string x.val] 23)).alloc (.cells #[.slice none 0 0, .slice none 0 0] 31)).alloc (.cells #[.int .i64 0, .string ⟨#[]⟩, .int .i64 0] 48)) w.heap.size r s x := by
  have e : ∀ (u : World) (o : Obj), (u.alloc o).heap.size = u.heap.size + 1 := fun u o => by simp
  have b1 := Blk.new (w.alloc (.cells #[r, s] 31)) 23 #[.int .i64 x.k, .string x.key, .string x.val]
  have b2 := Blk.new ((w.alloc (.cells #[r, s] 31)).alloc (.cells #[.int .i64 x.k, .string x.key, .string x.val] 23)) 31 #[.slice none 0 0, .slice none 0 0]
  have b3 := Blk.new (((w.alloc (.cells #[r, s] 31)).alloc (.cells #[.int .i64 x.k, .string x.key, .string x.val] 23)).alloc (.cells #[.slice none 0 0, .slice none 0 0] 31)) 48 #[.int .i64 0, .string ⟨#[]⟩, .int .i64 0]
  rw [e] at b1
  rw [e, e] at b2
  rw [e, e, e] at b3
  exact ⟨((boxed2 w _ _).alloc (by simp; omega) _).alloc (by simp; omega) _, (((Blk.new w _ _).alloc _).alloc _).alloc _, (b1.alloc _).alloc _, b2.alloc _, b3⟩
def DoP (w : World) (W : Wo) (i : Int) (x : St) (e : Ending) (w' : World) : Prop :=
  ∃ r' s' cs, e = .returned (.tuple #[.agg #[r', s'], anV (doR W i x).2, .int .i64 (doE W i x)]) ∧ OPL w' w.heap.size r' (doR W i x).1.rows ∧ OSL w' w.heap.size s' (doR W i x).1.ses cs ∧ Below w.heap.size w w'
theorem doR_bad {W : Wo} {i : Int} {x : St} (h : doE W i x ≠ 0) : doR W i x = (emptyW, An.no) := by unfold doR; rw [if_neg h]
theorem nilDo (w' : World) (B : Nat) : OPL w' B (.slice none 0 0) emptyW.rows ∧ OSL w' B (.slice none 0 0) emptyW.ses [] := ⟨OPL.nil_ _ _, World.ownsRow_nil _ _ _ _, rfl⟩
set_option maxHeartbeats 8000000 in
set_option maxRecDepth 100000 in
theorem do_bad (w : World) (r s : Value) (W : Wo) (i : Int) (x : St) (hT : Tabs w) (h : WL w w.heap.size r s W) (hi : (Lit.int .i64 i).wf = true) (hk : x.key.size ≤ maxLen) (hv : x.val.size ≤ maxLen) (hE : doE W i x ≠ 0) :
    Calls Tryd.prog 23 #[.agg #[r, s], .int .i64 i, .agg #[.int .i64 x.k, .string x.key, .string x.val]] w (DoP w W i x) := by
  obtain ⟨A, c, er⟩ := h.rows.form
  obtain ⟨A', c', es, _, hn', _⟩ := h.ses
  subst er es
  have D0 := Lib.hid (DoAt.start w (.slice A W.rows.length c) (.slice A' W.ses.length c') x)
  have HW := Lib.hid h
  have HT := Lib.hid hT
  have HKV := Lib.hid (And.intro hk hv)
  have HI := wf_i64 hi
  obtain ⟨n, hN⟩ : ∃ n, W.ses.length = n := ⟨_, rfl⟩
  rw [hN] at D0 HW hn' ⊢
  have HN := Lib.hid hN
  obtain ⟨K, key, val⟩ := x
  obtain ⟨q, hq⟩ : ∃ q, w.heap.size = q := ⟨_, rfl⟩
  rw [hq] at D0
  have HQ := Lib.hid hq
  have hR := Lib.hid (doR_bad hE)
  have HE := Lib.hid hE
  clear hT hk hv hE h hN hi
  by_cases hg : goodW W = true
  · have HC := Lib.hid (show chkE W = 0 by unfold chkE; rw [if_pos hg])
    by_cases hin : 0 ≤ i ∧ i < n
    · have hd : doE W i ⟨K, key, val⟩ = checkE ⟨K, key, val⟩ := by unfold doE; rw [if_pos hg, if_pos (by rw [HN.out]; exact hin)]
      have hne : checkE ⟨K, key, val⟩ ≠ 0 := by rw [← hd]; exact HE.out
      have HD := Lib.hid hd
      obtain ⟨Z, hZ⟩ : ∃ Z, checkE ⟨K, key, val⟩ = Z := ⟨_, rfl⟩
      rw [hZ] at HD hne
      have XZ := Lib.hid hZ
      have g1 := hin.1
      have g2 := hin.2
      have g3 : (Z != 0) = true := by simpa using hne
      clear hg hin hd hne hZ
      go_enter Tryd.func23, Tryd.ntmps23
      go_wp2_with fail
      generalize (((w.alloc (.cells #[.slice A W.rows.length c, .slice A' n c'] 31 (0, 0))).alloc (.cells #[.int .i64 K, .string key, .string val] 23 (0, 0))).alloc (.cells #[.slice none 0 0, .slice none 0 0] 31 (0, 0))).alloc (.cells #[.int .i64 0, .string ⟨#[]⟩, .int .i64 0] 48 (0, 0)) = x0 at D0 ⊢
      refine (check_world _ _ _ W (HT.out.below D0.out.bel) ((HW.out.below D0.out.bel).more D0.out.bel.size)).mono ?_
      rintro e x1 ⟨rfl, b1⟩
      have D1 := Lib.hid (D0.out.keep b1)
      clear b1 D0 hq
      rw [HC.out]
      have y1 := D1.out.bx.cell_ 1 _ rfl
      have a0 := D1.out.ax.cell_ 0 _ rfl
      have a1 := D1.out.ax.cell_ 1 _ rfl
      have a2 := D1.out.ax.cell_ 2 _ rfl
      go_wp2_with fail
      refine (check_all ⟨K, key, val⟩ _ (HT.out.below D1.out.bel) HKV.out.1 HKV.out.2).mono ?_
      rintro e x2 ⟨rfl, b2⟩
      have D2 := Lib.hid (D1.out.keep b2)
      rw [XZ.out]
      clear b2 y1 a0 a1 a2 D1
      have f0 := D2.out.rw_.cell_ 0 _ rfl
      have f1 := D2.out.rw_.cell_ 1 _ rfl
      have f2 := D2.out.ra.cell_ 0 _ rfl
      have f3 := D2.out.ra.cell_ 1 _ rfl
      have f4 := D2.out.ra.cell_ 2 _ rfl
      have fw := D2.out.rw_.frozen
      have fa := D2.out.ra.frozen
      go_wp2_with fail
      have RW := (((D2.out.rw_.set_ 0 (.slice none 0 0)).set_ 1 (.slice none 0 0)))
      have RW2 := ((RW.far (p := ⟨q + 3, 0, none⟩) (show q + 2 ≠ q + 3 by omega) (.int .i64 0)).far (p := ⟨q + 3, 1, none⟩) (show q + 2 ≠ q + 3 by omega) (.string ⟨#[]⟩)).far (p := ⟨q + 3, 2, none⟩) (show q + 2 ≠ q + 3 by omega) (.int .i64 0)
      have RA := (((D2.out.ra.far (p := ⟨q + 2, 0, none⟩) (show q + 3 ≠ q + 2 by omega) (.slice none 0 0)).far (p := ⟨q + 2, 1, none⟩) (show q + 3 ≠ q + 2 by omega) (.slice none 0 0)).set_ 0 (.int .i64 0)).set_ 1 (.string ⟨#[]⟩) |>.set_ 2 (.int .i64 0)
      have t0 := RW2.cell_ 0 _ rfl
      have t1 := RW2.cell_ 1 _ rfl
      have t2 := RA.cell_ 0 _ rfl
      have t3 := RA.cell_ 1 _ rfl
      have t4 := RA.cell_ 2 _ rfl
      clear f0 f1 f2 f3 f4 fw fa
      refine bodyPost_ret (v := .tuple #[.agg #[.slice none 0 0, .slice none 0 0], .agg #[.int .i64 0, .string ⟨#[]⟩, .int .i64 0], .int .i64 (Z)]) (by simp [results, Tryd.results23, go_sem, t0, t1, t2, t3, t4]) rfl ?_
      refine ⟨.slice none 0 0, .slice none 0 0, [], ?_, ?_, ?_, ?_⟩
      · rw [hR.out, HD.out]; rfl
      · rw [hR.out]; exact (nilDo _ _).1
      · rw [hR.out]; exact (nilDo _ _).2
      · rw [HQ.out]
        have hb := D2.out.bel
        rw [HQ.out] at hb
        exact ((((hb.setCell (p := ⟨q + 2, 0, none⟩) (Nat.le_add_right _ _) _).setCell (p := ⟨q + 2, 1, none⟩) (Nat.le_add_right _ _) _).setCell (p := ⟨q + 3, 0, none⟩) (Nat.le_add_right _ _) _).setCell (p := ⟨q + 3, 1, none⟩) (Nat.le_add_right _ _) _).setCell (p := ⟨q + 3, 2, none⟩) (Nat.le_add_right _ _) _
    · have HD := Lib.hid (show doE W i ⟨K, key, val⟩ = 6 by unfold doE; rw [if_pos hg, if_neg (by rw [HN.out]; exact hin)])
      by_cases hneg : i < 0
      · clear hg hin
        go_enter Tryd.func23, Tryd.ntmps23
        go_wp2_with fail
        generalize (((w.alloc (.cells #[.slice A W.rows.length c, .slice A' n c'] 31 (0, 0))).alloc (.cells #[.int .i64 K, .string key, .string val] 23 (0, 0))).alloc (.cells #[.slice none 0 0, .slice none 0 0] 31 (0, 0))).alloc (.cells #[.int .i64 0, .string ⟨#[]⟩, .int .i64 0] 48 (0, 0)) = x0 at D0 ⊢
        refine (check_world _ _ _ W (HT.out.below D0.out.bel) ((HW.out.below D0.out.bel).more D0.out.bel.size)).mono ?_
        rintro e x1 ⟨rfl, b1⟩
        have D1 := Lib.hid (D0.out.keep b1)
        clear b1 D0 hq
        rw [HC.out]
        have y1 := D1.out.bx.cell_ 1 _ rfl
        have f0 := D1.out.rw_.cell_ 0 _ rfl
        have f1 := D1.out.rw_.cell_ 1 _ rfl
        have f2 := D1.out.ra.cell_ 0 _ rfl
        have f3 := D1.out.ra.cell_ 1 _ rfl
        have f4 := D1.out.ra.cell_ 2 _ rfl
        have fw := D1.out.rw_.frozen
        have fa := D1.out.ra.frozen
        go_wp2_with fail
        have RW := (((D1.out.rw_.set_ 0 (.slice none 0 0)).set_ 1 (.slice none 0 0)))
        have RW2 := ((RW.far (p := ⟨q + 3, 0, none⟩) (show q + 2 ≠ q + 3 by omega) (.int .i64 0)).far (p := ⟨q + 3, 1, none⟩) (show q + 2 ≠ q + 3 by omega) (.string ⟨#[]⟩)).far (p := ⟨q + 3, 2, none⟩) (show q + 2 ≠ q + 3 by omega) (.int .i64 0)
        have RA := (((D1.out.ra.far (p := ⟨q + 2, 0, none⟩) (show q + 3 ≠ q + 2 by omega) (.slice none 0 0)).far (p := ⟨q + 2, 1, none⟩) (show q + 3 ≠ q + 2 by omega) (.slice none 0 0)).set_ 0 (.int .i64 0)).set_ 1 (.string ⟨#[]⟩) |>.set_ 2 (.int .i64 0)
        have t0 := RW2.cell_ 0 _ rfl
        have t1 := RW2.cell_ 1 _ rfl
        have t2 := RA.cell_ 0 _ rfl
        have t3 := RA.cell_ 1 _ rfl
        have t4 := RA.cell_ 2 _ rfl
        clear f0 f1 f2 f3 f4 fw fa
        refine bodyPost_ret (v := .tuple #[.agg #[.slice none 0 0, .slice none 0 0], .agg #[.int .i64 0, .string ⟨#[]⟩, .int .i64 0], .int .i64 (6)]) (by simp [results, Tryd.results23, go_sem, t0, t1, t2, t3, t4]) rfl ?_
        refine ⟨.slice none 0 0, .slice none 0 0, [], ?_, ?_, ?_, ?_⟩
        · rw [hR.out, HD.out]; rfl
        · rw [hR.out]; exact (nilDo _ _).1
        · rw [hR.out]; exact (nilDo _ _).2
        · rw [HQ.out]
          have hb := D1.out.bel
          rw [HQ.out] at hb
          exact ((((hb.setCell (p := ⟨q + 2, 0, none⟩) (Nat.le_add_right _ _) _).setCell (p := ⟨q + 2, 1, none⟩) (Nat.le_add_right _ _) _).setCell (p := ⟨q + 3, 0, none⟩) (Nat.le_add_right _ _) _).setCell (p := ⟨q + 3, 1, none⟩) (Nat.le_add_right _ _) _).setCell (p := ⟨q + 3, 2, none⟩) (Nat.le_add_right _ _) _
      · have g1 : 0 ≤ i := by omega
        have g2 : (n : Int) ≤ i := by omega
        clear hg hin hneg
        go_enter Tryd.func23, Tryd.ntmps23
        go_wp2_with fail
        generalize (((w.alloc (.cells #[.slice A W.rows.length c, .slice A' n c'] 31 (0, 0))).alloc (.cells #[.int .i64 K, .string key, .string val] 23 (0, 0))).alloc (.cells #[.slice none 0 0, .slice none 0 0] 31 (0, 0))).alloc (.cells #[.int .i64 0, .string ⟨#[]⟩, .int .i64 0] 48 (0, 0)) = x0 at D0 ⊢
        refine (check_world _ _ _ W (HT.out.below D0.out.bel) ((HW.out.below D0.out.bel).more D0.out.bel.size)).mono ?_
        rintro e x1 ⟨rfl, b1⟩
        have D1 := Lib.hid (D0.out.keep b1)
        clear b1 D0 hq
        rw [HC.out]
        have y1 := D1.out.bx.cell_ 1 _ rfl
        have f0 := D1.out.rw_.cell_ 0 _ rfl
        have f1 := D1.out.rw_.cell_ 1 _ rfl
        have f2 := D1.out.ra.cell_ 0 _ rfl
        have f3 := D1.out.ra.cell_ 1 _ rfl
        have f4 := D1.out.ra.cell_ 2 _ rfl
        have fw := D1.out.rw_.frozen
        have fa := D1.out.ra.frozen
        go_wp2_with fail
        have RW := (((D1.out.rw_.set_ 0 (.slice none 0 0)).set_ 1 (.slice none 0 0)))
        have RW2 := ((RW.far (p := ⟨q + 3, 0, none⟩) (show q + 2 ≠ q + 3 by omega) (.int .i64 0)).far (p := ⟨q + 3, 1, none⟩) (show q + 2 ≠ q + 3 by omega) (.string ⟨#[]⟩)).far (p := ⟨q + 3, 2, none⟩) (show q + 2 ≠ q + 3 by omega) (.int .i64 0)
        have RA := (((D1.out.ra.far (p := ⟨q + 2, 0, none⟩) (show q + 3 ≠ q + 2 by omega) (.slice none 0 0)).far (p := ⟨q + 2, 1, none⟩) (show q + 3 ≠ q + 2 by omega) (.slice none 0 0)).set_ 0 (.int .i64 0)).set_ 1 (.string ⟨#[]⟩) |>.set_ 2 (.int .i64 0)
        have t0 := RW2.cell_ 0 _ rfl
        have t1 := RW2.cell_ 1 _ rfl
        have t2 := RA.cell_ 0 _ rfl
        have t3 := RA.cell_ 1 _ rfl
        have t4 := RA.cell_ 2 _ rfl
        clear f0 f1 f2 f3 f4 fw fa
        refine bodyPost_ret (v := .tuple #[.agg #[.slice none 0 0, .slice none 0 0], .agg #[.int .i64 0, .string ⟨#[]⟩, .int .i64 0], .int .i64 (6)]) (by simp [results, Tryd.results23, go_sem, t0, t1, t2, t3, t4]) rfl ?_
        refine ⟨.slice none 0 0, .slice none 0 0, [], ?_, ?_, ?_, ?_⟩
        · rw [hR.out, HD.out]; rfl
        · rw [hR.out]; exact (nilDo _ _).1
        · rw [hR.out]; exact (nilDo _ _).2
        · rw [HQ.out]
          have hb := D1.out.bel
          rw [HQ.out] at hb
          exact ((((hb.setCell (p := ⟨q + 2, 0, none⟩) (Nat.le_add_right _ _) _).setCell (p := ⟨q + 2, 1, none⟩) (Nat.le_add_right _ _) _).setCell (p := ⟨q + 3, 0, none⟩) (Nat.le_add_right _ _) _).setCell (p := ⟨q + 3, 1, none⟩) (Nat.le_add_right _ _) _).setCell (p := ⟨q + 3, 2, none⟩) (Nat.le_add_right _ _) _
  · have HC := Lib.hid (show chkE W = 5 by unfold chkE; rw [if_neg hg])
    have HD := Lib.hid (show doE W i ⟨K, key, val⟩ = 5 by unfold doE; rw [if_neg hg])
    clear hg
    go_enter Tryd.func23, Tryd.ntmps23
    go_wp2_with fail
    generalize (((w.alloc (.cells #[.slice A W.rows.length c, .slice A' n c'] 31 (0, 0))).alloc (.cells #[.int .i64 K, .string key, .string val] 23 (0, 0))).alloc (.cells #[.slice none 0 0, .slice none 0 0] 31 (0, 0))).alloc (.cells #[.int .i64 0, .string ⟨#[]⟩, .int .i64 0] 48 (0, 0)) = x0 at D0 ⊢
    refine (check_world _ _ _ W (HT.out.below D0.out.bel) ((HW.out.below D0.out.bel).more D0.out.bel.size)).mono ?_
    rintro e x1 ⟨rfl, b1⟩
    have D1 := Lib.hid (D0.out.keep b1)
    clear b1 D0 hq
    rw [HC.out]
    have f0 := D1.out.rw_.cell_ 0 _ rfl
    have f1 := D1.out.rw_.cell_ 1 _ rfl
    have f2 := D1.out.ra.cell_ 0 _ rfl
    have f3 := D1.out.ra.cell_ 1 _ rfl
    have f4 := D1.out.ra.cell_ 2 _ rfl
    have fw := D1.out.rw_.frozen
    have fa := D1.out.ra.frozen
    go_wp2_with fail
    have RW := (((D1.out.rw_.set_ 0 (.slice none 0 0)).set_ 1 (.slice none 0 0)))
    have RW2 := ((RW.far (p := ⟨q + 3, 0, none⟩) (show q + 2 ≠ q + 3 by omega) (.int .i64 0)).far (p := ⟨q + 3, 1, none⟩) (show q + 2 ≠ q + 3 by omega) (.string ⟨#[]⟩)).far (p := ⟨q + 3, 2, none⟩) (show q + 2 ≠ q + 3 by omega) (.int .i64 0)
    have RA := (((D1.out.ra.far (p := ⟨q + 2, 0, none⟩) (show q + 3 ≠ q + 2 by omega) (.slice none 0 0)).far (p := ⟨q + 2, 1, none⟩) (show q + 3 ≠ q + 2 by omega) (.slice none 0 0)).set_ 0 (.int .i64 0)).set_ 1 (.string ⟨#[]⟩) |>.set_ 2 (.int .i64 0)
    have t0 := RW2.cell_ 0 _ rfl
    have t1 := RW2.cell_ 1 _ rfl
    have t2 := RA.cell_ 0 _ rfl
    have t3 := RA.cell_ 1 _ rfl
    have t4 := RA.cell_ 2 _ rfl
    clear f0 f1 f2 f3 f4 fw fa
    refine bodyPost_ret (v := .tuple #[.agg #[.slice none 0 0, .slice none 0 0], .agg #[.int .i64 0, .string ⟨#[]⟩, .int .i64 0], .int .i64 (5)]) (by simp [results, Tryd.results23, go_sem, t0, t1, t2, t3, t4]) rfl ?_
    refine ⟨.slice none 0 0, .slice none 0 0, [], ?_, ?_, ?_, ?_⟩
    · rw [hR.out, HD.out]; rfl
    · rw [hR.out]; exact (nilDo _ _).1
    · rw [hR.out]; exact (nilDo _ _).2
    · rw [HQ.out]
      have hb := D1.out.bel
      rw [HQ.out] at hb
      exact ((((hb.setCell (p := ⟨q + 2, 0, none⟩) (Nat.le_add_right _ _) _).setCell (p := ⟨q + 2, 1, none⟩) (Nat.le_add_right _ _) _).setCell (p := ⟨q + 3, 0, none⟩) (Nat.le_add_right _ _) _).setCell (p := ⟨q + 3, 1, none⟩) (Nat.le_add_right _ _) _).setCell (p := ⟨q + 3, 2, none⟩) (Nat.le_add_right _ _) _
end Go.Proofs.YtjbnfigpflambabDoor
