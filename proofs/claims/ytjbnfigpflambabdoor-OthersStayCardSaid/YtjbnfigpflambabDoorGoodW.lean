/- The walk of BackGood: it returns true. -/
import Derived.Test.YtjbnfigpflambabDoorPlayN
namespace Go.Proofs.YtjbnfigpflambabDoor
open Go.ChangeShapes Go.WideShapes Go.ChangeAt Go.RowKit

/-- in the midst of a law over played worlds: the raw thing, the world -/
structure LawAt (W0 wx : World) (q q5 : Nat) (x : Rw) (V : Wo) : Prop where
  bel : Below W0.heap.size W0 wx
  raw : Blk wx q 42 #[.int .i64 x.k, .int .i64 x.a, .int .i64 x.b, .int .i64 x.c]
  box : BoxW W0.heap.size wx q5 V
theorem LawAt.keep {W0 wx wy : World} {q q5 : Nat} {x : Rw} {V : Wo} (h : LawAt W0 wx q q5 x V) (hb : Below wx.heap.size wx wy) : LawAt W0 wy q q5 x V :=
  ⟨below_step h.bel (Nat.le_refl _) hb, h.raw.keep hb, h.box.keep hb⟩
theorem BoxW.wl {B : Nat} {w : World} {q : Nat} {V : Wo} (h : BoxW B w q V) (h8 : V.ses.length ≤ 1000) : ∃ r s, Blk w q 31 #[r, s] ∧ (∀ u, Below w.heap.size w u → WL u u.heap.size r s V) := by
  obtain ⟨r, s, b, o1, cs, o2⟩ := h.box
  exact ⟨r, s, b, fun u hb => ⟨(o1.keeps (.of_below hb)).pl, (osl_keeps o2 (.of_below hb) (.of_below hb)).sl (by omega)⟩⟩
theorem DoN.wl {B : Nat} {wr wy : World} {z12 z13 : Nat} {r s : Value} {V : Wo} {a : An} (h : DoN B wr wy z12 z13 r s V a) (h8 : V.ses.length ≤ 1000) : WL wy wy.heap.size r s V := by
  obtain ⟨cs, o2⟩ := h.ses
  exact ⟨h.rows.pl, o2.sl (by omega)⟩
theorem OSL.st_at {w : World} {B g n cap : Nat} {ss : List Se} {cs : List Value} (h : OSL w B (.slice (some ⟨g, 0, none⟩) n cap) ss cs) (i : Nat) (hi : i < ss.length) : w.cell? ⟨g, i * 5, none⟩ = some (.int .i64 (ss.getD i Se.new).st) := by
  obtain ⟨a, b, c, d, k0, _⟩ := SesC.at_ h.ses i hi
  have hc := h.own.cells (g := g) rfl
  have hadd : ∀ n, (⟨g, 0, none⟩ : Addr).add n = ⟨g, n, none⟩ := fun n => by unfold Addr.add; split <;> simp_all
  rw [← hadd, getD_at hi]
  exact hc _ _ k0
theorem do_none {W : Wo} {n : Nat} (g : Good W) (hl : W.ses.length = n) (x : Rw) : doE W n x.st = 6 ∧ doR W n x.st = (emptyW, An.no) := by
  have h0 : doE W n x.st = 6 := by
    unfold doE
    rw [if_pos ((good_iff W).2 g), if_neg (by rw [hl]; omega)]
  refine ⟨h0, ?_⟩
  unfold doR
  rw [if_neg (by rw [h0]; decide)]
set_option maxHeartbeats 16000000 in
set_option maxRecDepth 100000 in
theorem backGood_walk (W0 : World) (hT : Tabs W0) (v : Value) (l : List Rw) (hl : RL W0 W0.heap.size v l) (k : Int) (hk : (Lit.int .i64 k).wf = true) (a : Int) (ha : (Lit.int .i64 a).wf = true) (b : Int) (hb : (Lit.int .i64 b).wf = true) (c : Int) (hc : (Lit.int .i64 c).wf = true) :
    Calls Tryd.prog 8 #[v, .agg #[.int .i64 k, .int .i64 a, .int .i64 b, .int .i64 c]] W0 fun e w' => e = .returned (.bool true) ∧ Below W0.heap.size W0 w' := by
  have HT := Lib.hid hT
  have HL := Lib.hid hl
  have HWF := Lib.hid (show Rw.Wf ⟨k, a, b, c⟩ from ⟨hk, ha, hb, hc⟩)
  have HPI := Lib.hid (i64_wf (a := pick c 4) (pick_bd c 4 (by decide)).1 (by have := (pick_bd c 4 (by decide)).2; omega))
  have HP4 := Lib.hid (show (Lit.int .i64 4).wf = true by decide)
  have HSZ := Lib.hid (show (Rw.st ⟨k, a, b, c⟩).key.size ≤ maxLen ∧ (Rw.st ⟨k, a, b, c⟩).val.size ≤ maxLen by have := raw_size k a b c; unfold maxLen; exact ⟨Nat.le_trans this.1 (by decide), Nat.le_trans this.2 (by decide)⟩)
  clear hT hl hk ha hb hc
  obtain ⟨q, hq⟩ : ∃ q, W0.heap.size = q := ⟨_, rfl⟩
  have hraw := Blk.new W0 42 #[.int .i64 k, .int .i64 a, .int .i64 b, .int .i64 c]
  rw [hq] at hraw
  have R0 := Lib.hid hraw
  have HQ := Lib.hid hq
  clear hraw
  go_enter Tryd.func8, Tryd.ntmps8
  go_wp2_with fail
  refine (played4 _ _ l ((HL.out.below (boxed _ _)).more (by simp)) 60 (by decide) (HT.out.below (boxed _ _))).mono ?_
  rintro e w1 ⟨r, s, o, cs, rfl, o1, o2, b1⟩
  obtain ⟨hgood, hlen⟩ := play_good (n := 4) (by decide) (l.take 60) (new_good 4 (by decide)) (new_len 4)
  obtain ⟨V, hV⟩ : ∃ V, playL 4 (l.take 60) (newW 4) = V := ⟨_, rfl⟩
  rw [hV] at o1 o2 hgood hlen
  have hr1 := R0.out.keep b1
  have hb1 : Below W0.heap.size W0 w1 := below_of_alloc (Nat.le_refl _) b1
  obtain ⟨A1, k1, rfl⟩ := o1.form
  obtain ⟨A2, k2, rfl⟩ := own_slice o2.own
  have hs : W0.heap.size ≤ (W0.alloc (.cells #[.int .i64 k, .int .i64 a, .int .i64 b, .int .i64 c] 42)).heap.size := by simp
  have M1 := Lib.hid (show LawAt W0 (w1.alloc (.cells #[.slice A1 V.rows.length k1, .slice A2 V.ses.length k2] 31)) q w1.heap.size ⟨k, a, b, c⟩ V from ⟨hb1.alloc hb1.size _, hr1.alloc _, ⟨_, _, Blk.new w1 _ _, (o1.base hs).keeps (.alloc _ _), cs, osl_keeps (o2.base hs) (.alloc _ _) (.alloc _ _)⟩⟩)
  obtain ⟨q5, hq5⟩ : ∃ z, w1.heap.size = z := ⟨_, rfl⟩
  rw [hq5] at M1
  clear o1 o2 b1 hr1 hb1 R0 hs hq
  obtain ⟨i, hi4, hpi⟩ : ∃ i : Nat, i < 4 ∧ pick c 4 = (i : Int) := ⟨(pick c 4).toNat, by have := pick_bd c 4 (by decide); omega, by have := pick_bd c 4 (by decide); omega⟩
  have hPick := Lib.hid hpi
  rw [hpi] at HPI
  obtain ⟨hee, hrr⟩ := do_step hgood hlen (by decide) ⟨k, a, b, c⟩
  have hsess : Rw.sess ⟨k, a, b, c⟩ 4 = i := by have h4 := (sess_lt ⟨k, a, b, c⟩ (n := 4) (by decide)).2; have : pick c 4 = ((Rw.sess ⟨k, a, b, c⟩ 4 : Nat) : Int) := h4; omega
  rw [hsess] at hrr
  have hst := doW_state (W := V) (i := i) (by omega) (Rw.st ⟨k, a, b, c⟩)
  have hgd := doW_good hgood (i := i) (by omega) (x := Rw.st ⟨k, a, b, c⟩) (raw_ok k a b c).1
  have hln := doW_length V i (Rw.st ⟨k, a, b, c⟩)
  obtain ⟨h6, hn6⟩ := do_none hgood hlen ⟨k, a, b, c⟩
  change doE V (pick c 4) _ = 0 at hee
  change doR V (pick c 4) _ = _ at hrr
  change doE V 4 _ = 6 at h6
  change doR V 4 _ = _ at hn6
  rw [hpi] at hee hrr
  obtain ⟨R, hRD⟩ : ∃ R, doW V i (Rw.st ⟨k, a, b, c⟩) = R := ⟨_, rfl⟩
  rw [hRD] at hrr hst hgd hln
  obtain ⟨W2, aK, aT, aS⟩ := R
  obtain ⟨R4, hR4⟩ : ∃ R, (emptyW, An.no) = R := ⟨_, rfl⟩
  rw [hR4] at hn6
  obtain ⟨W4, bK, bT, bS⟩ := R4
  have HRR := Lib.hid hrr
  have HEE := Lib.hid hee
  have HR4 := Lib.hid hn6
  have HE4 := Lib.hid h6
  have HST := Lib.hid (show aS = (W2.se i).st from hst)
  have HG2 := Lib.hid hgd
  have HGV := Lib.hid (And.intro hgood hlen)
  have HL2 := Lib.hid (show W2.ses.length = 4 from hln.trans hlen)
  clear hrr hee hn6 h6 hst hgd hln hgood hlen hRD hR4 hsess hpi hV
  go_upto_region 2 with fail
  generalize World.alloc _ _ = wr at M1 ⊢
  have c3 := M1.out.raw.cell_ 3 _ rfl
  go_wp2_with fail
  refine (picked_any _ _ _ HWF.out.c (by omega) (by omega)).mono ?_
  rintro e w2 ⟨rfl, rfl⟩
  rw [hPick.out]
  go_upto_region 3 with fail
  clear c3
  have HBL := Lib.hid M1.out.bel
  obtain ⟨r0, s0, y, hx⟩ := M1.out.box.wl (by rw [HGV.out.2]; decide)
  have HX := Lib.hid hx
  have y0 := y.cell_ 0 _ rfl
  have y1 := y.cell_ 1 _ rfl
  have p0 := M1.out.raw.cell_ 0 _ rfl
  have p1 := M1.out.raw.cell_ 1 _ rfl
  have p2 := M1.out.raw.cell_ 2 _ rfl
  have p3 := M1.out.raw.cell_ 3 _ rfl
  clear y hx
  go_cut [9, 10, 11] (fun p p2 e wc => ∃ z12 z13 r s, p = .pointer (some ⟨z12, 0, none⟩) ∧ p2 = .pointer (some ⟨z13, 0, none⟩) ∧ e = .int .i64 0 ∧ DoN W0.heap.size wr wc z12 z13 r s W2 ⟨aK, aT, aS⟩)
  case first =>
    refine region_segs [11, 12] (by kernel_rfl) ?_
    refine anyB_seg [0, 1, 2] 11 rfl (by kernel_rfl) (by kernel_rfl) (by kernel_rfl) (fun _ _ d _ _ h => by cases d <;> exact h) ?_
    simp only [pickOps, List.getElem?_toArray, List.getElem?_cons_zero, List.getElem?_cons_succ]
    go_wp2_with fail
    refine ⟨rfl, by rfl, ?_⟩
    have S0 := Lib.hid ((DoS.start W0.heap.size wr).keep (Below.refl _ _).drew)
    clear p0 p1 p2 p3 y0 y1
    generalize wr.drew = x0 at S0 ⊢
    refine anyB_three (i := 3) (j := 9) (k := 10) (by kernel_rfl) rfl rfl rfl (fun K hK => ?_) (fun K hK => ?_) (fun K hK => ?_)
    · go_simp
      refine (stmt_any _ _ _ _ HWF.out.k HWF.out.a HWF.out.b HWF.out.c _).mono ?_
      rintro e x1 ⟨rfl, b⟩
      refine hK.out _ _ (fun _ => b) ?_
      clear hK K
      have S1 := Lib.hid (S0.out.keep b)
      clear b S0
      refine anyB_three (i := 4) (j := 9) (k := 10) (by kernel_rfl) rfl rfl rfl (fun K hK => ?_) (fun K hK => ?_) (fun K hK => ?_)
      · unfold St.v
        go_simp
        refine (do_world _ _ _ _ _ _ (HT.out.below (HBL.out.trans (S1.out.hb.mono HBL.out.size))) (HX.out _ S1.out.hb) HPI.out HSZ.out.1 HSZ.out.2).mono ?_
        rintro e x2 ⟨r', s', cs', rfl, o1, o2, b⟩
        refine hK.out _ _ (fun _ => b) ?_
        clear hK K
        rw [HRR.out] at o1 o2 ⊢
        rw [HEE.out]
        obtain ⟨A1, k1, rfl⟩ := o1.form
        obtain ⟨A2, k2, rfl⟩ := own_slice o2.own
        have S2 := Lib.hid (S1.out.did (Nat.le_trans HBL.out.size S1.out.hb.size) o1 o2 b)
        clear b S1 o1 o2
        unfold anV
        refine anyB_seg [5, 6, 7, 8] 5 rfl (by kernel_rfl) (by kernel_rfl) (by kernel_rfl) (fun _ _ d _ _ h => by cases d <;> exact h) ?_
        simp only [pickOps, List.getElem?_toArray, List.getElem?_cons_zero, List.getElem?_cons_succ]
        go_wp2_with fail
        refine ⟨rfl, by rfl, ?_⟩
        refine anyB_two (i := 9) (j := 10) (by kernel_rfl) rfl rfl (fun K hK => ?_) (fun K hK => ?_)
        · go_simp
          refine hK.out _ _ (fun _ => (boxed _ _)) ?_
          clear hK K
          have S3 := Lib.hid S2.out.f12
          obtain ⟨z12, hz⟩ : ∃ z, x2.heap.size = z := ⟨_, rfl⟩
          rw [hz] at S3 ⊢
          generalize World.alloc _ _ = x3 at S3 ⊢
          clear S2 hz
          refine anyB_one (i := 10) (by kernel_rfl) rfl (fun K hK => ?_)
          go_simp
          refine hK.out _ _ (fun _ => (boxed _ _)) ?_
          clear hK K
          have S4 := Lib.hid S3.out.f13
          obtain ⟨z13, hz⟩ : ∃ z, x3.heap.size = z := ⟨_, rfl⟩
          rw [hz] at S4 ⊢
          generalize World.alloc _ _ = x4 at S4 ⊢
          clear S3 hz
          obtain ⟨b12, l12⟩ := S4.out.b12 _ rfl
          obtain ⟨b13, l13⟩ := S4.out.b13 _ rfl
          have n12 : ¬ (z13 = z12) := b13.ne_ b12 (by decide)
          have f0 := b12.cell_ 0 _ rfl
          have f1 := b12.cell_ 1 _ rfl
          have f2 := b13.cell_ 0 _ rfl
          have f3 := b13.cell_ 1 _ rfl
          have f4 := b13.cell_ 2 _ rfl
          have ff := b12.frozen
          have fg := b13.frozen
          clear b12 b13 l12 l13
          refine anyB_one (i := 11) (by kernel_rfl) rfl (fun K hK => ?_)
          go_simp
          refine hK.out _ _ (fun h => absurd (by decide) h) ?_
          clear hK K
          refine anyB_one (i := 12) (by kernel_rfl) rfl (fun K hK => ?_)
          go_simp
          refine hK.out _ _ (fun h => absurd (by decide) h) ?_
          clear hK K
          refine anyB_seg [13] 0 rfl (by kernel_rfl) (by kernel_rfl) (by kernel_rfl) (fun _ _ d _ _ h => by cases d <;> exact h) ?_
          simp only [pickOps, List.getElem?_toArray, List.getElem?_cons_zero, List.getElem?_cons_succ]
          go_wp2_with fail
          refine ⟨rfl, by rfl, ?_⟩
          refine anyB_done (by kernel_rfl) ?_ _
          have FN := Lib.hid (S4.out.fin (a := ⟨aK, aT, aS⟩) rfl)
          clear f0 f1 f2 f3 f4 ff fg n12
          generalize World.setCell _ _ _ = x9 at FN ⊢
          go_wp2_with fail
          go_meet
          exact ⟨z12, z13, _, _, rfl, rfl, rfl, FN.out⟩
        · go_simp
          refine hK.out _ _ (fun _ => (boxed _ _)) ?_
          clear hK K
          have S3 := Lib.hid S2.out.f13
          obtain ⟨z13, hz⟩ : ∃ z, x2.heap.size = z := ⟨_, rfl⟩
          rw [hz] at S3 ⊢
          generalize World.alloc _ _ = x3 at S3 ⊢
          clear S2 hz
          refine anyB_one (i := 9) (by kernel_rfl) rfl (fun K hK => ?_)
          go_simp
          refine hK.out _ _ (fun _ => (boxed _ _)) ?_
          clear hK K
          have S4 := Lib.hid S3.out.f12
          obtain ⟨z12, hz⟩ : ∃ z, x3.heap.size = z := ⟨_, rfl⟩
          rw [hz] at S4 ⊢
          generalize World.alloc _ _ = x4 at S4 ⊢
          clear S3 hz
          obtain ⟨b12, l12⟩ := S4.out.b12 _ rfl
          obtain ⟨b13, l13⟩ := S4.out.b13 _ rfl
          have n12 : ¬ (z13 = z12) := b13.ne_ b12 (by decide)
          have f0 := b12.cell_ 0 _ rfl
          have f1 := b12.cell_ 1 _ rfl
          have f2 := b13.cell_ 0 _ rfl
          have f3 := b13.cell_ 1 _ rfl
          have f4 := b13.cell_ 2 _ rfl
          have ff := b12.frozen
          have fg := b13.frozen
          clear b12 b13 l12 l13
          refine anyB_one (i := 11) (by kernel_rfl) rfl (fun K hK => ?_)
          go_simp
          refine hK.out _ _ (fun h => absurd (by decide) h) ?_
          clear hK K
          refine anyB_one (i := 12) (by kernel_rfl) rfl (fun K hK => ?_)
          go_simp
          refine hK.out _ _ (fun h => absurd (by decide) h) ?_
          clear hK K
          refine anyB_seg [13] 0 rfl (by kernel_rfl) (by kernel_rfl) (by kernel_rfl) (fun _ _ d _ _ h => by cases d <;> exact h) ?_
          simp only [pickOps, List.getElem?_toArray, List.getElem?_cons_zero, List.getElem?_cons_succ]
          go_wp2_with fail
          refine ⟨rfl, by rfl, ?_⟩
          refine anyB_done (by kernel_rfl) ?_ _
          have FN := Lib.hid (S4.out.fin (a := ⟨aK, aT, aS⟩) rfl)
          clear f0 f1 f2 f3 f4 ff fg n12
          generalize World.setCell _ _ _ = x9 at FN ⊢
          go_wp2_with fail
          go_meet
          exact ⟨z12, z13, _, _, rfl, rfl, rfl, FN.out⟩
      · go_simp
        refine hK.out _ _ (fun _ => (boxed _ _)) ?_
        clear hK K
        have S2 := Lib.hid S1.out.f12
        obtain ⟨z12, hz⟩ : ∃ z, x1.heap.size = z := ⟨_, rfl⟩
        rw [hz] at S2 ⊢
        generalize World.alloc _ _ = x2 at S2 ⊢
        clear S1 hz
        refine anyB_two (i := 4) (j := 10) (by kernel_rfl) rfl rfl (fun K hK => ?_) (fun K hK => ?_)
        · unfold St.v
          go_simp
          refine (do_world _ _ _ _ _ _ (HT.out.below (HBL.out.trans (S2.out.hb.mono HBL.out.size))) (HX.out _ S2.out.hb) HPI.out HSZ.out.1 HSZ.out.2).mono ?_
          rintro e x3 ⟨r', s', cs', rfl, o1, o2, b⟩
          refine hK.out _ _ (fun _ => b) ?_
          clear hK K
          rw [HRR.out] at o1 o2 ⊢
          rw [HEE.out]
          obtain ⟨A1, k1, rfl⟩ := o1.form
          obtain ⟨A2, k2, rfl⟩ := own_slice o2.own
          have S3 := Lib.hid (S2.out.did (Nat.le_trans HBL.out.size S2.out.hb.size) o1 o2 b)
          clear b S2 o1 o2
          unfold anV
          refine anyB_seg [5, 6, 7, 8] 4 rfl (by kernel_rfl) (by kernel_rfl) (by kernel_rfl) (fun _ _ d _ _ h => by cases d <;> exact h) ?_
          simp only [pickOps, List.getElem?_toArray, List.getElem?_cons_zero, List.getElem?_cons_succ]
          go_wp2_with fail
          refine ⟨rfl, by rfl, ?_⟩
          refine anyB_one (i := 10) (by kernel_rfl) rfl (fun K hK => ?_)
          go_simp
          refine hK.out _ _ (fun _ => (boxed _ _)) ?_
          clear hK K
          have S4 := Lib.hid S3.out.f13
          obtain ⟨z13, hz⟩ : ∃ z, x3.heap.size = z := ⟨_, rfl⟩
          rw [hz] at S4 ⊢
          generalize World.alloc _ _ = x4 at S4 ⊢
          clear S3 hz
          obtain ⟨b12, l12⟩ := S4.out.b12 _ rfl
          obtain ⟨b13, l13⟩ := S4.out.b13 _ rfl
          have n12 : ¬ (z13 = z12) := b13.ne_ b12 (by decide)
          have f0 := b12.cell_ 0 _ rfl
          have f1 := b12.cell_ 1 _ rfl
          have f2 := b13.cell_ 0 _ rfl
          have f3 := b13.cell_ 1 _ rfl
          have f4 := b13.cell_ 2 _ rfl
          have ff := b12.frozen
          have fg := b13.frozen
          clear b12 b13 l12 l13
          refine anyB_one (i := 11) (by kernel_rfl) rfl (fun K hK => ?_)
          go_simp
          refine hK.out _ _ (fun h => absurd (by decide) h) ?_
          clear hK K
          refine anyB_one (i := 12) (by kernel_rfl) rfl (fun K hK => ?_)
          go_simp
          refine hK.out _ _ (fun h => absurd (by decide) h) ?_
          clear hK K
          refine anyB_seg [13] 0 rfl (by kernel_rfl) (by kernel_rfl) (by kernel_rfl) (fun _ _ d _ _ h => by cases d <;> exact h) ?_
          simp only [pickOps, List.getElem?_toArray, List.getElem?_cons_zero, List.getElem?_cons_succ]
          go_wp2_with fail
          refine ⟨rfl, by rfl, ?_⟩
          refine anyB_done (by kernel_rfl) ?_ _
          have FN := Lib.hid (S4.out.fin (a := ⟨aK, aT, aS⟩) rfl)
          clear f0 f1 f2 f3 f4 ff fg n12
          generalize World.setCell _ _ _ = x9 at FN ⊢
          go_wp2_with fail
          go_meet
          exact ⟨z12, z13, _, _, rfl, rfl, rfl, FN.out⟩
        · go_simp
          refine hK.out _ _ (fun _ => (boxed _ _)) ?_
          clear hK K
          have S3 := Lib.hid S2.out.f13
          obtain ⟨z13, hz⟩ : ∃ z, x2.heap.size = z := ⟨_, rfl⟩
          rw [hz] at S3 ⊢
          generalize World.alloc _ _ = x3 at S3 ⊢
          clear S2 hz
          refine anyB_one (i := 4) (by kernel_rfl) rfl (fun K hK => ?_)
          unfold St.v
          go_simp
          refine (do_world _ _ _ _ _ _ (HT.out.below (HBL.out.trans (S3.out.hb.mono HBL.out.size))) (HX.out _ S3.out.hb) HPI.out HSZ.out.1 HSZ.out.2).mono ?_
          rintro e x4 ⟨r', s', cs', rfl, o1, o2, b⟩
          refine hK.out _ _ (fun _ => b) ?_
          clear hK K
          rw [HRR.out] at o1 o2 ⊢
          rw [HEE.out]
          obtain ⟨A1, k1, rfl⟩ := o1.form
          obtain ⟨A2, k2, rfl⟩ := own_slice o2.own
          have S4 := Lib.hid (S3.out.did (Nat.le_trans HBL.out.size S3.out.hb.size) o1 o2 b)
          clear b S3 o1 o2
          unfold anV
          refine anyB_seg [5, 6, 7, 8] 3 rfl (by kernel_rfl) (by kernel_rfl) (by kernel_rfl) (fun _ _ d _ _ h => by cases d <;> exact h) ?_
          simp only [pickOps, List.getElem?_toArray, List.getElem?_cons_zero, List.getElem?_cons_succ]
          go_wp2_with fail
          refine ⟨rfl, by rfl, ?_⟩
          obtain ⟨b12, l12⟩ := S4.out.b12 _ rfl
          obtain ⟨b13, l13⟩ := S4.out.b13 _ rfl
          have n12 : ¬ (z13 = z12) := b13.ne_ b12 (by decide)
          have f0 := b12.cell_ 0 _ rfl
          have f1 := b12.cell_ 1 _ rfl
          have f2 := b13.cell_ 0 _ rfl
          have f3 := b13.cell_ 1 _ rfl
          have f4 := b13.cell_ 2 _ rfl
          have ff := b12.frozen
          have fg := b13.frozen
          clear b12 b13 l12 l13
          refine anyB_one (i := 11) (by kernel_rfl) rfl (fun K hK => ?_)
          go_simp
          refine hK.out _ _ (fun h => absurd (by decide) h) ?_
          clear hK K
          refine anyB_one (i := 12) (by kernel_rfl) rfl (fun K hK => ?_)
          go_simp
          refine hK.out _ _ (fun h => absurd (by decide) h) ?_
          clear hK K
          refine anyB_seg [13] 0 rfl (by kernel_rfl) (by kernel_rfl) (by kernel_rfl) (fun _ _ d _ _ h => by cases d <;> exact h) ?_
          simp only [pickOps, List.getElem?_toArray, List.getElem?_cons_zero, List.getElem?_cons_succ]
          go_wp2_with fail
          refine ⟨rfl, by rfl, ?_⟩
          refine anyB_done (by kernel_rfl) ?_ _
          have FN := Lib.hid (S4.out.fin (a := ⟨aK, aT, aS⟩) rfl)
          clear f0 f1 f2 f3 f4 ff fg n12
          generalize World.setCell _ _ _ = x9 at FN ⊢
          go_wp2_with fail
          go_meet
          exact ⟨z12, z13, _, _, rfl, rfl, rfl, FN.out⟩
      · go_simp
        refine hK.out _ _ (fun _ => (boxed _ _)) ?_
        clear hK K
        have S2 := Lib.hid S1.out.f13
        obtain ⟨z13, hz⟩ : ∃ z, x1.heap.size = z := ⟨_, rfl⟩
        rw [hz] at S2 ⊢
        generalize World.alloc _ _ = x2 at S2 ⊢
        clear S1 hz
        refine anyB_two (i := 4) (j := 9) (by kernel_rfl) rfl rfl (fun K hK => ?_) (fun K hK => ?_)
        · unfold St.v
          go_simp
          refine (do_world _ _ _ _ _ _ (HT.out.below (HBL.out.trans (S2.out.hb.mono HBL.out.size))) (HX.out _ S2.out.hb) HPI.out HSZ.out.1 HSZ.out.2).mono ?_
          rintro e x3 ⟨r', s', cs', rfl, o1, o2, b⟩
          refine hK.out _ _ (fun _ => b) ?_
          clear hK K
          rw [HRR.out] at o1 o2 ⊢
          rw [HEE.out]
          obtain ⟨A1, k1, rfl⟩ := o1.form
          obtain ⟨A2, k2, rfl⟩ := own_slice o2.own
          have S3 := Lib.hid (S2.out.did (Nat.le_trans HBL.out.size S2.out.hb.size) o1 o2 b)
          clear b S2 o1 o2
          unfold anV
          refine anyB_seg [5, 6, 7, 8] 4 rfl (by kernel_rfl) (by kernel_rfl) (by kernel_rfl) (fun _ _ d _ _ h => by cases d <;> exact h) ?_
          simp only [pickOps, List.getElem?_toArray, List.getElem?_cons_zero, List.getElem?_cons_succ]
          go_wp2_with fail
          refine ⟨rfl, by rfl, ?_⟩
          refine anyB_one (i := 9) (by kernel_rfl) rfl (fun K hK => ?_)
          go_simp
          refine hK.out _ _ (fun _ => (boxed _ _)) ?_
          clear hK K
          have S4 := Lib.hid S3.out.f12
          obtain ⟨z12, hz⟩ : ∃ z, x3.heap.size = z := ⟨_, rfl⟩
          rw [hz] at S4 ⊢
          generalize World.alloc _ _ = x4 at S4 ⊢
          clear S3 hz
          obtain ⟨b12, l12⟩ := S4.out.b12 _ rfl
          obtain ⟨b13, l13⟩ := S4.out.b13 _ rfl
          have n12 : ¬ (z13 = z12) := b13.ne_ b12 (by decide)
          have f0 := b12.cell_ 0 _ rfl
          have f1 := b12.cell_ 1 _ rfl
          have f2 := b13.cell_ 0 _ rfl
          have f3 := b13.cell_ 1 _ rfl
          have f4 := b13.cell_ 2 _ rfl
          have ff := b12.frozen
          have fg := b13.frozen
          clear b12 b13 l12 l13
          refine anyB_one (i := 11) (by kernel_rfl) rfl (fun K hK => ?_)
          go_simp
          refine hK.out _ _ (fun h => absurd (by decide) h) ?_
          clear hK K
          refine anyB_one (i := 12) (by kernel_rfl) rfl (fun K hK => ?_)
          go_simp
          refine hK.out _ _ (fun h => absurd (by decide) h) ?_
          clear hK K
          refine anyB_seg [13] 0 rfl (by kernel_rfl) (by kernel_rfl) (by kernel_rfl) (fun _ _ d _ _ h => by cases d <;> exact h) ?_
          simp only [pickOps, List.getElem?_toArray, List.getElem?_cons_zero, List.getElem?_cons_succ]
          go_wp2_with fail
          refine ⟨rfl, by rfl, ?_⟩
          refine anyB_done (by kernel_rfl) ?_ _
          have FN := Lib.hid (S4.out.fin (a := ⟨aK, aT, aS⟩) rfl)
          clear f0 f1 f2 f3 f4 ff fg n12
          generalize World.setCell _ _ _ = x9 at FN ⊢
          go_wp2_with fail
          go_meet
          exact ⟨z12, z13, _, _, rfl, rfl, rfl, FN.out⟩
        · go_simp
          refine hK.out _ _ (fun _ => (boxed _ _)) ?_
          clear hK K
          have S3 := Lib.hid S2.out.f12
          obtain ⟨z12, hz⟩ : ∃ z, x2.heap.size = z := ⟨_, rfl⟩
          rw [hz] at S3 ⊢
          generalize World.alloc _ _ = x3 at S3 ⊢
          clear S2 hz
          refine anyB_one (i := 4) (by kernel_rfl) rfl (fun K hK => ?_)
          unfold St.v
          go_simp
          refine (do_world _ _ _ _ _ _ (HT.out.below (HBL.out.trans (S3.out.hb.mono HBL.out.size))) (HX.out _ S3.out.hb) HPI.out HSZ.out.1 HSZ.out.2).mono ?_
          rintro e x4 ⟨r', s', cs', rfl, o1, o2, b⟩
          refine hK.out _ _ (fun _ => b) ?_
          clear hK K
          rw [HRR.out] at o1 o2 ⊢
          rw [HEE.out]
          obtain ⟨A1, k1, rfl⟩ := o1.form
          obtain ⟨A2, k2, rfl⟩ := own_slice o2.own
          have S4 := Lib.hid (S3.out.did (Nat.le_trans HBL.out.size S3.out.hb.size) o1 o2 b)
          clear b S3 o1 o2
          unfold anV
          refine anyB_seg [5, 6, 7, 8] 3 rfl (by kernel_rfl) (by kernel_rfl) (by kernel_rfl) (fun _ _ d _ _ h => by cases d <;> exact h) ?_
          simp only [pickOps, List.getElem?_toArray, List.getElem?_cons_zero, List.getElem?_cons_succ]
          go_wp2_with fail
          refine ⟨rfl, by rfl, ?_⟩
          obtain ⟨b12, l12⟩ := S4.out.b12 _ rfl
          obtain ⟨b13, l13⟩ := S4.out.b13 _ rfl
          have n12 : ¬ (z13 = z12) := b13.ne_ b12 (by decide)
          have f0 := b12.cell_ 0 _ rfl
          have f1 := b12.cell_ 1 _ rfl
          have f2 := b13.cell_ 0 _ rfl
          have f3 := b13.cell_ 1 _ rfl
          have f4 := b13.cell_ 2 _ rfl
          have ff := b12.frozen
          have fg := b13.frozen
          clear b12 b13 l12 l13
          refine anyB_one (i := 11) (by kernel_rfl) rfl (fun K hK => ?_)
          go_simp
          refine hK.out _ _ (fun h => absurd (by decide) h) ?_
          clear hK K
          refine anyB_one (i := 12) (by kernel_rfl) rfl (fun K hK => ?_)
          go_simp
          refine hK.out _ _ (fun h => absurd (by decide) h) ?_
          clear hK K
          refine anyB_seg [13] 0 rfl (by kernel_rfl) (by kernel_rfl) (by kernel_rfl) (fun _ _ d _ _ h => by cases d <;> exact h) ?_
          simp only [pickOps, List.getElem?_toArray, List.getElem?_cons_zero, List.getElem?_cons_succ]
          go_wp2_with fail
          refine ⟨rfl, by rfl, ?_⟩
          refine anyB_done (by kernel_rfl) ?_ _
          have FN := Lib.hid (S4.out.fin (a := ⟨aK, aT, aS⟩) rfl)
          clear f0 f1 f2 f3 f4 ff fg n12
          generalize World.setCell _ _ _ = x9 at FN ⊢
          go_wp2_with fail
          go_meet
          exact ⟨z12, z13, _, _, rfl, rfl, rfl, FN.out⟩
    · go_simp
      refine hK.out _ _ (fun _ => (boxed _ _)) ?_
      clear hK K
      have S1 := Lib.hid S0.out.f12
      obtain ⟨z12, hz⟩ : ∃ z, x0.heap.size = z := ⟨_, rfl⟩
      rw [hz] at S1 ⊢
      generalize World.alloc _ _ = x1 at S1 ⊢
      clear S0 hz
      refine anyB_two (i := 3) (j := 10) (by kernel_rfl) rfl rfl (fun K hK => ?_) (fun K hK => ?_)
      · go_simp
        refine (stmt_any _ _ _ _ HWF.out.k HWF.out.a HWF.out.b HWF.out.c _).mono ?_
        rintro e x2 ⟨rfl, b⟩
        refine hK.out _ _ (fun _ => b) ?_
        clear hK K
        have S2 := Lib.hid (S1.out.keep b)
        clear b S1
        refine anyB_two (i := 4) (j := 10) (by kernel_rfl) rfl rfl (fun K hK => ?_) (fun K hK => ?_)
        · unfold St.v
          go_simp
          refine (do_world _ _ _ _ _ _ (HT.out.below (HBL.out.trans (S2.out.hb.mono HBL.out.size))) (HX.out _ S2.out.hb) HPI.out HSZ.out.1 HSZ.out.2).mono ?_
          rintro e x3 ⟨r', s', cs', rfl, o1, o2, b⟩
          refine hK.out _ _ (fun _ => b) ?_
          clear hK K
          rw [HRR.out] at o1 o2 ⊢
          rw [HEE.out]
          obtain ⟨A1, k1, rfl⟩ := o1.form
          obtain ⟨A2, k2, rfl⟩ := own_slice o2.own
          have S3 := Lib.hid (S2.out.did (Nat.le_trans HBL.out.size S2.out.hb.size) o1 o2 b)
          clear b S2 o1 o2
          unfold anV
          refine anyB_seg [5, 6, 7, 8] 4 rfl (by kernel_rfl) (by kernel_rfl) (by kernel_rfl) (fun _ _ d _ _ h => by cases d <;> exact h) ?_
          simp only [pickOps, List.getElem?_toArray, List.getElem?_cons_zero, List.getElem?_cons_succ]
          go_wp2_with fail
          refine ⟨rfl, by rfl, ?_⟩
          refine anyB_one (i := 10) (by kernel_rfl) rfl (fun K hK => ?_)
          go_simp
          refine hK.out _ _ (fun _ => (boxed _ _)) ?_
          clear hK K
          have S4 := Lib.hid S3.out.f13
          obtain ⟨z13, hz⟩ : ∃ z, x3.heap.size = z := ⟨_, rfl⟩
          rw [hz] at S4 ⊢
          generalize World.alloc _ _ = x4 at S4 ⊢
          clear S3 hz
          obtain ⟨b12, l12⟩ := S4.out.b12 _ rfl
          obtain ⟨b13, l13⟩ := S4.out.b13 _ rfl
          have n12 : ¬ (z13 = z12) := b13.ne_ b12 (by decide)
          have f0 := b12.cell_ 0 _ rfl
          have f1 := b12.cell_ 1 _ rfl
          have f2 := b13.cell_ 0 _ rfl
          have f3 := b13.cell_ 1 _ rfl
          have f4 := b13.cell_ 2 _ rfl
          have ff := b12.frozen
          have fg := b13.frozen
          clear b12 b13 l12 l13
          refine anyB_one (i := 11) (by kernel_rfl) rfl (fun K hK => ?_)
          go_simp
          refine hK.out _ _ (fun h => absurd (by decide) h) ?_
          clear hK K
          refine anyB_one (i := 12) (by kernel_rfl) rfl (fun K hK => ?_)
          go_simp
          refine hK.out _ _ (fun h => absurd (by decide) h) ?_
          clear hK K
          refine anyB_seg [13] 0 rfl (by kernel_rfl) (by kernel_rfl) (by kernel_rfl) (fun _ _ d _ _ h => by cases d <;> exact h) ?_
          simp only [pickOps, List.getElem?_toArray, List.getElem?_cons_zero, List.getElem?_cons_succ]
          go_wp2_with fail
          refine ⟨rfl, by rfl, ?_⟩
          refine anyB_done (by kernel_rfl) ?_ _
          have FN := Lib.hid (S4.out.fin (a := ⟨aK, aT, aS⟩) rfl)
          clear f0 f1 f2 f3 f4 ff fg n12
          generalize World.setCell _ _ _ = x9 at FN ⊢
          go_wp2_with fail
          go_meet
          exact ⟨z12, z13, _, _, rfl, rfl, rfl, FN.out⟩
        · go_simp
          refine hK.out _ _ (fun _ => (boxed _ _)) ?_
          clear hK K
          have S3 := Lib.hid S2.out.f13
          obtain ⟨z13, hz⟩ : ∃ z, x2.heap.size = z := ⟨_, rfl⟩
          rw [hz] at S3 ⊢
          generalize World.alloc _ _ = x3 at S3 ⊢
          clear S2 hz
          refine anyB_one (i := 4) (by kernel_rfl) rfl (fun K hK => ?_)
          unfold St.v
          go_simp
          refine (do_world _ _ _ _ _ _ (HT.out.below (HBL.out.trans (S3.out.hb.mono HBL.out.size))) (HX.out _ S3.out.hb) HPI.out HSZ.out.1 HSZ.out.2).mono ?_
          rintro e x4 ⟨r', s', cs', rfl, o1, o2, b⟩
          refine hK.out _ _ (fun _ => b) ?_
          clear hK K
          rw [HRR.out] at o1 o2 ⊢
          rw [HEE.out]
          obtain ⟨A1, k1, rfl⟩ := o1.form
          obtain ⟨A2, k2, rfl⟩ := own_slice o2.own
          have S4 := Lib.hid (S3.out.did (Nat.le_trans HBL.out.size S3.out.hb.size) o1 o2 b)
          clear b S3 o1 o2
          unfold anV
          refine anyB_seg [5, 6, 7, 8] 3 rfl (by kernel_rfl) (by kernel_rfl) (by kernel_rfl) (fun _ _ d _ _ h => by cases d <;> exact h) ?_
          simp only [pickOps, List.getElem?_toArray, List.getElem?_cons_zero, List.getElem?_cons_succ]
          go_wp2_with fail
          refine ⟨rfl, by rfl, ?_⟩
          obtain ⟨b12, l12⟩ := S4.out.b12 _ rfl
          obtain ⟨b13, l13⟩ := S4.out.b13 _ rfl
          have n12 : ¬ (z13 = z12) := b13.ne_ b12 (by decide)
          have f0 := b12.cell_ 0 _ rfl
          have f1 := b12.cell_ 1 _ rfl
          have f2 := b13.cell_ 0 _ rfl
          have f3 := b13.cell_ 1 _ rfl
          have f4 := b13.cell_ 2 _ rfl
          have ff := b12.frozen
          have fg := b13.frozen
          clear b12 b13 l12 l13
          refine anyB_one (i := 11) (by kernel_rfl) rfl (fun K hK => ?_)
          go_simp
          refine hK.out _ _ (fun h => absurd (by decide) h) ?_
          clear hK K
          refine anyB_one (i := 12) (by kernel_rfl) rfl (fun K hK => ?_)
          go_simp
          refine hK.out _ _ (fun h => absurd (by decide) h) ?_
          clear hK K
          refine anyB_seg [13] 0 rfl (by kernel_rfl) (by kernel_rfl) (by kernel_rfl) (fun _ _ d _ _ h => by cases d <;> exact h) ?_
          simp only [pickOps, List.getElem?_toArray, List.getElem?_cons_zero, List.getElem?_cons_succ]
          go_wp2_with fail
          refine ⟨rfl, by rfl, ?_⟩
          refine anyB_done (by kernel_rfl) ?_ _
          have FN := Lib.hid (S4.out.fin (a := ⟨aK, aT, aS⟩) rfl)
          clear f0 f1 f2 f3 f4 ff fg n12
          generalize World.setCell _ _ _ = x9 at FN ⊢
          go_wp2_with fail
          go_meet
          exact ⟨z12, z13, _, _, rfl, rfl, rfl, FN.out⟩
      · go_simp
        refine hK.out _ _ (fun _ => (boxed _ _)) ?_
        clear hK K
        have S2 := Lib.hid S1.out.f13
        obtain ⟨z13, hz⟩ : ∃ z, x1.heap.size = z := ⟨_, rfl⟩
        rw [hz] at S2 ⊢
        generalize World.alloc _ _ = x2 at S2 ⊢
        clear S1 hz
        refine anyB_one (i := 3) (by kernel_rfl) rfl (fun K hK => ?_)
        go_simp
        refine (stmt_any _ _ _ _ HWF.out.k HWF.out.a HWF.out.b HWF.out.c _).mono ?_
        rintro e x3 ⟨rfl, b⟩
        refine hK.out _ _ (fun _ => b) ?_
        clear hK K
        have S3 := Lib.hid (S2.out.keep b)
        clear b S2
        refine anyB_one (i := 4) (by kernel_rfl) rfl (fun K hK => ?_)
        unfold St.v
        go_simp
        refine (do_world _ _ _ _ _ _ (HT.out.below (HBL.out.trans (S3.out.hb.mono HBL.out.size))) (HX.out _ S3.out.hb) HPI.out HSZ.out.1 HSZ.out.2).mono ?_
        rintro e x4 ⟨r', s', cs', rfl, o1, o2, b⟩
        refine hK.out _ _ (fun _ => b) ?_
        clear hK K
        rw [HRR.out] at o1 o2 ⊢
        rw [HEE.out]
        obtain ⟨A1, k1, rfl⟩ := o1.form
        obtain ⟨A2, k2, rfl⟩ := own_slice o2.own
        have S4 := Lib.hid (S3.out.did (Nat.le_trans HBL.out.size S3.out.hb.size) o1 o2 b)
        clear b S3 o1 o2
        unfold anV
        refine anyB_seg [5, 6, 7, 8] 3 rfl (by kernel_rfl) (by kernel_rfl) (by kernel_rfl) (fun _ _ d _ _ h => by cases d <;> exact h) ?_
        simp only [pickOps, List.getElem?_toArray, List.getElem?_cons_zero, List.getElem?_cons_succ]
        go_wp2_with fail
        refine ⟨rfl, by rfl, ?_⟩
        obtain ⟨b12, l12⟩ := S4.out.b12 _ rfl
        obtain ⟨b13, l13⟩ := S4.out.b13 _ rfl
        have n12 : ¬ (z13 = z12) := b13.ne_ b12 (by decide)
        have f0 := b12.cell_ 0 _ rfl
        have f1 := b12.cell_ 1 _ rfl
        have f2 := b13.cell_ 0 _ rfl
        have f3 := b13.cell_ 1 _ rfl
        have f4 := b13.cell_ 2 _ rfl
        have ff := b12.frozen
        have fg := b13.frozen
        clear b12 b13 l12 l13
        refine anyB_one (i := 11) (by kernel_rfl) rfl (fun K hK => ?_)
        go_simp
        refine hK.out _ _ (fun h => absurd (by decide) h) ?_
        clear hK K
        refine anyB_one (i := 12) (by kernel_rfl) rfl (fun K hK => ?_)
        go_simp
        refine hK.out _ _ (fun h => absurd (by decide) h) ?_
        clear hK K
        refine anyB_seg [13] 0 rfl (by kernel_rfl) (by kernel_rfl) (by kernel_rfl) (fun _ _ d _ _ h => by cases d <;> exact h) ?_
        simp only [pickOps, List.getElem?_toArray, List.getElem?_cons_zero, List.getElem?_cons_succ]
        go_wp2_with fail
        refine ⟨rfl, by rfl, ?_⟩
        refine anyB_done (by kernel_rfl) ?_ _
        have FN := Lib.hid (S4.out.fin (a := ⟨aK, aT, aS⟩) rfl)
        clear f0 f1 f2 f3 f4 ff fg n12
        generalize World.setCell _ _ _ = x9 at FN ⊢
        go_wp2_with fail
        go_meet
        exact ⟨z12, z13, _, _, rfl, rfl, rfl, FN.out⟩
    · go_simp
      refine hK.out _ _ (fun _ => (boxed _ _)) ?_
      clear hK K
      have S1 := Lib.hid S0.out.f13
      obtain ⟨z13, hz⟩ : ∃ z, x0.heap.size = z := ⟨_, rfl⟩
      rw [hz] at S1 ⊢
      generalize World.alloc _ _ = x1 at S1 ⊢
      clear S0 hz
      refine anyB_two (i := 3) (j := 9) (by kernel_rfl) rfl rfl (fun K hK => ?_) (fun K hK => ?_)
      · go_simp
        refine (stmt_any _ _ _ _ HWF.out.k HWF.out.a HWF.out.b HWF.out.c _).mono ?_
        rintro e x2 ⟨rfl, b⟩
        refine hK.out _ _ (fun _ => b) ?_
        clear hK K
        have S2 := Lib.hid (S1.out.keep b)
        clear b S1
        refine anyB_two (i := 4) (j := 9) (by kernel_rfl) rfl rfl (fun K hK => ?_) (fun K hK => ?_)
        · unfold St.v
          go_simp
          refine (do_world _ _ _ _ _ _ (HT.out.below (HBL.out.trans (S2.out.hb.mono HBL.out.size))) (HX.out _ S2.out.hb) HPI.out HSZ.out.1 HSZ.out.2).mono ?_
          rintro e x3 ⟨r', s', cs', rfl, o1, o2, b⟩
          refine hK.out _ _ (fun _ => b) ?_
          clear hK K
          rw [HRR.out] at o1 o2 ⊢
          rw [HEE.out]
          obtain ⟨A1, k1, rfl⟩ := o1.form
          obtain ⟨A2, k2, rfl⟩ := own_slice o2.own
          have S3 := Lib.hid (S2.out.did (Nat.le_trans HBL.out.size S2.out.hb.size) o1 o2 b)
          clear b S2 o1 o2
          unfold anV
          refine anyB_seg [5, 6, 7, 8] 4 rfl (by kernel_rfl) (by kernel_rfl) (by kernel_rfl) (fun _ _ d _ _ h => by cases d <;> exact h) ?_
          simp only [pickOps, List.getElem?_toArray, List.getElem?_cons_zero, List.getElem?_cons_succ]
          go_wp2_with fail
          refine ⟨rfl, by rfl, ?_⟩
          refine anyB_one (i := 9) (by kernel_rfl) rfl (fun K hK => ?_)
          go_simp
          refine hK.out _ _ (fun _ => (boxed _ _)) ?_
          clear hK K
          have S4 := Lib.hid S3.out.f12
          obtain ⟨z12, hz⟩ : ∃ z, x3.heap.size = z := ⟨_, rfl⟩
          rw [hz] at S4 ⊢
          generalize World.alloc _ _ = x4 at S4 ⊢
          clear S3 hz
          obtain ⟨b12, l12⟩ := S4.out.b12 _ rfl
          obtain ⟨b13, l13⟩ := S4.out.b13 _ rfl
          have n12 : ¬ (z13 = z12) := b13.ne_ b12 (by decide)
          have f0 := b12.cell_ 0 _ rfl
          have f1 := b12.cell_ 1 _ rfl
          have f2 := b13.cell_ 0 _ rfl
          have f3 := b13.cell_ 1 _ rfl
          have f4 := b13.cell_ 2 _ rfl
          have ff := b12.frozen
          have fg := b13.frozen
          clear b12 b13 l12 l13
          refine anyB_one (i := 11) (by kernel_rfl) rfl (fun K hK => ?_)
          go_simp
          refine hK.out _ _ (fun h => absurd (by decide) h) ?_
          clear hK K
          refine anyB_one (i := 12) (by kernel_rfl) rfl (fun K hK => ?_)
          go_simp
          refine hK.out _ _ (fun h => absurd (by decide) h) ?_
          clear hK K
          refine anyB_seg [13] 0 rfl (by kernel_rfl) (by kernel_rfl) (by kernel_rfl) (fun _ _ d _ _ h => by cases d <;> exact h) ?_
          simp only [pickOps, List.getElem?_toArray, List.getElem?_cons_zero, List.getElem?_cons_succ]
          go_wp2_with fail
          refine ⟨rfl, by rfl, ?_⟩
          refine anyB_done (by kernel_rfl) ?_ _
          have FN := Lib.hid (S4.out.fin (a := ⟨aK, aT, aS⟩) rfl)
          clear f0 f1 f2 f3 f4 ff fg n12
          generalize World.setCell _ _ _ = x9 at FN ⊢
          go_wp2_with fail
          go_meet
          exact ⟨z12, z13, _, _, rfl, rfl, rfl, FN.out⟩
        · go_simp
          refine hK.out _ _ (fun _ => (boxed _ _)) ?_
          clear hK K
          have S3 := Lib.hid S2.out.f12
          obtain ⟨z12, hz⟩ : ∃ z, x2.heap.size = z := ⟨_, rfl⟩
          rw [hz] at S3 ⊢
          generalize World.alloc _ _ = x3 at S3 ⊢
          clear S2 hz
          refine anyB_one (i := 4) (by kernel_rfl) rfl (fun K hK => ?_)
          unfold St.v
          go_simp
          refine (do_world _ _ _ _ _ _ (HT.out.below (HBL.out.trans (S3.out.hb.mono HBL.out.size))) (HX.out _ S3.out.hb) HPI.out HSZ.out.1 HSZ.out.2).mono ?_
          rintro e x4 ⟨r', s', cs', rfl, o1, o2, b⟩
          refine hK.out _ _ (fun _ => b) ?_
          clear hK K
          rw [HRR.out] at o1 o2 ⊢
          rw [HEE.out]
          obtain ⟨A1, k1, rfl⟩ := o1.form
          obtain ⟨A2, k2, rfl⟩ := own_slice o2.own
          have S4 := Lib.hid (S3.out.did (Nat.le_trans HBL.out.size S3.out.hb.size) o1 o2 b)
          clear b S3 o1 o2
          unfold anV
          refine anyB_seg [5, 6, 7, 8] 3 rfl (by kernel_rfl) (by kernel_rfl) (by kernel_rfl) (fun _ _ d _ _ h => by cases d <;> exact h) ?_
          simp only [pickOps, List.getElem?_toArray, List.getElem?_cons_zero, List.getElem?_cons_succ]
          go_wp2_with fail
          refine ⟨rfl, by rfl, ?_⟩
          obtain ⟨b12, l12⟩ := S4.out.b12 _ rfl
          obtain ⟨b13, l13⟩ := S4.out.b13 _ rfl
          have n12 : ¬ (z13 = z12) := b13.ne_ b12 (by decide)
          have f0 := b12.cell_ 0 _ rfl
          have f1 := b12.cell_ 1 _ rfl
          have f2 := b13.cell_ 0 _ rfl
          have f3 := b13.cell_ 1 _ rfl
          have f4 := b13.cell_ 2 _ rfl
          have ff := b12.frozen
          have fg := b13.frozen
          clear b12 b13 l12 l13
          refine anyB_one (i := 11) (by kernel_rfl) rfl (fun K hK => ?_)
          go_simp
          refine hK.out _ _ (fun h => absurd (by decide) h) ?_
          clear hK K
          refine anyB_one (i := 12) (by kernel_rfl) rfl (fun K hK => ?_)
          go_simp
          refine hK.out _ _ (fun h => absurd (by decide) h) ?_
          clear hK K
          refine anyB_seg [13] 0 rfl (by kernel_rfl) (by kernel_rfl) (by kernel_rfl) (fun _ _ d _ _ h => by cases d <;> exact h) ?_
          simp only [pickOps, List.getElem?_toArray, List.getElem?_cons_zero, List.getElem?_cons_succ]
          go_wp2_with fail
          refine ⟨rfl, by rfl, ?_⟩
          refine anyB_done (by kernel_rfl) ?_ _
          have FN := Lib.hid (S4.out.fin (a := ⟨aK, aT, aS⟩) rfl)
          clear f0 f1 f2 f3 f4 ff fg n12
          generalize World.setCell _ _ _ = x9 at FN ⊢
          go_wp2_with fail
          go_meet
          exact ⟨z12, z13, _, _, rfl, rfl, rfl, FN.out⟩
      · go_simp
        refine hK.out _ _ (fun _ => (boxed _ _)) ?_
        clear hK K
        have S2 := Lib.hid S1.out.f12
        obtain ⟨z12, hz⟩ : ∃ z, x1.heap.size = z := ⟨_, rfl⟩
        rw [hz] at S2 ⊢
        generalize World.alloc _ _ = x2 at S2 ⊢
        clear S1 hz
        refine anyB_one (i := 3) (by kernel_rfl) rfl (fun K hK => ?_)
        go_simp
        refine (stmt_any _ _ _ _ HWF.out.k HWF.out.a HWF.out.b HWF.out.c _).mono ?_
        rintro e x3 ⟨rfl, b⟩
        refine hK.out _ _ (fun _ => b) ?_
        clear hK K
        have S3 := Lib.hid (S2.out.keep b)
        clear b S2
        refine anyB_one (i := 4) (by kernel_rfl) rfl (fun K hK => ?_)
        unfold St.v
        go_simp
        refine (do_world _ _ _ _ _ _ (HT.out.below (HBL.out.trans (S3.out.hb.mono HBL.out.size))) (HX.out _ S3.out.hb) HPI.out HSZ.out.1 HSZ.out.2).mono ?_
        rintro e x4 ⟨r', s', cs', rfl, o1, o2, b⟩
        refine hK.out _ _ (fun _ => b) ?_
        clear hK K
        rw [HRR.out] at o1 o2 ⊢
        rw [HEE.out]
        obtain ⟨A1, k1, rfl⟩ := o1.form
        obtain ⟨A2, k2, rfl⟩ := own_slice o2.own
        have S4 := Lib.hid (S3.out.did (Nat.le_trans HBL.out.size S3.out.hb.size) o1 o2 b)
        clear b S3 o1 o2
        unfold anV
        refine anyB_seg [5, 6, 7, 8] 3 rfl (by kernel_rfl) (by kernel_rfl) (by kernel_rfl) (fun _ _ d _ _ h => by cases d <;> exact h) ?_
        simp only [pickOps, List.getElem?_toArray, List.getElem?_cons_zero, List.getElem?_cons_succ]
        go_wp2_with fail
        refine ⟨rfl, by rfl, ?_⟩
        obtain ⟨b12, l12⟩ := S4.out.b12 _ rfl
        obtain ⟨b13, l13⟩ := S4.out.b13 _ rfl
        have n12 : ¬ (z13 = z12) := b13.ne_ b12 (by decide)
        have f0 := b12.cell_ 0 _ rfl
        have f1 := b12.cell_ 1 _ rfl
        have f2 := b13.cell_ 0 _ rfl
        have f3 := b13.cell_ 1 _ rfl
        have f4 := b13.cell_ 2 _ rfl
        have ff := b12.frozen
        have fg := b13.frozen
        clear b12 b13 l12 l13
        refine anyB_one (i := 11) (by kernel_rfl) rfl (fun K hK => ?_)
        go_simp
        refine hK.out _ _ (fun h => absurd (by decide) h) ?_
        clear hK K
        refine anyB_one (i := 12) (by kernel_rfl) rfl (fun K hK => ?_)
        go_simp
        refine hK.out _ _ (fun h => absurd (by decide) h) ?_
        clear hK K
        refine anyB_seg [13] 0 rfl (by kernel_rfl) (by kernel_rfl) (by kernel_rfl) (fun _ _ d _ _ h => by cases d <;> exact h) ?_
        simp only [pickOps, List.getElem?_toArray, List.getElem?_cons_zero, List.getElem?_cons_succ]
        go_wp2_with fail
        refine ⟨rfl, by rfl, ?_⟩
        refine anyB_done (by kernel_rfl) ?_ _
        have FN := Lib.hid (S4.out.fin (a := ⟨aK, aT, aS⟩) rfl)
        clear f0 f1 f2 f3 f4 ff fg n12
        generalize World.setCell _ _ _ = x9 at FN ⊢
        go_wp2_with fail
        go_meet
        exact ⟨z12, z13, _, _, rfl, rfl, rfl, FN.out⟩
  case rest =>
    obtain ⟨z12, z13, r, s, rfl, rfl, rfl, FN0⟩ := hcut
    have M2 := Lib.hid (M1.out.keep FN0.hb)
    have FN := Lib.hid FN0
    clear FN0 M1 HX HBL p0 p1 p2 p3 y0 y1
    have HBL := Lib.hid M2.out.bel
    obtain ⟨r0, s0, y, hx⟩ := M2.out.box.wl (by rw [HGV.out.2]; decide)
    have HX := Lib.hid hx
    have y0 := y.cell_ 0 _ rfl
    have y1 := y.cell_ 1 _ rfl
    have p0 := M2.out.raw.cell_ 0 _ rfl
    have p1 := M2.out.raw.cell_ 1 _ rfl
    have p2 := M2.out.raw.cell_ 2 _ rfl
    have p3 := M2.out.raw.cell_ 3 _ rfl
    clear y hx
    go_upto_region 4 with fail
    go_cut [12, 13, 14] (fun p p2 e wd => ∃ z12 z13 r s, p = .pointer (some ⟨z12, 0, none⟩) ∧ p2 = .pointer (some ⟨z13, 0, none⟩) ∧ e = .int .i64 6 ∧ DoN W0.heap.size wc wd z12 z13 r s W4 ⟨bK, bT, bS⟩)
    case first =>
      refine region_segs [10, 11] (by kernel_rfl) ?_
      refine anyB_seg [0, 1] 11 rfl (by kernel_rfl) (by kernel_rfl) (by kernel_rfl) (fun _ _ d _ _ h => by cases d <;> exact h) ?_
      simp only [pickOps, List.getElem?_toArray, List.getElem?_cons_zero, List.getElem?_cons_succ]
      go_wp2_with fail
      refine ⟨rfl, by rfl, ?_⟩
      have S0 := Lib.hid ((DoS.start W0.heap.size wc).keep (Below.refl _ _).drew)
      clear p0 p1 p2 p3 y0 y1
      generalize wc.drew = x0 at S0 ⊢
      refine anyB_three (i := 2) (j := 8) (k := 9) (by kernel_rfl) rfl rfl rfl (fun K hK => ?_) (fun K hK => ?_) (fun K hK => ?_)
      · go_simp
        refine (stmt_any _ _ _ _ HWF.out.k HWF.out.a HWF.out.b HWF.out.c _).mono ?_
        rintro e x1 ⟨rfl, b⟩
        refine hK.out _ _ (fun _ => b) ?_
        clear hK K
        have S1 := Lib.hid (S0.out.keep b)
        clear b S0
        refine anyB_three (i := 3) (j := 8) (k := 9) (by kernel_rfl) rfl rfl rfl (fun K hK => ?_) (fun K hK => ?_) (fun K hK => ?_)
        · unfold St.v
          go_simp
          refine (do_world _ _ _ _ _ _ (HT.out.below (HBL.out.trans (S1.out.hb.mono HBL.out.size))) (HX.out _ S1.out.hb) HP4.out HSZ.out.1 HSZ.out.2).mono ?_
          rintro e x2 ⟨r', s', cs', rfl, o1, o2, b⟩
          refine hK.out _ _ (fun _ => b) ?_
          clear hK K
          rw [HR4.out] at o1 o2 ⊢
          rw [HE4.out]
          obtain ⟨A1, k1, rfl⟩ := o1.form
          obtain ⟨A2, k2, rfl⟩ := own_slice o2.own
          have S2 := Lib.hid (S1.out.did (Nat.le_trans HBL.out.size S1.out.hb.size) o1 o2 b)
          clear b S1 o1 o2
          unfold anV
          refine anyB_seg [4, 5, 6, 7] 5 rfl (by kernel_rfl) (by kernel_rfl) (by kernel_rfl) (fun _ _ d _ _ h => by cases d <;> exact h) ?_
          simp only [pickOps, List.getElem?_toArray, List.getElem?_cons_zero, List.getElem?_cons_succ]
          go_wp2_with fail
          refine ⟨rfl, by rfl, ?_⟩
          refine anyB_two (i := 8) (j := 9) (by kernel_rfl) rfl rfl (fun K hK => ?_) (fun K hK => ?_)
          · go_simp
            refine hK.out _ _ (fun _ => (boxed _ _)) ?_
            clear hK K
            have S3 := Lib.hid S2.out.f12
            obtain ⟨z12, hz⟩ : ∃ z, x2.heap.size = z := ⟨_, rfl⟩
            rw [hz] at S3 ⊢
            generalize World.alloc _ _ = x3 at S3 ⊢
            clear S2 hz
            refine anyB_one (i := 9) (by kernel_rfl) rfl (fun K hK => ?_)
            go_simp
            refine hK.out _ _ (fun _ => (boxed _ _)) ?_
            clear hK K
            have S4 := Lib.hid S3.out.f13
            obtain ⟨z13, hz⟩ : ∃ z, x3.heap.size = z := ⟨_, rfl⟩
            rw [hz] at S4 ⊢
            generalize World.alloc _ _ = x4 at S4 ⊢
            clear S3 hz
            obtain ⟨b12, l12⟩ := S4.out.b12 _ rfl
            obtain ⟨b13, l13⟩ := S4.out.b13 _ rfl
            have n12 : ¬ (z13 = z12) := b13.ne_ b12 (by decide)
            have f0 := b12.cell_ 0 _ rfl
            have f1 := b12.cell_ 1 _ rfl
            have f2 := b13.cell_ 0 _ rfl
            have f3 := b13.cell_ 1 _ rfl
            have f4 := b13.cell_ 2 _ rfl
            have ff := b12.frozen
            have fg := b13.frozen
            clear b12 b13 l12 l13
            refine anyB_one (i := 10) (by kernel_rfl) rfl (fun K hK => ?_)
            go_simp
            refine hK.out _ _ (fun h => absurd (by decide) h) ?_
            clear hK K
            refine anyB_one (i := 11) (by kernel_rfl) rfl (fun K hK => ?_)
            go_simp
            refine hK.out _ _ (fun h => absurd (by decide) h) ?_
            clear hK K
            refine anyB_seg [12] 0 rfl (by kernel_rfl) (by kernel_rfl) (by kernel_rfl) (fun _ _ d _ _ h => by cases d <;> exact h) ?_
            simp only [pickOps, List.getElem?_toArray, List.getElem?_cons_zero, List.getElem?_cons_succ]
            go_wp2_with fail
            refine ⟨rfl, by rfl, ?_⟩
            refine anyB_done (by kernel_rfl) ?_ _
            have FN := Lib.hid (S4.out.fin (a := ⟨bK, bT, bS⟩) rfl)
            clear f0 f1 f2 f3 f4 ff fg n12
            generalize World.setCell _ _ _ = x9 at FN ⊢
            go_wp2_with fail
            go_meet
            exact ⟨z12, z13, _, _, rfl, rfl, rfl, FN.out⟩
          · go_simp
            refine hK.out _ _ (fun _ => (boxed _ _)) ?_
            clear hK K
            have S3 := Lib.hid S2.out.f13
            obtain ⟨z13, hz⟩ : ∃ z, x2.heap.size = z := ⟨_, rfl⟩
            rw [hz] at S3 ⊢
            generalize World.alloc _ _ = x3 at S3 ⊢
            clear S2 hz
            refine anyB_one (i := 8) (by kernel_rfl) rfl (fun K hK => ?_)
            go_simp
            refine hK.out _ _ (fun _ => (boxed _ _)) ?_
            clear hK K
            have S4 := Lib.hid S3.out.f12
            obtain ⟨z12, hz⟩ : ∃ z, x3.heap.size = z := ⟨_, rfl⟩
            rw [hz] at S4 ⊢
            generalize World.alloc _ _ = x4 at S4 ⊢
            clear S3 hz
            obtain ⟨b12, l12⟩ := S4.out.b12 _ rfl
            obtain ⟨b13, l13⟩ := S4.out.b13 _ rfl
            have n12 : ¬ (z13 = z12) := b13.ne_ b12 (by decide)
            have f0 := b12.cell_ 0 _ rfl
            have f1 := b12.cell_ 1 _ rfl
            have f2 := b13.cell_ 0 _ rfl
            have f3 := b13.cell_ 1 _ rfl
            have f4 := b13.cell_ 2 _ rfl
            have ff := b12.frozen
            have fg := b13.frozen
            clear b12 b13 l12 l13
            refine anyB_one (i := 10) (by kernel_rfl) rfl (fun K hK => ?_)
            go_simp
            refine hK.out _ _ (fun h => absurd (by decide) h) ?_
            clear hK K
            refine anyB_one (i := 11) (by kernel_rfl) rfl (fun K hK => ?_)
            go_simp
            refine hK.out _ _ (fun h => absurd (by decide) h) ?_
            clear hK K
            refine anyB_seg [12] 0 rfl (by kernel_rfl) (by kernel_rfl) (by kernel_rfl) (fun _ _ d _ _ h => by cases d <;> exact h) ?_
            simp only [pickOps, List.getElem?_toArray, List.getElem?_cons_zero, List.getElem?_cons_succ]
            go_wp2_with fail
            refine ⟨rfl, by rfl, ?_⟩
            refine anyB_done (by kernel_rfl) ?_ _
            have FN := Lib.hid (S4.out.fin (a := ⟨bK, bT, bS⟩) rfl)
            clear f0 f1 f2 f3 f4 ff fg n12
            generalize World.setCell _ _ _ = x9 at FN ⊢
            go_wp2_with fail
            go_meet
            exact ⟨z12, z13, _, _, rfl, rfl, rfl, FN.out⟩
        · go_simp
          refine hK.out _ _ (fun _ => (boxed _ _)) ?_
          clear hK K
          have S2 := Lib.hid S1.out.f12
          obtain ⟨z12, hz⟩ : ∃ z, x1.heap.size = z := ⟨_, rfl⟩
          rw [hz] at S2 ⊢
          generalize World.alloc _ _ = x2 at S2 ⊢
          clear S1 hz
          refine anyB_two (i := 3) (j := 9) (by kernel_rfl) rfl rfl (fun K hK => ?_) (fun K hK => ?_)
          · unfold St.v
            go_simp
            refine (do_world _ _ _ _ _ _ (HT.out.below (HBL.out.trans (S2.out.hb.mono HBL.out.size))) (HX.out _ S2.out.hb) HP4.out HSZ.out.1 HSZ.out.2).mono ?_
            rintro e x3 ⟨r', s', cs', rfl, o1, o2, b⟩
            refine hK.out _ _ (fun _ => b) ?_
            clear hK K
            rw [HR4.out] at o1 o2 ⊢
            rw [HE4.out]
            obtain ⟨A1, k1, rfl⟩ := o1.form
            obtain ⟨A2, k2, rfl⟩ := own_slice o2.own
            have S3 := Lib.hid (S2.out.did (Nat.le_trans HBL.out.size S2.out.hb.size) o1 o2 b)
            clear b S2 o1 o2
            unfold anV
            refine anyB_seg [4, 5, 6, 7] 4 rfl (by kernel_rfl) (by kernel_rfl) (by kernel_rfl) (fun _ _ d _ _ h => by cases d <;> exact h) ?_
            simp only [pickOps, List.getElem?_toArray, List.getElem?_cons_zero, List.getElem?_cons_succ]
            go_wp2_with fail
            refine ⟨rfl, by rfl, ?_⟩
            refine anyB_one (i := 9) (by kernel_rfl) rfl (fun K hK => ?_)
            go_simp
            refine hK.out _ _ (fun _ => (boxed _ _)) ?_
            clear hK K
            have S4 := Lib.hid S3.out.f13
            obtain ⟨z13, hz⟩ : ∃ z, x3.heap.size = z := ⟨_, rfl⟩
            rw [hz] at S4 ⊢
            generalize World.alloc _ _ = x4 at S4 ⊢
            clear S3 hz
            obtain ⟨b12, l12⟩ := S4.out.b12 _ rfl
            obtain ⟨b13, l13⟩ := S4.out.b13 _ rfl
            have n12 : ¬ (z13 = z12) := b13.ne_ b12 (by decide)
            have f0 := b12.cell_ 0 _ rfl
            have f1 := b12.cell_ 1 _ rfl
            have f2 := b13.cell_ 0 _ rfl
            have f3 := b13.cell_ 1 _ rfl
            have f4 := b13.cell_ 2 _ rfl
            have ff := b12.frozen
            have fg := b13.frozen
            clear b12 b13 l12 l13
            refine anyB_one (i := 10) (by kernel_rfl) rfl (fun K hK => ?_)
            go_simp
            refine hK.out _ _ (fun h => absurd (by decide) h) ?_
            clear hK K
            refine anyB_one (i := 11) (by kernel_rfl) rfl (fun K hK => ?_)
            go_simp
            refine hK.out _ _ (fun h => absurd (by decide) h) ?_
            clear hK K
            refine anyB_seg [12] 0 rfl (by kernel_rfl) (by kernel_rfl) (by kernel_rfl) (fun _ _ d _ _ h => by cases d <;> exact h) ?_
            simp only [pickOps, List.getElem?_toArray, List.getElem?_cons_zero, List.getElem?_cons_succ]
            go_wp2_with fail
            refine ⟨rfl, by rfl, ?_⟩
            refine anyB_done (by kernel_rfl) ?_ _
            have FN := Lib.hid (S4.out.fin (a := ⟨bK, bT, bS⟩) rfl)
            clear f0 f1 f2 f3 f4 ff fg n12
            generalize World.setCell _ _ _ = x9 at FN ⊢
            go_wp2_with fail
            go_meet
            exact ⟨z12, z13, _, _, rfl, rfl, rfl, FN.out⟩
          · go_simp
            refine hK.out _ _ (fun _ => (boxed _ _)) ?_
            clear hK K
            have S3 := Lib.hid S2.out.f13
            obtain ⟨z13, hz⟩ : ∃ z, x2.heap.size = z := ⟨_, rfl⟩
            rw [hz] at S3 ⊢
            generalize World.alloc _ _ = x3 at S3 ⊢
            clear S2 hz
            refine anyB_one (i := 3) (by kernel_rfl) rfl (fun K hK => ?_)
            unfold St.v
            go_simp
            refine (do_world _ _ _ _ _ _ (HT.out.below (HBL.out.trans (S3.out.hb.mono HBL.out.size))) (HX.out _ S3.out.hb) HP4.out HSZ.out.1 HSZ.out.2).mono ?_
            rintro e x4 ⟨r', s', cs', rfl, o1, o2, b⟩
            refine hK.out _ _ (fun _ => b) ?_
            clear hK K
            rw [HR4.out] at o1 o2 ⊢
            rw [HE4.out]
            obtain ⟨A1, k1, rfl⟩ := o1.form
            obtain ⟨A2, k2, rfl⟩ := own_slice o2.own
            have S4 := Lib.hid (S3.out.did (Nat.le_trans HBL.out.size S3.out.hb.size) o1 o2 b)
            clear b S3 o1 o2
            unfold anV
            refine anyB_seg [4, 5, 6, 7] 3 rfl (by kernel_rfl) (by kernel_rfl) (by kernel_rfl) (fun _ _ d _ _ h => by cases d <;> exact h) ?_
            simp only [pickOps, List.getElem?_toArray, List.getElem?_cons_zero, List.getElem?_cons_succ]
            go_wp2_with fail
            refine ⟨rfl, by rfl, ?_⟩
            obtain ⟨b12, l12⟩ := S4.out.b12 _ rfl
            obtain ⟨b13, l13⟩ := S4.out.b13 _ rfl
            have n12 : ¬ (z13 = z12) := b13.ne_ b12 (by decide)
            have f0 := b12.cell_ 0 _ rfl
            have f1 := b12.cell_ 1 _ rfl
            have f2 := b13.cell_ 0 _ rfl
            have f3 := b13.cell_ 1 _ rfl
            have f4 := b13.cell_ 2 _ rfl
            have ff := b12.frozen
            have fg := b13.frozen
            clear b12 b13 l12 l13
            refine anyB_one (i := 10) (by kernel_rfl) rfl (fun K hK => ?_)
            go_simp
            refine hK.out _ _ (fun h => absurd (by decide) h) ?_
            clear hK K
            refine anyB_one (i := 11) (by kernel_rfl) rfl (fun K hK => ?_)
            go_simp
            refine hK.out _ _ (fun h => absurd (by decide) h) ?_
            clear hK K
            refine anyB_seg [12] 0 rfl (by kernel_rfl) (by kernel_rfl) (by kernel_rfl) (fun _ _ d _ _ h => by cases d <;> exact h) ?_
            simp only [pickOps, List.getElem?_toArray, List.getElem?_cons_zero, List.getElem?_cons_succ]
            go_wp2_with fail
            refine ⟨rfl, by rfl, ?_⟩
            refine anyB_done (by kernel_rfl) ?_ _
            have FN := Lib.hid (S4.out.fin (a := ⟨bK, bT, bS⟩) rfl)
            clear f0 f1 f2 f3 f4 ff fg n12
            generalize World.setCell _ _ _ = x9 at FN ⊢
            go_wp2_with fail
            go_meet
            exact ⟨z12, z13, _, _, rfl, rfl, rfl, FN.out⟩
        · go_simp
          refine hK.out _ _ (fun _ => (boxed _ _)) ?_
          clear hK K
          have S2 := Lib.hid S1.out.f13
          obtain ⟨z13, hz⟩ : ∃ z, x1.heap.size = z := ⟨_, rfl⟩
          rw [hz] at S2 ⊢
          generalize World.alloc _ _ = x2 at S2 ⊢
          clear S1 hz
          refine anyB_two (i := 3) (j := 8) (by kernel_rfl) rfl rfl (fun K hK => ?_) (fun K hK => ?_)
          · unfold St.v
            go_simp
            refine (do_world _ _ _ _ _ _ (HT.out.below (HBL.out.trans (S2.out.hb.mono HBL.out.size))) (HX.out _ S2.out.hb) HP4.out HSZ.out.1 HSZ.out.2).mono ?_
            rintro e x3 ⟨r', s', cs', rfl, o1, o2, b⟩
            refine hK.out _ _ (fun _ => b) ?_
            clear hK K
            rw [HR4.out] at o1 o2 ⊢
            rw [HE4.out]
            obtain ⟨A1, k1, rfl⟩ := o1.form
            obtain ⟨A2, k2, rfl⟩ := own_slice o2.own
            have S3 := Lib.hid (S2.out.did (Nat.le_trans HBL.out.size S2.out.hb.size) o1 o2 b)
            clear b S2 o1 o2
            unfold anV
            refine anyB_seg [4, 5, 6, 7] 4 rfl (by kernel_rfl) (by kernel_rfl) (by kernel_rfl) (fun _ _ d _ _ h => by cases d <;> exact h) ?_
            simp only [pickOps, List.getElem?_toArray, List.getElem?_cons_zero, List.getElem?_cons_succ]
            go_wp2_with fail
            refine ⟨rfl, by rfl, ?_⟩
            refine anyB_one (i := 8) (by kernel_rfl) rfl (fun K hK => ?_)
            go_simp
            refine hK.out _ _ (fun _ => (boxed _ _)) ?_
            clear hK K
            have S4 := Lib.hid S3.out.f12
            obtain ⟨z12, hz⟩ : ∃ z, x3.heap.size = z := ⟨_, rfl⟩
            rw [hz] at S4 ⊢
            generalize World.alloc _ _ = x4 at S4 ⊢
            clear S3 hz
            obtain ⟨b12, l12⟩ := S4.out.b12 _ rfl
            obtain ⟨b13, l13⟩ := S4.out.b13 _ rfl
            have n12 : ¬ (z13 = z12) := b13.ne_ b12 (by decide)
            have f0 := b12.cell_ 0 _ rfl
            have f1 := b12.cell_ 1 _ rfl
            have f2 := b13.cell_ 0 _ rfl
            have f3 := b13.cell_ 1 _ rfl
            have f4 := b13.cell_ 2 _ rfl
            have ff := b12.frozen
            have fg := b13.frozen
            clear b12 b13 l12 l13
            refine anyB_one (i := 10) (by kernel_rfl) rfl (fun K hK => ?_)
            go_simp
            refine hK.out _ _ (fun h => absurd (by decide) h) ?_
            clear hK K
            refine anyB_one (i := 11) (by kernel_rfl) rfl (fun K hK => ?_)
            go_simp
            refine hK.out _ _ (fun h => absurd (by decide) h) ?_
            clear hK K
            refine anyB_seg [12] 0 rfl (by kernel_rfl) (by kernel_rfl) (by kernel_rfl) (fun _ _ d _ _ h => by cases d <;> exact h) ?_
            simp only [pickOps, List.getElem?_toArray, List.getElem?_cons_zero, List.getElem?_cons_succ]
            go_wp2_with fail
            refine ⟨rfl, by rfl, ?_⟩
            refine anyB_done (by kernel_rfl) ?_ _
            have FN := Lib.hid (S4.out.fin (a := ⟨bK, bT, bS⟩) rfl)
            clear f0 f1 f2 f3 f4 ff fg n12
            generalize World.setCell _ _ _ = x9 at FN ⊢
            go_wp2_with fail
            go_meet
            exact ⟨z12, z13, _, _, rfl, rfl, rfl, FN.out⟩
          · go_simp
            refine hK.out _ _ (fun _ => (boxed _ _)) ?_
            clear hK K
            have S3 := Lib.hid S2.out.f12
            obtain ⟨z12, hz⟩ : ∃ z, x2.heap.size = z := ⟨_, rfl⟩
            rw [hz] at S3 ⊢
            generalize World.alloc _ _ = x3 at S3 ⊢
            clear S2 hz
            refine anyB_one (i := 3) (by kernel_rfl) rfl (fun K hK => ?_)
            unfold St.v
            go_simp
            refine (do_world _ _ _ _ _ _ (HT.out.below (HBL.out.trans (S3.out.hb.mono HBL.out.size))) (HX.out _ S3.out.hb) HP4.out HSZ.out.1 HSZ.out.2).mono ?_
            rintro e x4 ⟨r', s', cs', rfl, o1, o2, b⟩
            refine hK.out _ _ (fun _ => b) ?_
            clear hK K
            rw [HR4.out] at o1 o2 ⊢
            rw [HE4.out]
            obtain ⟨A1, k1, rfl⟩ := o1.form
            obtain ⟨A2, k2, rfl⟩ := own_slice o2.own
            have S4 := Lib.hid (S3.out.did (Nat.le_trans HBL.out.size S3.out.hb.size) o1 o2 b)
            clear b S3 o1 o2
            unfold anV
            refine anyB_seg [4, 5, 6, 7] 3 rfl (by kernel_rfl) (by kernel_rfl) (by kernel_rfl) (fun _ _ d _ _ h => by cases d <;> exact h) ?_
            simp only [pickOps, List.getElem?_toArray, List.getElem?_cons_zero, List.getElem?_cons_succ]
            go_wp2_with fail
            refine ⟨rfl, by rfl, ?_⟩
            obtain ⟨b12, l12⟩ := S4.out.b12 _ rfl
            obtain ⟨b13, l13⟩ := S4.out.b13 _ rfl
            have n12 : ¬ (z13 = z12) := b13.ne_ b12 (by decide)
            have f0 := b12.cell_ 0 _ rfl
            have f1 := b12.cell_ 1 _ rfl
            have f2 := b13.cell_ 0 _ rfl
            have f3 := b13.cell_ 1 _ rfl
            have f4 := b13.cell_ 2 _ rfl
            have ff := b12.frozen
            have fg := b13.frozen
            clear b12 b13 l12 l13
            refine anyB_one (i := 10) (by kernel_rfl) rfl (fun K hK => ?_)
            go_simp
            refine hK.out _ _ (fun h => absurd (by decide) h) ?_
            clear hK K
            refine anyB_one (i := 11) (by kernel_rfl) rfl (fun K hK => ?_)
            go_simp
            refine hK.out _ _ (fun h => absurd (by decide) h) ?_
            clear hK K
            refine anyB_seg [12] 0 rfl (by kernel_rfl) (by kernel_rfl) (by kernel_rfl) (fun _ _ d _ _ h => by cases d <;> exact h) ?_
            simp only [pickOps, List.getElem?_toArray, List.getElem?_cons_zero, List.getElem?_cons_succ]
            go_wp2_with fail
            refine ⟨rfl, by rfl, ?_⟩
            refine anyB_done (by kernel_rfl) ?_ _
            have FN := Lib.hid (S4.out.fin (a := ⟨bK, bT, bS⟩) rfl)
            clear f0 f1 f2 f3 f4 ff fg n12
            generalize World.setCell _ _ _ = x9 at FN ⊢
            go_wp2_with fail
            go_meet
            exact ⟨z12, z13, _, _, rfl, rfl, rfl, FN.out⟩
      · go_simp
        refine hK.out _ _ (fun _ => (boxed _ _)) ?_
        clear hK K
        have S1 := Lib.hid S0.out.f12
        obtain ⟨z12, hz⟩ : ∃ z, x0.heap.size = z := ⟨_, rfl⟩
        rw [hz] at S1 ⊢
        generalize World.alloc _ _ = x1 at S1 ⊢
        clear S0 hz
        refine anyB_two (i := 2) (j := 9) (by kernel_rfl) rfl rfl (fun K hK => ?_) (fun K hK => ?_)
        · go_simp
          refine (stmt_any _ _ _ _ HWF.out.k HWF.out.a HWF.out.b HWF.out.c _).mono ?_
          rintro e x2 ⟨rfl, b⟩
          refine hK.out _ _ (fun _ => b) ?_
          clear hK K
          have S2 := Lib.hid (S1.out.keep b)
          clear b S1
          refine anyB_two (i := 3) (j := 9) (by kernel_rfl) rfl rfl (fun K hK => ?_) (fun K hK => ?_)
          · unfold St.v
            go_simp
            refine (do_world _ _ _ _ _ _ (HT.out.below (HBL.out.trans (S2.out.hb.mono HBL.out.size))) (HX.out _ S2.out.hb) HP4.out HSZ.out.1 HSZ.out.2).mono ?_
            rintro e x3 ⟨r', s', cs', rfl, o1, o2, b⟩
            refine hK.out _ _ (fun _ => b) ?_
            clear hK K
            rw [HR4.out] at o1 o2 ⊢
            rw [HE4.out]
            obtain ⟨A1, k1, rfl⟩ := o1.form
            obtain ⟨A2, k2, rfl⟩ := own_slice o2.own
            have S3 := Lib.hid (S2.out.did (Nat.le_trans HBL.out.size S2.out.hb.size) o1 o2 b)
            clear b S2 o1 o2
            unfold anV
            refine anyB_seg [4, 5, 6, 7] 4 rfl (by kernel_rfl) (by kernel_rfl) (by kernel_rfl) (fun _ _ d _ _ h => by cases d <;> exact h) ?_
            simp only [pickOps, List.getElem?_toArray, List.getElem?_cons_zero, List.getElem?_cons_succ]
            go_wp2_with fail
            refine ⟨rfl, by rfl, ?_⟩
            refine anyB_one (i := 9) (by kernel_rfl) rfl (fun K hK => ?_)
            go_simp
            refine hK.out _ _ (fun _ => (boxed _ _)) ?_
            clear hK K
            have S4 := Lib.hid S3.out.f13
            obtain ⟨z13, hz⟩ : ∃ z, x3.heap.size = z := ⟨_, rfl⟩
            rw [hz] at S4 ⊢
            generalize World.alloc _ _ = x4 at S4 ⊢
            clear S3 hz
            obtain ⟨b12, l12⟩ := S4.out.b12 _ rfl
            obtain ⟨b13, l13⟩ := S4.out.b13 _ rfl
            have n12 : ¬ (z13 = z12) := b13.ne_ b12 (by decide)
            have f0 := b12.cell_ 0 _ rfl
            have f1 := b12.cell_ 1 _ rfl
            have f2 := b13.cell_ 0 _ rfl
            have f3 := b13.cell_ 1 _ rfl
            have f4 := b13.cell_ 2 _ rfl
            have ff := b12.frozen
            have fg := b13.frozen
            clear b12 b13 l12 l13
            refine anyB_one (i := 10) (by kernel_rfl) rfl (fun K hK => ?_)
            go_simp
            refine hK.out _ _ (fun h => absurd (by decide) h) ?_
            clear hK K
            refine anyB_one (i := 11) (by kernel_rfl) rfl (fun K hK => ?_)
            go_simp
            refine hK.out _ _ (fun h => absurd (by decide) h) ?_
            clear hK K
            refine anyB_seg [12] 0 rfl (by kernel_rfl) (by kernel_rfl) (by kernel_rfl) (fun _ _ d _ _ h => by cases d <;> exact h) ?_
            simp only [pickOps, List.getElem?_toArray, List.getElem?_cons_zero, List.getElem?_cons_succ]
            go_wp2_with fail
            refine ⟨rfl, by rfl, ?_⟩
            refine anyB_done (by kernel_rfl) ?_ _
            have FN := Lib.hid (S4.out.fin (a := ⟨bK, bT, bS⟩) rfl)
            clear f0 f1 f2 f3 f4 ff fg n12
            generalize World.setCell _ _ _ = x9 at FN ⊢
            go_wp2_with fail
            go_meet
            exact ⟨z12, z13, _, _, rfl, rfl, rfl, FN.out⟩
          · go_simp
            refine hK.out _ _ (fun _ => (boxed _ _)) ?_
            clear hK K
            have S3 := Lib.hid S2.out.f13
            obtain ⟨z13, hz⟩ : ∃ z, x2.heap.size = z := ⟨_, rfl⟩
            rw [hz] at S3 ⊢
            generalize World.alloc _ _ = x3 at S3 ⊢
            clear S2 hz
            refine anyB_one (i := 3) (by kernel_rfl) rfl (fun K hK => ?_)
            unfold St.v
            go_simp
            refine (do_world _ _ _ _ _ _ (HT.out.below (HBL.out.trans (S3.out.hb.mono HBL.out.size))) (HX.out _ S3.out.hb) HP4.out HSZ.out.1 HSZ.out.2).mono ?_
            rintro e x4 ⟨r', s', cs', rfl, o1, o2, b⟩
            refine hK.out _ _ (fun _ => b) ?_
            clear hK K
            rw [HR4.out] at o1 o2 ⊢
            rw [HE4.out]
            obtain ⟨A1, k1, rfl⟩ := o1.form
            obtain ⟨A2, k2, rfl⟩ := own_slice o2.own
            have S4 := Lib.hid (S3.out.did (Nat.le_trans HBL.out.size S3.out.hb.size) o1 o2 b)
            clear b S3 o1 o2
            unfold anV
            refine anyB_seg [4, 5, 6, 7] 3 rfl (by kernel_rfl) (by kernel_rfl) (by kernel_rfl) (fun _ _ d _ _ h => by cases d <;> exact h) ?_
            simp only [pickOps, List.getElem?_toArray, List.getElem?_cons_zero, List.getElem?_cons_succ]
            go_wp2_with fail
            refine ⟨rfl, by rfl, ?_⟩
            obtain ⟨b12, l12⟩ := S4.out.b12 _ rfl
            obtain ⟨b13, l13⟩ := S4.out.b13 _ rfl
            have n12 : ¬ (z13 = z12) := b13.ne_ b12 (by decide)
            have f0 := b12.cell_ 0 _ rfl
            have f1 := b12.cell_ 1 _ rfl
            have f2 := b13.cell_ 0 _ rfl
            have f3 := b13.cell_ 1 _ rfl
            have f4 := b13.cell_ 2 _ rfl
            have ff := b12.frozen
            have fg := b13.frozen
            clear b12 b13 l12 l13
            refine anyB_one (i := 10) (by kernel_rfl) rfl (fun K hK => ?_)
            go_simp
            refine hK.out _ _ (fun h => absurd (by decide) h) ?_
            clear hK K
            refine anyB_one (i := 11) (by kernel_rfl) rfl (fun K hK => ?_)
            go_simp
            refine hK.out _ _ (fun h => absurd (by decide) h) ?_
            clear hK K
            refine anyB_seg [12] 0 rfl (by kernel_rfl) (by kernel_rfl) (by kernel_rfl) (fun _ _ d _ _ h => by cases d <;> exact h) ?_
            simp only [pickOps, List.getElem?_toArray, List.getElem?_cons_zero, List.getElem?_cons_succ]
            go_wp2_with fail
            refine ⟨rfl, by rfl, ?_⟩
            refine anyB_done (by kernel_rfl) ?_ _
            have FN := Lib.hid (S4.out.fin (a := ⟨bK, bT, bS⟩) rfl)
            clear f0 f1 f2 f3 f4 ff fg n12
            generalize World.setCell _ _ _ = x9 at FN ⊢
            go_wp2_with fail
            go_meet
            exact ⟨z12, z13, _, _, rfl, rfl, rfl, FN.out⟩
        · go_simp
          refine hK.out _ _ (fun _ => (boxed _ _)) ?_
          clear hK K
          have S2 := Lib.hid S1.out.f13
          obtain ⟨z13, hz⟩ : ∃ z, x1.heap.size = z := ⟨_, rfl⟩
          rw [hz] at S2 ⊢
          generalize World.alloc _ _ = x2 at S2 ⊢
          clear S1 hz
          refine anyB_one (i := 2) (by kernel_rfl) rfl (fun K hK => ?_)
          go_simp
          refine (stmt_any _ _ _ _ HWF.out.k HWF.out.a HWF.out.b HWF.out.c _).mono ?_
          rintro e x3 ⟨rfl, b⟩
          refine hK.out _ _ (fun _ => b) ?_
          clear hK K
          have S3 := Lib.hid (S2.out.keep b)
          clear b S2
          refine anyB_one (i := 3) (by kernel_rfl) rfl (fun K hK => ?_)
          unfold St.v
          go_simp
          refine (do_world _ _ _ _ _ _ (HT.out.below (HBL.out.trans (S3.out.hb.mono HBL.out.size))) (HX.out _ S3.out.hb) HP4.out HSZ.out.1 HSZ.out.2).mono ?_
          rintro e x4 ⟨r', s', cs', rfl, o1, o2, b⟩
          refine hK.out _ _ (fun _ => b) ?_
          clear hK K
          rw [HR4.out] at o1 o2 ⊢
          rw [HE4.out]
          obtain ⟨A1, k1, rfl⟩ := o1.form
          obtain ⟨A2, k2, rfl⟩ := own_slice o2.own
          have S4 := Lib.hid (S3.out.did (Nat.le_trans HBL.out.size S3.out.hb.size) o1 o2 b)
          clear b S3 o1 o2
          unfold anV
          refine anyB_seg [4, 5, 6, 7] 3 rfl (by kernel_rfl) (by kernel_rfl) (by kernel_rfl) (fun _ _ d _ _ h => by cases d <;> exact h) ?_
          simp only [pickOps, List.getElem?_toArray, List.getElem?_cons_zero, List.getElem?_cons_succ]
          go_wp2_with fail
          refine ⟨rfl, by rfl, ?_⟩
          obtain ⟨b12, l12⟩ := S4.out.b12 _ rfl
          obtain ⟨b13, l13⟩ := S4.out.b13 _ rfl
          have n12 : ¬ (z13 = z12) := b13.ne_ b12 (by decide)
          have f0 := b12.cell_ 0 _ rfl
          have f1 := b12.cell_ 1 _ rfl
          have f2 := b13.cell_ 0 _ rfl
          have f3 := b13.cell_ 1 _ rfl
          have f4 := b13.cell_ 2 _ rfl
          have ff := b12.frozen
          have fg := b13.frozen
          clear b12 b13 l12 l13
          refine anyB_one (i := 10) (by kernel_rfl) rfl (fun K hK => ?_)
          go_simp
          refine hK.out _ _ (fun h => absurd (by decide) h) ?_
          clear hK K
          refine anyB_one (i := 11) (by kernel_rfl) rfl (fun K hK => ?_)
          go_simp
          refine hK.out _ _ (fun h => absurd (by decide) h) ?_
          clear hK K
          refine anyB_seg [12] 0 rfl (by kernel_rfl) (by kernel_rfl) (by kernel_rfl) (fun _ _ d _ _ h => by cases d <;> exact h) ?_
          simp only [pickOps, List.getElem?_toArray, List.getElem?_cons_zero, List.getElem?_cons_succ]
          go_wp2_with fail
          refine ⟨rfl, by rfl, ?_⟩
          refine anyB_done (by kernel_rfl) ?_ _
          have FN := Lib.hid (S4.out.fin (a := ⟨bK, bT, bS⟩) rfl)
          clear f0 f1 f2 f3 f4 ff fg n12
          generalize World.setCell _ _ _ = x9 at FN ⊢
          go_wp2_with fail
          go_meet
          exact ⟨z12, z13, _, _, rfl, rfl, rfl, FN.out⟩
      · go_simp
        refine hK.out _ _ (fun _ => (boxed _ _)) ?_
        clear hK K
        have S1 := Lib.hid S0.out.f13
        obtain ⟨z13, hz⟩ : ∃ z, x0.heap.size = z := ⟨_, rfl⟩
        rw [hz] at S1 ⊢
        generalize World.alloc _ _ = x1 at S1 ⊢
        clear S0 hz
        refine anyB_two (i := 2) (j := 8) (by kernel_rfl) rfl rfl (fun K hK => ?_) (fun K hK => ?_)
        · go_simp
          refine (stmt_any _ _ _ _ HWF.out.k HWF.out.a HWF.out.b HWF.out.c _).mono ?_
          rintro e x2 ⟨rfl, b⟩
          refine hK.out _ _ (fun _ => b) ?_
          clear hK K
          have S2 := Lib.hid (S1.out.keep b)
          clear b S1
          refine anyB_two (i := 3) (j := 8) (by kernel_rfl) rfl rfl (fun K hK => ?_) (fun K hK => ?_)
          · unfold St.v
            go_simp
            refine (do_world _ _ _ _ _ _ (HT.out.below (HBL.out.trans (S2.out.hb.mono HBL.out.size))) (HX.out _ S2.out.hb) HP4.out HSZ.out.1 HSZ.out.2).mono ?_
            rintro e x3 ⟨r', s', cs', rfl, o1, o2, b⟩
            refine hK.out _ _ (fun _ => b) ?_
            clear hK K
            rw [HR4.out] at o1 o2 ⊢
            rw [HE4.out]
            obtain ⟨A1, k1, rfl⟩ := o1.form
            obtain ⟨A2, k2, rfl⟩ := own_slice o2.own
            have S3 := Lib.hid (S2.out.did (Nat.le_trans HBL.out.size S2.out.hb.size) o1 o2 b)
            clear b S2 o1 o2
            unfold anV
            refine anyB_seg [4, 5, 6, 7] 4 rfl (by kernel_rfl) (by kernel_rfl) (by kernel_rfl) (fun _ _ d _ _ h => by cases d <;> exact h) ?_
            simp only [pickOps, List.getElem?_toArray, List.getElem?_cons_zero, List.getElem?_cons_succ]
            go_wp2_with fail
            refine ⟨rfl, by rfl, ?_⟩
            refine anyB_one (i := 8) (by kernel_rfl) rfl (fun K hK => ?_)
            go_simp
            refine hK.out _ _ (fun _ => (boxed _ _)) ?_
            clear hK K
            have S4 := Lib.hid S3.out.f12
            obtain ⟨z12, hz⟩ : ∃ z, x3.heap.size = z := ⟨_, rfl⟩
            rw [hz] at S4 ⊢
            generalize World.alloc _ _ = x4 at S4 ⊢
            clear S3 hz
            obtain ⟨b12, l12⟩ := S4.out.b12 _ rfl
            obtain ⟨b13, l13⟩ := S4.out.b13 _ rfl
            have n12 : ¬ (z13 = z12) := b13.ne_ b12 (by decide)
            have f0 := b12.cell_ 0 _ rfl
            have f1 := b12.cell_ 1 _ rfl
            have f2 := b13.cell_ 0 _ rfl
            have f3 := b13.cell_ 1 _ rfl
            have f4 := b13.cell_ 2 _ rfl
            have ff := b12.frozen
            have fg := b13.frozen
            clear b12 b13 l12 l13
            refine anyB_one (i := 10) (by kernel_rfl) rfl (fun K hK => ?_)
            go_simp
            refine hK.out _ _ (fun h => absurd (by decide) h) ?_
            clear hK K
            refine anyB_one (i := 11) (by kernel_rfl) rfl (fun K hK => ?_)
            go_simp
            refine hK.out _ _ (fun h => absurd (by decide) h) ?_
            clear hK K
            refine anyB_seg [12] 0 rfl (by kernel_rfl) (by kernel_rfl) (by kernel_rfl) (fun _ _ d _ _ h => by cases d <;> exact h) ?_
            simp only [pickOps, List.getElem?_toArray, List.getElem?_cons_zero, List.getElem?_cons_succ]
            go_wp2_with fail
            refine ⟨rfl, by rfl, ?_⟩
            refine anyB_done (by kernel_rfl) ?_ _
            have FN := Lib.hid (S4.out.fin (a := ⟨bK, bT, bS⟩) rfl)
            clear f0 f1 f2 f3 f4 ff fg n12
            generalize World.setCell _ _ _ = x9 at FN ⊢
            go_wp2_with fail
            go_meet
            exact ⟨z12, z13, _, _, rfl, rfl, rfl, FN.out⟩
          · go_simp
            refine hK.out _ _ (fun _ => (boxed _ _)) ?_
            clear hK K
            have S3 := Lib.hid S2.out.f12
            obtain ⟨z12, hz⟩ : ∃ z, x2.heap.size = z := ⟨_, rfl⟩
            rw [hz] at S3 ⊢
            generalize World.alloc _ _ = x3 at S3 ⊢
            clear S2 hz
            refine anyB_one (i := 3) (by kernel_rfl) rfl (fun K hK => ?_)
            unfold St.v
            go_simp
            refine (do_world _ _ _ _ _ _ (HT.out.below (HBL.out.trans (S3.out.hb.mono HBL.out.size))) (HX.out _ S3.out.hb) HP4.out HSZ.out.1 HSZ.out.2).mono ?_
            rintro e x4 ⟨r', s', cs', rfl, o1, o2, b⟩
            refine hK.out _ _ (fun _ => b) ?_
            clear hK K
            rw [HR4.out] at o1 o2 ⊢
            rw [HE4.out]
            obtain ⟨A1, k1, rfl⟩ := o1.form
            obtain ⟨A2, k2, rfl⟩ := own_slice o2.own
            have S4 := Lib.hid (S3.out.did (Nat.le_trans HBL.out.size S3.out.hb.size) o1 o2 b)
            clear b S3 o1 o2
            unfold anV
            refine anyB_seg [4, 5, 6, 7] 3 rfl (by kernel_rfl) (by kernel_rfl) (by kernel_rfl) (fun _ _ d _ _ h => by cases d <;> exact h) ?_
            simp only [pickOps, List.getElem?_toArray, List.getElem?_cons_zero, List.getElem?_cons_succ]
            go_wp2_with fail
            refine ⟨rfl, by rfl, ?_⟩
            obtain ⟨b12, l12⟩ := S4.out.b12 _ rfl
            obtain ⟨b13, l13⟩ := S4.out.b13 _ rfl
            have n12 : ¬ (z13 = z12) := b13.ne_ b12 (by decide)
            have f0 := b12.cell_ 0 _ rfl
            have f1 := b12.cell_ 1 _ rfl
            have f2 := b13.cell_ 0 _ rfl
            have f3 := b13.cell_ 1 _ rfl
            have f4 := b13.cell_ 2 _ rfl
            have ff := b12.frozen
            have fg := b13.frozen
            clear b12 b13 l12 l13
            refine anyB_one (i := 10) (by kernel_rfl) rfl (fun K hK => ?_)
            go_simp
            refine hK.out _ _ (fun h => absurd (by decide) h) ?_
            clear hK K
            refine anyB_one (i := 11) (by kernel_rfl) rfl (fun K hK => ?_)
            go_simp
            refine hK.out _ _ (fun h => absurd (by decide) h) ?_
            clear hK K
            refine anyB_seg [12] 0 rfl (by kernel_rfl) (by kernel_rfl) (by kernel_rfl) (fun _ _ d _ _ h => by cases d <;> exact h) ?_
            simp only [pickOps, List.getElem?_toArray, List.getElem?_cons_zero, List.getElem?_cons_succ]
            go_wp2_with fail
            refine ⟨rfl, by rfl, ?_⟩
            refine anyB_done (by kernel_rfl) ?_ _
            have FN := Lib.hid (S4.out.fin (a := ⟨bK, bT, bS⟩) rfl)
            clear f0 f1 f2 f3 f4 ff fg n12
            generalize World.setCell _ _ _ = x9 at FN ⊢
            go_wp2_with fail
            go_meet
            exact ⟨z12, z13, _, _, rfl, rfl, rfl, FN.out⟩
        · go_simp
          refine hK.out _ _ (fun _ => (boxed _ _)) ?_
          clear hK K
          have S2 := Lib.hid S1.out.f12
          obtain ⟨z12, hz⟩ : ∃ z, x1.heap.size = z := ⟨_, rfl⟩
          rw [hz] at S2 ⊢
          generalize World.alloc _ _ = x2 at S2 ⊢
          clear S1 hz
          refine anyB_one (i := 2) (by kernel_rfl) rfl (fun K hK => ?_)
          go_simp
          refine (stmt_any _ _ _ _ HWF.out.k HWF.out.a HWF.out.b HWF.out.c _).mono ?_
          rintro e x3 ⟨rfl, b⟩
          refine hK.out _ _ (fun _ => b) ?_
          clear hK K
          have S3 := Lib.hid (S2.out.keep b)
          clear b S2
          refine anyB_one (i := 3) (by kernel_rfl) rfl (fun K hK => ?_)
          unfold St.v
          go_simp
          refine (do_world _ _ _ _ _ _ (HT.out.below (HBL.out.trans (S3.out.hb.mono HBL.out.size))) (HX.out _ S3.out.hb) HP4.out HSZ.out.1 HSZ.out.2).mono ?_
          rintro e x4 ⟨r', s', cs', rfl, o1, o2, b⟩
          refine hK.out _ _ (fun _ => b) ?_
          clear hK K
          rw [HR4.out] at o1 o2 ⊢
          rw [HE4.out]
          obtain ⟨A1, k1, rfl⟩ := o1.form
          obtain ⟨A2, k2, rfl⟩ := own_slice o2.own
          have S4 := Lib.hid (S3.out.did (Nat.le_trans HBL.out.size S3.out.hb.size) o1 o2 b)
          clear b S3 o1 o2
          unfold anV
          refine anyB_seg [4, 5, 6, 7] 3 rfl (by kernel_rfl) (by kernel_rfl) (by kernel_rfl) (fun _ _ d _ _ h => by cases d <;> exact h) ?_
          simp only [pickOps, List.getElem?_toArray, List.getElem?_cons_zero, List.getElem?_cons_succ]
          go_wp2_with fail
          refine ⟨rfl, by rfl, ?_⟩
          obtain ⟨b12, l12⟩ := S4.out.b12 _ rfl
          obtain ⟨b13, l13⟩ := S4.out.b13 _ rfl
          have n12 : ¬ (z13 = z12) := b13.ne_ b12 (by decide)
          have f0 := b12.cell_ 0 _ rfl
          have f1 := b12.cell_ 1 _ rfl
          have f2 := b13.cell_ 0 _ rfl
          have f3 := b13.cell_ 1 _ rfl
          have f4 := b13.cell_ 2 _ rfl
          have ff := b12.frozen
          have fg := b13.frozen
          clear b12 b13 l12 l13
          refine anyB_one (i := 10) (by kernel_rfl) rfl (fun K hK => ?_)
          go_simp
          refine hK.out _ _ (fun h => absurd (by decide) h) ?_
          clear hK K
          refine anyB_one (i := 11) (by kernel_rfl) rfl (fun K hK => ?_)
          go_simp
          refine hK.out _ _ (fun h => absurd (by decide) h) ?_
          clear hK K
          refine anyB_seg [12] 0 rfl (by kernel_rfl) (by kernel_rfl) (by kernel_rfl) (fun _ _ d _ _ h => by cases d <;> exact h) ?_
          simp only [pickOps, List.getElem?_toArray, List.getElem?_cons_zero, List.getElem?_cons_succ]
          go_wp2_with fail
          refine ⟨rfl, by rfl, ?_⟩
          refine anyB_done (by kernel_rfl) ?_ _
          have FN := Lib.hid (S4.out.fin (a := ⟨bK, bT, bS⟩) rfl)
          clear f0 f1 f2 f3 f4 ff fg n12
          generalize World.setCell _ _ _ = x9 at FN ⊢
          go_wp2_with fail
          go_meet
          exact ⟨z12, z13, _, _, rfl, rfl, rfl, FN.out⟩
    case rest =>
      obtain ⟨z14, z15, r', s', rfl, rfl, rfl, FN4⟩ := hcut
      have M3 := Lib.hid (M2.out.keep FN4.hb)
      have F3 := Lib.hid (FN.out.keep FN4.hb)
      clear FN4 M2 FN HX HBL p0 p1 p2 p3 y0 y1
      have HBL := Lib.hid M3.out.bel
      obtain ⟨cs2, o2⟩ := F3.out.ses
      obtain ⟨g, cap, rfl⟩ := o2.form (by rw [HL2.out]; decide)
      obtain ⟨A3, k3, rfl⟩ := F3.out.rows.form
      clear o2
      go_upto_region 5 with fail
      obtain ⟨r0, s0, y, hx⟩ := M3.out.box.wl (by rw [HGV.out.2]; decide)
      have HX := Lib.hid hx
      have y0 := ((y.keep (Below.refl _ _).drew)).cell_ 0 _ rfl
      have y1 := ((y.keep (Below.refl _ _).drew)).cell_ 1 _ rfl
      clear y hx
      refine region_segs [] (by kernel_rfl) ?_
      refine anyB_seg [0, 1, 2, 3, 4, 5, 6, 7, 8, 9, 10] 26 rfl (by kernel_rfl) (by kernel_rfl) (by kernel_rfl) (fun _ _ d _ _ h => by cases d <;> exact h) ?_
      simp only [pickOps, List.getElem?_toArray, List.getElem?_cons_zero, List.getElem?_cons_succ]
      go_wp2_with fail
      refine ⟨rfl, by rfl, ?_⟩
      have M4 := Lib.hid (M3.out.keep (Below.refl _ _).drew)
      have F4 := Lib.hid (F3.out.keep (Below.refl _ _).drew)
      have hX4 := HX.out _ (Below.refl _ _).drew
      clear y0 y1 M3 F3 HX HBL
      generalize World.drew _ = x0 at M4 F4 hX4 ⊢
      refine anyB_one (i := 11) (by kernel_rfl) rfl (fun K hK => ?_)
      go_simp
      refine (check_world _ _ _ V (HT.out.below M4.out.bel) hX4).mono ?_
      rintro e x1 ⟨rfl, b⟩
      refine hK.out _ _ (fun _ => b) ?_
      clear hK K
      have hV0 : chkE V = 0 := by unfold chkE; rw [if_pos ((good_iff V).2 HGV.out.1)]
      rw [hV0]
      have M5 := Lib.hid (M4.out.keep b)
      have F5 := Lib.hid (F4.out.keep b)
      clear b M4 F4 hX4 hV0
      have f0 := F5.out.b12.cell_ 0 _ rfl
      have f1 := F5.out.b12.cell_ 1 _ rfl
      refine anyB_seg [12, 13, 14, 15] 21 rfl (by kernel_rfl) (by kernel_rfl) (by kernel_rfl) (fun _ _ d _ _ h => by cases d <;> exact h) ?_
      simp only [pickOps, List.getElem?_toArray, List.getElem?_cons_zero, List.getElem?_cons_succ]
      go_wp2_with fail
      refine ⟨rfl, by rfl, ?_⟩
      clear f0 f1
      refine anyB_one (i := 16) (by kernel_rfl) rfl (fun K hK => ?_)
      go_simp
      refine (check_world _ _ _ W2 (HT.out.below M5.out.bel) (F5.out.wl (by rw [HL2.out]; decide))).mono ?_
      rintro e x2 ⟨rfl, b⟩
      refine hK.out _ _ (fun _ => b) ?_
      clear hK K
      have hV0 : chkE W2 = 0 := by unfold chkE; rw [if_pos ((good_iff W2).2 HG2.out)]
      rw [hV0]
      have M6 := Lib.hid (M5.out.keep b)
      have F6 := Lib.hid (F5.out.keep b)
      clear b M5 F5 hV0
      obtain ⟨cs3, o3⟩ := F6.out.ses
      have f1 := F6.out.b12.cell_ 1 _ rfl
      have f2 := F6.out.b13.cell_ 2 _ rfl
      have c0 := o3.st_at i (by rw [HL2.out]; omega)
      replace c0 : x2.cell? ⟨g, i * 5, none⟩ = some (.int .i64 aS) := by rw [HST.out]; exact c0
      replace f1 : x2.cell? ⟨z12, 1, none⟩ = some (.slice (some ⟨g, 0, none⟩) 4 cap) := by rw [← HL2.out]; exact f1
      have g1 : (i : Int) < 4 := by omega
      have g2 : (0 : Int) ≤ (i : Int) := by omega
      clear o3
      refine anyB_seg [17, 18, 19, 20, 21, 22, 23, 24, 25, 26, 27, 28, 29, 30, 31, 32, 33, 34, 35, 36] 0 rfl (by kernel_rfl) (by kernel_rfl) (by kernel_rfl) (fun _ _ d _ _ h => by cases d <;> exact h) ?_
      simp only [pickOps, List.getElem?_toArray, List.getElem?_cons_zero, List.getElem?_cons_succ]
      go_wp2_with fail
      refine ⟨rfl, by rfl, ?_⟩
      refine anyB_done (by kernel_rfl) ?_ _
      go_wp2_with fail
      go_ret
      exact ⟨by simp, M6.out.bel⟩
end Go.Proofs.YtjbnfigpflambabDoor
