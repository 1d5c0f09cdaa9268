/- The walk of OthersStay: it returns true. -/
import Derived.Test.YtjbnfigpflambabDoorGoodW
import Derived.Test.YtjbnfigpflambabDoorEq
namespace Go.Proofs.YtjbnfigpflambabDoor
open Go.ChangeShapes Go.WideShapes Go.ChangeAt Go.RowKit

theorem BoxW.open_ {B : Nat} {w : World} {q n : Nat} {V : Wo} (h : BoxW B w q V) (hl : V.ses.length = n) (hn : 0 < n) : ∃ A k g cap cs, Blk w q 31 #[.slice A V.rows.length k, .slice (some ⟨g, 0, none⟩) n cap] ∧ OPL w B (.slice A V.rows.length k) V.rows ∧ OSL w B (.slice (some ⟨g, 0, none⟩) n cap) V.ses cs := by
  obtain ⟨r, s, b, o1, cs, o2⟩ := h.box
  obtain ⟨A, k, rfl⟩ := o1.form
  obtain ⟨g, cap, rfl⟩ := o2.form (by omega)
  rw [hl] at b o2
  exact ⟨A, k, g, cap, cs, b, o1, o2⟩
theorem SL.seat {w : World} {B g n cap : Nat} {ss : List Se} (h : SL w B (.slice (some ⟨g, 0, none⟩) n cap) ss) (i : Nat) (hi : i < ss.length) : g < B ∧ SeAt w B ⟨g, i * 5, none⟩ ss[i] := by
  obtain ⟨A, c, e, _, _, hs⟩ := h
  obtain ⟨ad, hA, hB, hse⟩ := hs (by omega)
  injection e with e1 e2 e3
  rw [hA] at e1
  injection e1 with e1
  subst e1
  have hadd : ∀ n, (⟨g, 0, none⟩ : Addr).add n = ⟨g, n, none⟩ := fun n => by unfold Addr.add; split <;> simp_all
  have := hse i hi
  rw [hadd] at this
  exact ⟨hB, this⟩
structure OthAt (W0 wx : World) (q5 q9 z : Nat) (x : Rw) (V W2 : Wo) : Prop where
  bel : Below W0.heap.size W0 wx
  b5 : BoxW W0.heap.size wx q5 V
  b9 : Blk wx q9 23 #[.int .i64 x.st.k, .string x.st.key, .string x.st.val]
  b10 : BoxW W0.heap.size wx z W2
theorem OthAt.keep {W0 wx wy : World} {q5 q9 z : Nat} {x : Rw} {V W2 : Wo} (h : OthAt W0 wx q5 q9 z x V W2) (hb : Below wx.heap.size wx wy) : OthAt W0 wy q5 q9 z x V W2 :=
  ⟨below_step h.bel (Nat.le_refl _) hb, h.b5.keep hb, h.b9.keep hb, h.b10.keep hb⟩
set_option maxHeartbeats 16000000 in
set_option maxRecDepth 100000 in
theorem othersStay_walk (W0 : World) (hT : Tabs W0) (v : Value) (l : List Rw) (hl : RL W0 W0.heap.size v l) (k : Int) (hk : (Lit.int .i64 k).wf = true) (a : Int) (ha : (Lit.int .i64 a).wf = true) (b : Int) (hb : (Lit.int .i64 b).wf = true) (c : Int) (hc : (Lit.int .i64 c).wf = true) :
    Calls Tryd.prog 10 #[v, .agg #[.int .i64 k, .int .i64 a, .int .i64 b, .int .i64 c]] W0 fun e w' => e = .returned (.bool true) ∧ Below W0.heap.size W0 w' := by
  have HT := Lib.hid hT
  have HL := Lib.hid hl
  have HWF := Lib.hid (show Rw.Wf ⟨k, a, b, c⟩ from ⟨hk, ha, hb, hc⟩)
  have HPI := Lib.hid (i64_wf (a := pick c 4) (pick_bd c 4 (by decide)).1 (by have := (pick_bd c 4 (by decide)).2; omega))
  have HSZ := Lib.hid (show (Rw.st ⟨k, a, b, c⟩).key.size ≤ maxLen ∧ (Rw.st ⟨k, a, b, c⟩).val.size ≤ maxLen by have := raw_size k a b c; unfold maxLen; exact ⟨Nat.le_trans this.1 (by decide), Nat.le_trans this.2 (by decide)⟩)
  clear hT hl hk ha hb hc
  obtain ⟨q, hq⟩ : ∃ q, W0.heap.size = q := ⟨_, rfl⟩
  have hraw := Blk.new W0 42 #[.int .i64 k, .int .i64 a, .int .i64 b, .int .i64 c]
  rw [hq] at hraw
  have R0 := Lib.hid hraw
  have HQ := Lib.hid hq
  clear hraw
  go_enter Tryd.func10, Tryd.ntmps10
  go_wp2_with fail
  refine (played4 _ _ l ((HL.out.below (boxed _ _)).more (by simp)) 60 (by decide) (HT.out.below (boxed _ _))).mono ?_
  rintro e w1 ⟨r, s, o, cs, rfl, o1, o2, b1⟩
  obtain ⟨hgood, hlen⟩ := play_good (n := 4) (by decide) (l.take 60) (new_good 4 (by decide)) (new_len 4)
  obtain ⟨V, hV⟩ : ∃ V, playL 4 (l.take 60) (newW 4) = V := ⟨_, rfl⟩
  rw [hV] at o1 o2 hgood hlen
  have hr1 := R0.out.keep b1
  have hb1 : Below W0.heap.size W0 w1 := below_of_alloc (Nat.le_refl _) b1
  obtain ⟨A1, k1, rfl⟩ := o1.form
  obtain ⟨A2, k2, rfl⟩ := own_slice o2.own
  have hs : W0.heap.size ≤ (W0.alloc (.cells #[.int .i64 k, .int .i64 a, .int .i64 b, .int .i64 c] 42)).heap.size := by simp
  have M1 := Lib.hid (show LawAt W0 (w1.alloc (.cells #[.slice A1 V.rows.length k1, .slice A2 V.ses.length k2] 31)) q w1.heap.size ⟨k, a, b, c⟩ V from ⟨hb1.alloc hb1.size _, hr1.alloc _, ⟨_, _, Blk.new w1 _ _, (o1.base hs).keeps (.alloc _ _), cs, osl_keeps (o2.base hs) (.alloc _ _) (.alloc _ _)⟩⟩)
  obtain ⟨q5, hq5⟩ : ∃ z, w1.heap.size = z := ⟨_, rfl⟩
  rw [hq5] at M1
  clear o1 o2 b1 hr1 hb1 R0 hs hq
  obtain ⟨i, hi4, hpi⟩ : ∃ i : Nat, i < 4 ∧ pick c 4 = (i : Int) := ⟨(pick c 4).toNat, by have := pick_bd c 4 (by decide); omega, by have := pick_bd c 4 (by decide); omega⟩
  have hPick := Lib.hid hpi
  rw [hpi] at HPI
  obtain ⟨hee, hrr⟩ := do_step hgood hlen (by decide) ⟨k, a, b, c⟩
  have hsess : Rw.sess ⟨k, a, b, c⟩ 4 = i := by have h4 := (sess_lt ⟨k, a, b, c⟩ (n := 4) (by decide)).2; have : pick c 4 = ((Rw.sess ⟨k, a, b, c⟩ 4 : Nat) : Int) := h4; omega
  rw [hsess] at hrr
  have hmine := doW_mine V i (Rw.st ⟨k, a, b, c⟩)
  have hrow := doW_rows V i (Rw.st ⟨k, a, b, c⟩)
  have hln := doW_length V i (Rw.st ⟨k, a, b, c⟩)
  change doE V (pick c 4) _ = 0 at hee
  change doR V (pick c 4) _ = _ at hrr
  rw [hpi] at hee hrr
  obtain ⟨R, hRD⟩ : ∃ R, doW V i (Rw.st ⟨k, a, b, c⟩) = R := ⟨_, rfl⟩
  rw [hRD] at hrr hmine hrow hln
  obtain ⟨W2, aK, aT, aS⟩ := R
  have HRR := Lib.hid hrr
  have HEE := Lib.hid hee
  have HMI := Lib.hid (show ∀ j, j ≠ i → W2.se j = V.se j from hmine.2)
  have HRW := Lib.hid hrow
  have HLV := Lib.hid hlen
  have HL2 := Lib.hid (show W2.ses.length = 4 from hln.trans hlen)
  clear hrr hee hmine hrow hln hgood hlen hRD hsess hpi hV
  go_upto_region 2 with fail
  generalize World.alloc _ _ = wr at M1 ⊢
  have c3 := M1.out.raw.cell_ 3 _ rfl
  go_wp2_with fail
  refine (picked_any _ _ _ HWF.out.c (by omega) (by omega)).mono ?_
  rintro e w2 ⟨rfl, rfl⟩
  rw [hPick.out]
  go_upto_region 3 with fail
  have p0 := M1.out.raw.cell_ 0 _ rfl
  have p1 := M1.out.raw.cell_ 1 _ rfl
  have p2 := M1.out.raw.cell_ 2 _ rfl
  go_wp2_with fail
  refine (stmt_any _ _ _ _ HWF.out.k HWF.out.a HWF.out.b HWF.out.c _).mono ?_
  rintro e x1 ⟨rfl, b1⟩
  unfold St.v
  have M2 := Lib.hid (M1.out.keep b1)
  clear b1 c3 p0 p1 p2 M1
  obtain ⟨A, kA, g, cap, cs2, y, o1, o2⟩ := M2.out.box.open_ HLV.out (by decide)
  obtain ⟨q9, hq9⟩ : ∃ z, x1.heap.size = z := ⟨_, rfl⟩
  have B9 := Blk.new x1 23 #[.int .i64 (rawS k a b c).k, .string (rawS k a b c).key, .string (rawS k a b c).val]
  rw [hq9] at B9
  have M3 := Lib.hid (M2.out.keep (boxed x1 (.cells #[.int .i64 (rawS k a b c).k, .string (rawS k a b c).key, .string (rawS k a b c).val] 23)))
  have hwl := HLV.out
  have HX := Lib.hid (show WL (x1.alloc (.cells #[.int .i64 (rawS k a b c).k, .string (rawS k a b c).key, .string (rawS k a b c).val] 23)) _ (.slice A V.rows.length kA) (.slice (some ⟨g, 0, none⟩) 4 cap) V from ⟨(o1.keeps (.alloc _ _)).pl, (osl_keeps o2 (.alloc _ _) (.alloc _ _)).sl (by omega)⟩)
  have y0 := (y.alloc (.cells #[.int .i64 (rawS k a b c).k, .string (rawS k a b c).key, .string (rawS k a b c).val] 23)).cell_ 0 _ rfl
  have y1 := (y.alloc (.cells #[.int .i64 (rawS k a b c).k, .string (rawS k a b c).key, .string (rawS k a b c).val] 23)).cell_ 1 _ rfl
  clear M2 y o1 o2 hwl
  go_upto_region 4 with fail
  generalize World.alloc _ _ = x2 at M3 HX y0 y1 B9 ⊢
  have a0 := B9.cell_ 0 _ rfl
  have a1 := B9.cell_ 1 _ rfl
  have a2 := B9.cell_ 2 _ rfl
  have H9 := Lib.hid B9
  clear B9
  go_wp2_with fail
  refine (do_world _ _ _ V _ (Rw.st ⟨k, a, b, c⟩) (HT.out.below M3.out.bel) HX.out HPI.out HSZ.out.1 HSZ.out.2).mono ?_
  rintro e x3 ⟨r', s', cs', rfl, o1, o2, bb⟩
  rw [HRR.out] at o1 o2 ⊢
  rw [HEE.out]
  obtain ⟨A3, k3, rfl⟩ := o1.form
  obtain ⟨g2, cap2, rfl⟩ := o2.form (by rw [HL2.out]; decide)
  unfold anV
  have M4 := Lib.hid (show OthAt W0 ((x3.alloc (.cells #[.slice A3 W2.rows.length k3, .slice (some ⟨g2, 0, none⟩) W2.ses.length cap2] 31)).alloc (.cells #[.int .i64 aK, .string aT, .int .i64 aS] 48)) q5 q9 x3.heap.size ⟨k, a, b, c⟩ V W2 from
    ⟨below_step (below_step M3.out.bel (Nat.le_refl _) bb) (Nat.le_refl _) (boxed2 _ _ _), (M3.out.box.keep bb).keep (boxed2 _ _ _), ((H9.out.keep bb).alloc _).alloc _, ⟨_, _, (Blk.new x3 _ _).alloc _, (o1.base M3.out.bel.size).keeps (.of_below (boxed2 _ _ _)), cs', osl_keeps (o2.base M3.out.bel.size) (.of_below (boxed2 _ _ _)) (.of_below (boxed2 _ _ _))⟩⟩)
  obtain ⟨z, hz⟩ : ∃ z, x3.heap.size = z := ⟨_, rfl⟩
  rw [hz] at M4
  clear bb o1 o2 a0 a1 a2 y0 y1 H9 M3 HX
  go_upto_region 5 with fail
  generalize World.alloc _ _ = x4 at M4 ⊢
  clear hz
  obtain ⟨A5, kA5, g5, cap5, cs5, w5, p1, p2⟩ := M4.out.b5.open_ HLV.out (by decide)
  obtain ⟨A6, kA6, g6, cap6, cs6, w6, p3, p4⟩ := M4.out.b10.open_ HL2.out (by decide)
  have hlv := HLV.out
  have hlw := HL2.out
  have S5 := Lib.hid (p2.sl (by omega))
  have S6 := Lib.hid (p4.sl (by omega))
  have R5 := Lib.hid p1
  have R6 := Lib.hid p3
  have X5 := Lib.hid w5
  have X6 := Lib.hid w6
  have y1 := w5.cell_ 1 _ rfl
  have z1 := w6.cell_ 1 _ rfl
  clear w5 w6 p1 p2 p3 p4 hlv hlw
  go_wp2_with fail
  go_loopw [54] (fun i wx => ∃ kk : Nat, kk ≤ 4 ∧ i = .int .i64 kk ∧ Below x4.heap.size x4 wx) (fun i _ => 4 - (intOf i).toNat)
  case atStart => exact ⟨0, Nat.zero_le _, rfl, Below.refl _ _⟩
  case round =>
    obtain ⟨kk, hk, rfl, hb⟩ := hrel
    by_cases hlt : kk < 4
    · have hv : kk < V.ses.length := by rw [HLV.out]; exact hlt
      have hw : kk < W2.ses.length := by rw [HL2.out]; exact hlt
      have P := (S5.out.seat kk hv).2.below (by exact (S5.out.seat kk hv).1) hb
      have Q := (S6.out.seat kk hw).2.below (by exact (S6.out.seat kk hw).1) hb
      obtain ⟨S, hS⟩ : ∃ S, V.ses[kk] = S := ⟨_, rfl⟩
      obtain ⟨T, hTt⟩ : ∃ T, W2.ses[kk] = T := ⟨_, rfl⟩
      have hST := Lib.hid (show kk ≠ i → T = S from fun hne => by
        have := HMI.out kk hne
        unfold Wo.se at this
        rw [getD_at hw, getD_at hv, hTt, hS] at this
        exact this)
      rw [hS] at P
      rw [hTt] at Q
      obtain ⟨P0, ⟨v1, P1, P1'⟩, ⟨v2, P2, P2'⟩, ⟨v3, P3, P3'⟩, ⟨v4, P4, P4'⟩, _⟩ := P
      obtain ⟨Q0, ⟨u1, Q1, Q1'⟩, ⟨u2, Q2, Q2'⟩, ⟨u3, Q3, Q3'⟩, ⟨u4, Q4, Q4'⟩, _⟩ := Q
      obtain ⟨a1, d1, rfl⟩ := P1'.form
      obtain ⟨a2, d2, rfl⟩ := P2'.form
      obtain ⟨a3, d3, rfl⟩ := P3'.form
      obtain ⟨a4, d4, rfl⟩ := P4'.form
      obtain ⟨e1, f1, rfl⟩ := Q1'.form
      obtain ⟨e2, f2, rfl⟩ := Q2'.form
      obtain ⟨e3, f3, rfl⟩ := Q3'.form
      obtain ⟨e4, f4, rfl⟩ := Q4'.form
      have x1 : wr.cell? ⟨g5, kk * 5 + 1, none⟩ = some (.slice a1 S.set.length d1) := P1
      have x2 : wr.cell? ⟨g5, kk * 5 + 2, none⟩ = some (.slice a2 S.pre.length d2) := P2
      have x3 : wr.cell? ⟨g5, kk * 5 + 3, none⟩ = some (.slice a3 S.sav.length d3) := P3
      have x4' : wr.cell? ⟨g5, kk * 5 + 4, none⟩ = some (.slice a4 S.wri.length d4) := P4
      have t1 : wr.cell? ⟨g6, kk * 5 + 1, none⟩ = some (.slice e1 T.set.length f1) := Q1
      have t2 : wr.cell? ⟨g6, kk * 5 + 2, none⟩ = some (.slice e2 T.pre.length f2) := Q2
      have t3 : wr.cell? ⟨g6, kk * 5 + 3, none⟩ = some (.slice e3 T.sav.length f3) := Q3
      have t4 : wr.cell? ⟨g6, kk * 5 + 4, none⟩ = some (.slice e4 T.wri.length f4) := Q4
      have hz1 := keep_cell hb z1
      have g1 : (kk : Int) < 4 := by omega
      have g2 : (0 : Int) ≤ (kk : Int) := by omega
      have HB := Lib.hid hb
      have hle := hb.size
      have E1 := Lib.hid (show ∀ u, Below wr.heap.size wr u → PL u u.heap.size (.slice a1 S.set.length d1) S.set from fun u h => ((P1'.more hle).below h).more h.size)
      have E2 := Lib.hid (show ∀ u, Below wr.heap.size wr u → PL u u.heap.size (.slice a2 S.pre.length d2) S.pre from fun u h => ((P2'.more hle).below h).more h.size)
      have E4 := Lib.hid (show ∀ u, Below wr.heap.size wr u → PL u u.heap.size (.slice a4 S.wri.length d4) S.wri from fun u h => ((P4'.more hle).below h).more h.size)
      have F1 := Lib.hid (show ∀ u, Below wr.heap.size wr u → PL u u.heap.size (.slice e1 T.set.length f1) T.set from fun u h => ((Q1'.more hle).below h).more h.size)
      have F2 := Lib.hid (show ∀ u, Below wr.heap.size wr u → PL u u.heap.size (.slice e2 T.pre.length f2) T.pre from fun u h => ((Q2'.more hle).below h).more h.size)
      have F4 := Lib.hid (show ∀ u, Below wr.heap.size wr u → PL u u.heap.size (.slice e4 T.wri.length f4) T.wri from fun u h => ((Q4'.more hle).below h).more h.size)
      clear P1 P2 P3 P4 Q1 Q2 Q3 Q4 P1' P2' P3' P4' Q1' Q2' Q3' Q4' hS hTt hv hw hle
      have lz : z < wr.heap.size := World.block_lt_of_cell? wr _ hz1
      have l6 : g6 < wr.heap.size := World.block_lt_of_cell? wr _ Q0
      clear y1 z1
      obtain ⟨b14, hb14⟩ : ∃ z, wr.heap.size = z := ⟨_, rfl⟩
      rw [hb14] at lz l6
      go_upto_region 11 with fail
      have B14 := (Blk.new wr 58 #[.int .i64 S.st, .slice a1 S.set.length d1, .slice a2 S.pre.length d2, .slice a3 S.sav.length d3, .slice a4 S.wri.length d4]).alloc (.cells #[.int .i64 T.st, .slice e1 T.set.length f1, .slice e2 T.pre.length f2, .slice e3 T.sav.length f3, .slice e4 T.wri.length f4] 58)
      have B15 := Blk.new1 wr (.cells #[.int .i64 S.st, .slice a1 S.set.length d1, .slice a2 S.pre.length d2, .slice a3 S.sav.length d3, .slice a4 S.wri.length d4] 58) 58 #[.int .i64 T.st, .slice e1 T.set.length f1, .slice e2 T.pre.length f2, .slice e3 T.sav.length f3, .slice e4 T.wri.length f4]
      rw [hb14] at B14 B15
      have y0 := B14.cell_ 0 _ rfl
      have z0 := B15.cell_ 0 _ rfl
      have y1 := B14.cell_ 1 _ rfl
      have z1 := B15.cell_ 1 _ rfl
      have y2 := B14.cell_ 2 _ rfl
      have z2 := B15.cell_ 2 _ rfl
      have y3 := B14.cell_ 3 _ rfl
      have z3 := B15.cell_ 3 _ rfl
      have y4 := B14.cell_ 4 _ rfl
      have z4 := B15.cell_ 4 _ rfl
      have HB5 := Lib.hid (boxed2 wr (.cells #[.int .i64 S.st, .slice a1 S.set.length d1, .slice a2 S.pre.length d2, .slice a3 S.sav.length d3, .slice a4 S.wri.length d4] 58) (.cells #[.int .i64 T.st, .slice e1 T.set.length f1, .slice e2 T.pre.length f2, .slice e3 T.sav.length f3, .slice e4 T.wri.length f4] 58))
      clear B14 B15 x1 x2 x3 x4' t1 t2 t3 t4 P0 Q0 hz1 g1 g2 lz l6
      generalize World.alloc _ _ = x5 at HB5 y0 y1 y2 y3 y4 z0 z1 z2 z3 z4 ⊢
      by_cases hki : kk = i
      · have q1 : ((kk : Int) != (i : Int)) = false := by simp [hki]
        go_wp2_with fail
        go_roundw
        case rel => exact ⟨kk + 1, by omega, by go_num, below_step HB.out (Nat.le_refl _) HB5.out⟩
        case measure => simp [intOf]; omega
      · have q1 : ((kk : Int) != (i : Int)) = true := by simp; omega
        have hTS := hST.out hki
        rw [hTS] at F1 F2 F4 z0 z1 z2 z3 z4
        go_wp2_with fail
        refine (equal_same _ _ _ S.set (E1.out _ HB5.out) (F1.out _ HB5.out)).mono ?_
        rintro e x6 ⟨rfl, b⟩
        have HB6 := Lib.hid (below_step HB5.out (Nat.le_refl _) b)
        replace y0 := keep_cell b y0
        replace y1 := keep_cell b y1
        replace y2 := keep_cell b y2
        replace y3 := keep_cell b y3
        replace y4 := keep_cell b y4
        replace z0 := keep_cell b z0
        replace z1 := keep_cell b z1
        replace z2 := keep_cell b z2
        replace z3 := keep_cell b z3
        replace z4 := keep_cell b z4
        clear b HB5
        go_wp2_with fail
        refine (equal_same _ _ _ S.pre (E2.out _ HB6.out) (F2.out _ HB6.out)).mono ?_
        rintro e x7 ⟨rfl, b⟩
        have HB7 := Lib.hid (below_step HB6.out (Nat.le_refl _) b)
        replace y0 := keep_cell b y0
        replace y1 := keep_cell b y1
        replace y2 := keep_cell b y2
        replace y3 := keep_cell b y3
        replace y4 := keep_cell b y4
        replace z0 := keep_cell b z0
        replace z1 := keep_cell b z1
        replace z2 := keep_cell b z2
        replace z3 := keep_cell b z3
        replace z4 := keep_cell b z4
        clear b HB6
        go_wp2_with fail
        refine (equal_same _ _ _ S.wri (E4.out _ HB7.out) (F4.out _ HB7.out)).mono ?_
        rintro e x8 ⟨rfl, b⟩
        have HB8 := Lib.hid (below_step HB7.out (Nat.le_refl _) b)
        replace y0 := keep_cell b y0
        replace y1 := keep_cell b y1
        replace y2 := keep_cell b y2
        replace y3 := keep_cell b y3
        replace y4 := keep_cell b y4
        replace z0 := keep_cell b z0
        replace z1 := keep_cell b z1
        replace z2 := keep_cell b z2
        replace z3 := keep_cell b z3
        replace z4 := keep_cell b z4
        clear b HB7
        go_wp2_with fail
        go_roundw
        case rel => exact ⟨kk + 1, by omega, by go_num, below_step HB.out (Nat.le_refl _) HB8.out⟩
        case measure => simp [intOf]; omega
    · obtain rfl : kk = 4 := by omega
      have M5 := Lib.hid (M4.out.keep hb)
      have y0 := (X5.out.keep hb).cell_ 0 _ rfl
      have z0 := (X6.out.keep hb).cell_ 0 _ rfl
      have a0 := M5.out.b9.cell_ 0 _ rfl
      have D5 := Lib.hid (((R5.out.keeps (.of_below hb))).pl)
      have D6 := Lib.hid (((R6.out.keeps (.of_below hb))).pl)
      obtain ⟨K, hK⟩ : ∃ K, (Rw.st ⟨k, a, b, c⟩).k = K := ⟨_, rfl⟩
      have HRK := HRW.out
      change (Rw.st ⟨k, a, b, c⟩).k ≠ 2 → (Rw.st ⟨k, a, b, c⟩).k ≠ 10 → (Rw.st ⟨k, a, b, c⟩).k ≠ 8 → W2.rows = V.rows at HRK
      rw [hK] at HRK
      change wr.cell? ⟨q9, 0, none⟩ = some (.int .i64 (Rw.st ⟨k, a, b, c⟩).k) at a0
      rw [hK] at a0
      have HRK := Lib.hid HRK
      clear hK hb M4 y1 z1
      by_cases h10 : K = 10
      · subst h10
        go_wp2_with fail
        go_ret
        exact ⟨by simp, M5.out.bel⟩
      have k10 : (K == 10) = false := by simpa using h10
      by_cases h8 : K = 8
      · subst h8
        go_wp2_with fail
        go_ret
        exact ⟨by simp, M5.out.bel⟩
      have k8 : (K == 8) = false := by simpa using h8
      by_cases h2 : K = 2
      · subst h2
        go_wp2_with fail
        go_ret
        exact ⟨by simp, M5.out.bel⟩
      have k2 : (K == 2) = false := by simpa using h2
      have hrows := HRK.out h2 h10 h8
      have D6 := D6.out
      rw [hrows] at D6 z0
      have D6 := Lib.hid D6
      clear hrows
      go_wp2_with fail
      refine (equal_same _ _ _ V.rows D5.out D6.out).mono ?_
      rintro e x9 ⟨rfl, b⟩
      go_wp2_with fail
      go_ret
      exact ⟨by simp, below_step M5.out.bel (Nat.le_refl _) b⟩
end Go.Proofs.YtjbnfigpflambabDoor
