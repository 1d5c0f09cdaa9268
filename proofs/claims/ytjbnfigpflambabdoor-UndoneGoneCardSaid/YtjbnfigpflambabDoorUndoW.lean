/- The walk of UndoneGone: it returns true. -/
import Derived.Test.YtjbnfigpflambabDoorSaidK
namespace Go.Proofs.YtjbnfigpflambabDoor
open Go.ChangeShapes Go.WideShapes Go.ChangeAt Go.RowKit

/-- in the midst: the world before, the world in the transaction, the answer to begin -/
structure UnAt (W0 wx : World) (q7 z12 z13 : Nat) (W V : Wo) (a : An) : Prop where
  bel : Below W0.heap.size W0 wx
  b7 : BoxW W0.heap.size wx q7 W
  b12 : BoxW W0.heap.size wx z12 V
  b13 : Blk wx z13 48 #[.int .i64 a.kind, .string a.text, .int .i64 a.st]
  ne : q7 ≠ z12
  l12 : W0.heap.size ≤ z12
section
variable {W0 wx wy : World} {q7 z12 z13 : Nat} {W V : Wo} {a : An}
theorem UnAt.keep (h : UnAt W0 wx q7 z12 z13 W V a) (hb : Below wx.heap.size wx wy) : UnAt W0 wy q7 z12 z13 W V a :=
  ⟨below_step h.bel (Nat.le_refl _) hb, h.b7.keep hb, h.b12.keep hb, h.b13.keep hb, h.ne, h.l12⟩
theorem UnAt.turn (h : UnAt W0 wx q7 z12 z13 W V a) {V' : Wo} {r s : Value} {cs : List Value} (o1 : OPL wx W0.heap.size r V'.rows) (o2 : OSL wx W0.heap.size s V'.ses cs) : UnAt W0 ((wx.setCell ⟨z12, 0, none⟩ r).setCell ⟨z12, 1, none⟩ s) q7 z12 z13 W V' a := by
  obtain ⟨_, _, b, _⟩ := h.b12.box
  have n13 := h.b13.ne_ b (by decide)
  have l : ∀ j, W0.heap.size ≤ (⟨z12, j, none⟩ : Addr).block := fun _ => h.l12
  exact ⟨(h.bel.setCell (l 0) _).setCell (l 1) _, h.b7.off b h.ne, h.b12.turn o1 o2, (h.b13.far (p := ⟨z12, 0, none⟩) n13 _).far (p := ⟨z12, 1, none⟩) n13 _, h.ne, h.l12⟩
theorem UnAt.setS (h : UnAt W0 wx q7 z12 z13 W V a) {p : Nat} {c : Array Value} (hp : Blk wx p 23 c) (lp : W0.heap.size ≤ p) (j : Nat) (u : Value) : UnAt W0 (wx.setCell ⟨p, j, none⟩ u) q7 z12 z13 W V a := by
  have k : ∀ t, 23 ≠ t → Keeps t wx (wx.setCell ⟨p, j, none⟩ u) := fun t ht => Keeps.set_ (p := ⟨p, j, none⟩) hp ht _
  have bx : ∀ {q : Nat} {V : Wo}, BoxW W0.heap.size wx q V → BoxW W0.heap.size (wx.setCell ⟨p, j, none⟩ u) q V := fun hb => by
    obtain ⟨r, s, b, o1, cs, o2⟩ := hb.box
    exact ⟨r, s, b.far (b.ne_ hp (by decide)) _, o1.keeps (k _ (by decide)), cs, osl_keeps o2 (k _ (by decide)) (k _ (by decide))⟩
  exact ⟨h.bel.setCell (show W0.heap.size ≤ p from lp) _, bx h.b7, bx h.b12, h.b13.far (h.b13.ne_ hp (by decide)) _, h.ne, h.l12⟩
end
set_option maxHeartbeats 16000000 in
set_option maxRecDepth 100000 in
theorem undoneGone_walk (W0 : World) (hT : Tabs W0) (v : Value) (l : List Rw) (hl : RL W0 W0.heap.size v l) (v2 : Value) (m : List Rw) (hm : RL W0 W0.heap.size v2 m) (fail : Bool) :
    Calls Tryd.prog 11 #[v, v2, .bool fail] W0 fun e w' => e = .returned (.bool true) ∧ Below W0.heap.size W0 w' := by
  have HT := Lib.hid hT
  have HL := Lib.hid hl
  have HM := Lib.hid hm
  obtain ⟨Am, capm, rfl, hm1, hm2, _⟩ := hm
  obtain ⟨N, hN⟩ : ∃ N, m.length = N := ⟨_, rfl⟩
  rw [hN] at hm1 ⊢
  have HN := Lib.hid hN
  clear hT hl hN
  go_enter Tryd.func11, Tryd.ntmps11
  go_wp2_with fail
  refine (played1 _ _ l HL.out 30 (by decide) HT.out).mono ?_
  rintro e w1 ⟨r, s, o, cs, rfl, o1, o2, b1⟩
  obtain ⟨hgood, hlen⟩ := play_good (n := 1) (by decide) (l.take 30) (new_good 1 (by decide)) (new_len 1)
  obtain ⟨V, hV⟩ : ∃ V, playL 1 (l.take 30) (newW 1) = V := ⟨_, rfl⟩
  rw [hV] at o1 o2 hgood hlen
  obtain ⟨A1, k1, rfl⟩ := o1.form
  obtain ⟨A2, k2, rfl⟩ := own_slice o2.own
  have X5 := Lib.hid (show BoxW W0.heap.size (w1.alloc (.cells #[.slice A1 V.rows.length k1, .slice A2 V.ses.length k2] 31)) w1.heap.size V from ⟨_, _, Blk.new w1 _ _, o1.keeps (.alloc _ _), cs, osl_keeps o2 (.alloc _ _) (.alloc _ _)⟩)
  have B1 := Lib.hid (show Below W0.heap.size W0 (w1.alloc (.cells #[.slice A1 V.rows.length k1, .slice A2 V.ses.length k2] 31)) from b1.alloc b1.size _)
  obtain ⟨q7, hq7⟩ : ∃ z, w1.heap.size = z := ⟨_, rfl⟩
  have HQ7 := Lib.hid (show W0.heap.size ≤ q7 by rw [← hq7]; exact b1.size)
  rw [hq7] at X5
  have HG := Lib.hid hgood
  have HLN := Lib.hid hlen
  obtain ⟨R1, hR1⟩ : ∃ R, doW V 0 stR = R := ⟨_, rfl⟩
  have hidle := idle_after (V := V) (i := 0) (by omega)
  have hg1 := doW_good hgood (i := 0) (by omega) (x := stR) (plain_ok 3 (by decide) (by decide))
  have hl1 := doW_length V 0 stR
  rw [hR1] at hidle hg1 hl1
  obtain ⟨W, c1⟩ := R1
  have hlw : W.ses.length = 1 := hl1.trans hlen
  have hbeg := Tx.begin_ (W := W) hg1 (i := 0) (by omega) hidle
  obtain ⟨R2, hR2⟩ : ∃ R, doW W 0 stB = R := ⟨_, rfl⟩
  rw [hR2] at hbeg
  obtain ⟨V1, c2⟩ := R2
  have HR1 := Lib.hid (show saidL 0 [stR] (V, An.no) = (W, c1) from hR1)
  have HR2 := Lib.hid (show saidL 0 [stB] (W, An.no) = (V1, c2) from hR2)
  have HG1 := Lib.hid hg1
  have HLW := Lib.hid hlw
  have HTX := Lib.hid (show Tx W V1 0 from hbeg.1)
  have HK2 := Lib.hid (show c2.kind = 1 from hbeg.2)
  obtain ⟨c1K, c1T, c1S⟩ := c1
  obtain ⟨c2K, c2T, c2S⟩ := c2
  clear o1 o2 b1 hgood hlen hV hidle hg1 hl1 hlw hbeg hR1 hR2
  go_upto_region 2 with fail
  generalize World.alloc _ _ = x1 at X5 B1 ⊢
  obtain ⟨AX, kX, gX, capX, y, hwl⟩ := X5.out.opens HLN.out (by decide) (by decide)
  have y0 := y.cell_ 0 _ rfl
  have y1 := y.cell_ 1 _ rfl
  have HW := Lib.hid hwl
  have Y := Lib.hid y
  have S3 := Blk.new x1 23 #[.int .i64 3, .string ⟨#[]⟩, .string ⟨#[]⟩]
  obtain ⟨gS, hgS⟩ : ∃ z, x1.heap.size = z := ⟨_, rfl⟩
  rw [hgS] at S3
  have HS := Lib.hid S3
  have BS := Lib.hid (boxed x1 (.cells #[.int .i64 3, .string ⟨#[]⟩, .string ⟨#[]⟩] 23))
  clear y hwl S3
  go_wp2_with fail
  generalize World.alloc _ _ = x2 at HS BS ⊢
  refine (said_any _ _ _ _ V 0 [stR] (HT.out.below (below_step B1.out (Nat.le_refl _) BS.out)) (HW.out _ BS.out) HG.out (by rw [HLN.out]; decide) (StL.one (x := stR) HS.out) (by intro x hx; simp only [List.mem_cons, List.not_mem_nil, or_false] at hx; subst hx; exact plain_ok 3 (by decide) (by decide)) (by intro x hx; simp only [List.mem_cons, List.not_mem_nil, or_false] at hx; subst hx; exact ⟨by decide, by decide⟩) (by simp)).mono ?_
  rintro e x3 ⟨r', s', cs', rfl, o1, o2, b⟩
  rw [HR1.out] at o1 o2 ⊢
  obtain ⟨A3, k3, rfl⟩ := o1.form
  obtain ⟨g3, cap3, rfl⟩ := o2.form (by rw [HLW.out]; decide)
  have y2 := (Y.out.keep BS.out).keep b
  have z0 := y2.cell_ 0 _ rfl
  have z1 := y2.cell_ 1 _ rfl
  have zf := y2.frozen
  have lz := y2.lt
  obtain ⟨q10, hq10⟩ : ∃ z, x3.heap.size = z := ⟨_, rfl⟩
  rw [hq10] at lz
  unfold anV
  clear y0 y1
  go_upto_region 3 with fail
  have hB6 : W0.heap.size ≤ x2.heap.size := (below_step B1.out (Nat.le_refl _) BS.out).size
  have X8 := Lib.hid ((((X5.out.keep BS.out).keep b).turn (o1.base hB6) (o2.base hB6)).keep (boxed _ (.cells #[.int .i64 c1K, .string c1T, .int .i64 c1S] 48)))
  have B8 := Lib.hid ((((below_step (below_step B1.out (Nat.le_refl _) BS.out) (Nat.le_refl _) b).setCell (p := ⟨q7, 0, none⟩) (by exact HQ7.out) (.slice A3 W.rows.length k3)).setCell (p := ⟨q7, 1, none⟩) (by exact HQ7.out) (.slice (some ⟨g3, 0, none⟩) W.ses.length cap3)).alloc (by simp [World.setCell]; exact Nat.le_trans hB6 b.size) (.cells #[.int .i64 c1K, .string c1T, .int .i64 c1S] 48))
  clear o1 o2 b y2 z0 z1 zf lz X5 B1 HS BS HW Y hq10 hgS hB6
  generalize World.alloc _ _ = x4 at X8 B8 ⊢
  obtain ⟨AX, kX, gX, capX, y, hwl⟩ := X8.out.opens HLW.out (by decide) (by decide)
  have y0 := y.cell_ 0 _ rfl
  have y1 := y.cell_ 1 _ rfl
  have HW := Lib.hid hwl
  have Y := Lib.hid y
  have S3 := Blk.new x4 23 #[.int .i64 1, .string ⟨#[]⟩, .string ⟨#[]⟩]
  obtain ⟨gS, hgS⟩ : ∃ z, x4.heap.size = z := ⟨_, rfl⟩
  rw [hgS] at S3
  have HS := Lib.hid S3
  have BS := Lib.hid (boxed x4 (.cells #[.int .i64 1, .string ⟨#[]⟩, .string ⟨#[]⟩] 23))
  clear y hwl S3
  go_wp2_with fail
  generalize World.alloc _ _ = x5 at HS BS ⊢
  refine (said_any _ _ _ _ W 0 [stB] (HT.out.below (below_step B8.out (Nat.le_refl _) BS.out)) (HW.out _ BS.out) HG1.out (by rw [HLW.out]; decide) (StL.one (x := stB) HS.out) (by intro x hx; simp only [List.mem_cons, List.not_mem_nil, or_false] at hx; subst hx; exact plain_ok 1 (by decide) (by decide)) (by intro x hx; simp only [List.mem_cons, List.not_mem_nil, or_false] at hx; subst hx; exact ⟨by decide, by decide⟩) (by simp)).mono ?_
  rintro e x6 ⟨r', s', cs', rfl, o1, o2, b⟩
  rw [HR2.out] at o1 o2 ⊢
  obtain ⟨A4, k4, rfl⟩ := o1.form
  obtain ⟨g4, cap4, rfl⟩ := o2.form (by have := HTX.out.hi; omega)
  have hB : W0.heap.size ≤ x5.heap.size := (below_step B8.out (Nat.le_refl _) BS.out).size
  obtain ⟨z12, hz12⟩ : ∃ z, x6.heap.size = z := ⟨_, rfl⟩
  have bb := boxed2 x6 (.cells #[.slice A4 V1.rows.length k4, .slice (some ⟨g4, 0, none⟩) V1.ses.length cap4] 31) (.cells #[.int .i64 c2K, .string c2T, .int .i64 c2S] 48)
  have hq : q7 < x6.heap.size := ((Y.out.keep BS.out).keep b).lt
  have U := Lib.hid (show UnAt W0 ((x6.alloc (.cells #[.slice A4 V1.rows.length k4, .slice (some ⟨g4, 0, none⟩) V1.ses.length cap4] 31)).alloc (.cells #[.int .i64 c2K, .string c2T, .int .i64 c2S] 48)) q7 x6.heap.size (x6.heap.size + 1) W V1 ⟨c2K, c2T, c2S⟩ from
    ⟨below_step (below_step (below_step B8.out (Nat.le_refl _) BS.out) (Nat.le_refl _) b) (Nat.le_refl _) bb, ((X8.out.keep BS.out).keep b).keep bb, ⟨_, _, (Blk.new x6 _ _).alloc _, (o1.base hB).keeps (.of_below bb), cs', osl_keeps (o2.base hB) (.of_below bb) (.of_below bb)⟩, Blk.new1 x6 _ _ _, by omega, Nat.le_trans hB b.size⟩)
  rw [hz12] at U
  unfold anV
  clear o1 o2 b bb y0 y1 X8 B8 HS BS HW Y hgS hB hq
  go_upto_region 4 with fail
  generalize World.alloc _ _ = x7 at U ⊢
  clear hz12
  go_wp2_with fail
  go_loopw [15, 11] (fun i ok wx => ∃ (k : Nat) (V : Wo), k ≤ N ∧ i = .int .i64 k ∧ ok = .bool true ∧ Tx W V 0 ∧ UnAt W0 wx q7 z12 (z12 + 1) W V ⟨c2K, c2T, c2S⟩) (fun i _ _ => N - (intOf i).toNat)
  case atStart => exact ⟨0, V1, Nat.zero_le _, rfl, rfl, HTX.out, U.out⟩
  case round =>
    obtain ⟨kk, V, hk, rfl, rfl, htx, hU⟩ := hrel
    by_cases hlt : kk < N ∧ kk < 12
    · have g1 : (kk : Int) < (N : Int) := by omega
      have g2 : (0 : Int) ≤ (kk : Int) := by omega
      have g3 : (kk : Int) < 12 := by omega
      have hkl : kk < m.length := by rw [HN.out]; exact hlt.1
      obtain ⟨_, _, e0, _, _, hrow, hwf⟩ := HM.out
      injection e0 with e1 e2 e3
      subst e3
      obtain ⟨ad, hA, hB, hat⟩ := hrow (by omega)
      rw [hA] at e1
      subst e1
      obtain ⟨x, hx⟩ : ∃ x, m[kk] = x := ⟨_, rfl⟩
      have hR := (hat kk hkl).below (by rw [block_of_add]; exact hB) hU.bel
      have hW := hwf m[kk] (List.getElem_mem hkl)
      rw [hx] at hR hW
      obtain ⟨p0, p1, p2, p3⟩ := hR
      obtain ⟨xk, xa, xb, xc⟩ := x
      have hok := (raw_ok xk xa xb xc).1
      have hsz := raw_size xk xa xb xc
      have HWF := Lib.hid hW
      have HU := Lib.hid hU
      have HTV := Lib.hid htx
      have hst := fun w => stmt_any xk xa xb xc HWF.out.k HWF.out.a HWF.out.b HWF.out.c w
      obtain ⟨y, hy⟩ : ∃ y, rawS xk xa xb xc = y := ⟨_, rfl⟩
      rw [hy] at hok hsz hst
      obtain ⟨K, key, val⟩ := y
      have HST := Lib.hid hst
      have HOK := Lib.hid hok
      have HSZ := Lib.hid (show key.size ≤ maxLen ∧ val.size ≤ maxLen from ⟨Nat.le_trans hsz.1 (by decide), Nat.le_trans hsz.2 (by decide)⟩)
      clear hU htx hW hwf hat hrow hx hok hsz hst hy hkl
      go_upto_region 7 with fail
      go_wp2_with fail
      refine (HST.out _).mono ?_
      rintro e x8 ⟨rfl, b⟩
      unfold St.v
      have U8 := Lib.hid ((HU.out.keep b).keep (boxed x8 (.cells #[.int .i64 K, .string key, .string val] 23)))
      obtain ⟨z16, hz16⟩ : ∃ z, x8.heap.size = z := ⟨_, rfl⟩
      have S16 := Blk.new x8 23 #[.int .i64 K, .string key, .string val]
      rw [hz16] at S16
      have H16 := Lib.hid S16
      clear b p0 p1 p2 p3 S16 HU g1 g2 g3
      go_upto_region 8 with fail
      generalize World.alloc _ _ = x9 at U8 H16 ⊢
      have a0 := H16.out.cell_ 0 _ rfl
      clear hz16
      by_cases h2 : K = 2
      · have q2 : (K == 2) = true := by simpa using h2
        go_wp2_with fail
        go_roundw
        case rel => exact ⟨kk + 1, V, by omega, by go_num, rfl, HTV.out, U8.out⟩
        case measure => simp [intOf]; omega
      have q2 : (K == 2) = false := by simpa using h2
      by_cases h3 : K = 3
      · have q3 : (K == 3) = true := by simpa using h3
        go_wp2_with fail
        go_roundw
        case rel => exact ⟨kk + 1, V, by omega, by go_num, rfl, HTV.out, U8.out⟩
        case measure => simp [intOf]; omega
      have q3 : (K == 3) = false := by simpa using h3
      go_upto_region 9 with fail
      have hv1 : V.ses.length = 1 := by rw [HTV.out.len]; exact HLW.out
      have HV1 := Lib.hid hv1
      obtain ⟨R3, hR3⟩ : ∃ R, doW V 0 ⟨K, key, val⟩ = R := ⟨_, rfl⟩
      have htv := HTV.out.step HOK.out h2 h3
      rw [hR3] at htv
      obtain ⟨V3, c3⟩ := R3
      have HR3 := Lib.hid (show saidL 0 [⟨K, key, val⟩] (V, An.no) = (V3, c3) from hR3)
      have HT3 := Lib.hid (show Tx W V3 0 from htv)
      obtain ⟨c3K, c3T, c3S⟩ := c3
      clear hv1 hR3 htv h2 h3 q2 q3
      obtain ⟨AX, kX, gX, capX, y, hwl⟩ := U8.out.b12.opens HV1.out (by decide) (by decide)
      have y0 := y.cell_ 0 _ rfl
      have y1 := y.cell_ 1 _ rfl
      have HW := Lib.hid hwl
      have Y := Lib.hid y
      have a1 := H16.out.cell_ 1 _ rfl
      have a2 := H16.out.cell_ 2 _ rfl
      have S3 := Blk.new x9 23 #[.int .i64 K, .string key, .string val]
      obtain ⟨gS, hgS⟩ : ∃ z, x9.heap.size = z := ⟨_, rfl⟩
      rw [hgS] at S3
      have HS := Lib.hid S3
      have BS := Lib.hid (boxed x9 (.cells #[.int .i64 K, .string key, .string val] 23))
      clear y hwl S3
      go_wp2_with fail
      generalize World.alloc _ _ = x10 at HS BS ⊢
      refine (said_any _ _ _ _ V 0 [⟨K, key, val⟩] (HT.out.below (below_step U8.out.bel (Nat.le_refl _) BS.out)) (HW.out _ BS.out) HTV.out.good (by rw [HV1.out]; decide) (StL.one (x := ⟨K, key, val⟩) HS.out) (by intro x hx; simp only [List.mem_cons, List.not_mem_nil, or_false] at hx; subst hx; exact HOK.out) (by intro x hx; simp only [List.mem_cons, List.not_mem_nil, or_false] at hx; subst hx; exact HSZ.out) (by simp)).mono ?_
      rintro e x11 ⟨r', s', cs', rfl, o1, o2, b⟩
      rw [HR3.out] at o1 o2 ⊢
      obtain ⟨A5, k5, rfl⟩ := o1.form
      obtain ⟨g5, cap5, rfl⟩ := o2.form (by have := HT3.out.hi; omega)
      have hB : W0.heap.size ≤ x10.heap.size := (below_step U8.out.bel (Nat.le_refl _) BS.out).size
      obtain ⟨z17, hz17⟩ : ∃ z, x11.heap.size = z := ⟨_, rfl⟩
      have bb := boxed2 x11 (.cells #[.slice A5 V3.rows.length k5, .slice (some ⟨g5, 0, none⟩) V3.ses.length cap5] 31) (.cells #[.int .i64 c3K, .string c3T, .int .i64 c3S] 48)
      have B17 := (Blk.new x11 31 #[.slice A5 V3.rows.length k5, .slice (some ⟨g5, 0, none⟩) V3.ses.length cap5]).alloc (.cells #[.int .i64 c3K, .string c3T, .int .i64 c3S] 48)
      rw [hz17] at B17
      have O1 := Lib.hid ((o1.base hB).keeps (.of_below bb))
      have O2 := Lib.hid (osl_keeps (o2.base hB) (.of_below bb) (.of_below bb))
      have U9 := Lib.hid (((U8.out.keep BS.out).keep b).keep bb)
      have H17 := Lib.hid B17
      unfold anV
      clear o1 o2 b bb y0 y1 a0 a1 a2 U8 HS BS HW Y hgS hB B17 H16
      go_upto_region 11 with fail
      generalize World.alloc _ _ = x12 at U9 H17 O1 O2 ⊢
      clear hz17
      obtain ⟨r0, s0, yb, _⟩ := U9.out.b12.box
      have y0 := yb.cell_ 0 _ rfl
      have y1 := yb.cell_ 1 _ rfl
      have yf := yb.frozen
      have f0 := H17.out.cell_ 0 _ rfl
      have f1 := H17.out.cell_ 1 _ rfl
      clear yb
      go_wp2_with fail
      have UT := Lib.hid (U9.out.turn O1.out O2.out)
      clear y0 y1 yf f0 f1 U9 H17 O1 O2
      generalize World.setCell _ _ _ = x13 at UT ⊢
      go_roundw
      case rel => exact ⟨kk + 1, V3, by omega, by go_num, rfl, HT3.out, UT.out⟩
      case measure => simp [intOf]; omega
    · have HUx := Lib.hid hU
      have HTV := Lib.hid htx
      clear hU htx
      by_cases hkN : kk < N
      · have g1 : (kk : Int) < (N : Int) := by omega
        have g3 : (12 : Int) ≤ (kk : Int) := by omega
        obtain ⟨z20, hz20⟩ : ∃ z, wr.heap.size = z := ⟨_, rfl⟩
        have S20 := Blk.new wr 23 #[.int .i64 3, .string ⟨#[]⟩, .string ⟨#[]⟩]
        rw [hz20] at S20
        have H20 := Lib.hid S20
        have U0 := Lib.hid (HUx.out.keep (boxed wr (.cells #[.int .i64 3, .string ⟨#[]⟩, .string ⟨#[]⟩] 23)))
        have HZ20 := Lib.hid (show W0.heap.size ≤ z20 by rw [← hz20]; exact HUx.out.bel.size)
        clear S20 HUx
        go_upto_region 13 with fail
        generalize World.alloc _ _ = y1' at U0 H20 ⊢
        clear hz20
        cases fail with
        | false =>
          go_upto_region 16 with fail
          have hvL : V.ses.length = 1 := by rw [HTV.out.len]; exact HLW.out
          have HVL := Lib.hid hvL
          obtain ⟨R9, hR9⟩ : ∃ R, doW V 0 stR = R := ⟨_, rfl⟩
          have hbk := HTV.out.back stR (.inl rfl)
          rw [hR9] at hbk
          obtain ⟨V9, c9⟩ := R9
          have HR9 := Lib.hid (show saidL 0 [stR] (V, An.no) = (V9, c9) from hR9)
          obtain ⟨c9K, c9T, c9S⟩ := c9
          have HBK := Lib.hid (show V9.rows = W.rows ∧ (V9.se 0).set = (W.se 0).set ∧ c9K = 1 ∧ c9S = 0 ∧ V9.ses.length = W.ses.length from hbk)
          have HL9 := Lib.hid (show V9.ses.length = 1 from hbk.2.2.2.2.trans HLW.out)
          clear hvL hR9 hbk
          obtain ⟨AX, kX, gX, capX, y, hwl⟩ := U0.out.b12.opens HVL.out (by decide) (by decide)
          have y0 := y.cell_ 0 _ rfl
          have y1 := y.cell_ 1 _ rfl
          have HW := Lib.hid hwl
          have Y := Lib.hid y
          have a0 := H20.out.cell_ 0 _ rfl
          have a1 := H20.out.cell_ 1 _ rfl
          have a2 := H20.out.cell_ 2 _ rfl
          have S3 := Blk.new y1' 23 #[.int .i64 3, .string ⟨#[]⟩, .string ⟨#[]⟩]
          obtain ⟨gS, hgS⟩ : ∃ z, y1'.heap.size = z := ⟨_, rfl⟩
          rw [hgS] at S3
          have HS := Lib.hid S3
          have BS := Lib.hid (boxed y1' (.cells #[.int .i64 3, .string ⟨#[]⟩, .string ⟨#[]⟩] 23))
          clear y hwl S3
          go_wp2_with fail
          generalize World.alloc _ _ = y10 at HS BS ⊢
          refine (said_any _ _ _ _ V 0 [stR] (HT.out.below (below_step U0.out.bel (Nat.le_refl _) BS.out)) (HW.out _ BS.out) HTV.out.good (by rw [HVL.out]; decide) (StL.one (x := stR) HS.out) (by intro x hx; simp only [List.mem_cons, List.not_mem_nil, or_false] at hx; subst hx; exact plain_ok _ (by decide) (by decide)) (by intro x hx; simp only [List.mem_cons, List.not_mem_nil, or_false] at hx; subst hx; exact ⟨by decide, by decide⟩) (by simp)).mono ?_
          rintro e y11 ⟨r', s', cs', rfl, o1, o2, b⟩
          rw [HR9.out] at o1 o2 ⊢
          obtain ⟨A9, k9, rfl⟩ := o1.form
          obtain ⟨g9, cap9, rfl⟩ := o2.form (by rw [HL9.out]; decide)
          have hB : W0.heap.size ≤ y10.heap.size := (below_step U0.out.bel (Nat.le_refl _) BS.out).size
          have U10 := Lib.hid (((((U0.out.keep BS.out).keep b).turn (o1.base hB) (o2.base hB))).keep (boxed _ (.cells #[.int .i64 c9K, .string c9T, .int .i64 c9S] 48)))
          have Q := Blk.new ((y11.setCell ⟨z12, 0, none⟩ (.slice A9 V9.rows.length k9)).setCell ⟨z12, 1, none⟩ (.slice (some ⟨g9, 0, none⟩) V9.ses.length cap9)) 48 #[.int .i64 c9K, .string c9T, .int .i64 c9S]
          have hsz2 : ((y11.setCell ⟨z12, 0, none⟩ (.slice A9 V9.rows.length k9)).setCell ⟨z12, 1, none⟩ (.slice (some ⟨g9, 0, none⟩) V9.ses.length cap9)).heap.size = y11.heap.size := by simp [World.setCell]
          rw [hsz2] at Q
          obtain ⟨z21, hz21⟩ : ∃ z, y11.heap.size = z := ⟨_, rfl⟩
          rw [hz21] at Q
          have Q21 := Lib.hid Q
          have y2 := (Y.out.keep BS.out).keep b
          have z0 := y2.cell_ 0 _ rfl
          have z1 := y2.cell_ 1 _ rfl
          have zf := y2.frozen
          have lz := y2.lt
          rw [hz21] at lz
          unfold anV
          clear o1 o2 b y0 y1 a0 a1 a2 U0 HS BS HW Y hgS hB Q hsz2 y2
          go_upto_region 17 with fail
          clear z0 z1 zf lz hz21
          generalize World.alloc _ _ = y12 at U10 Q21 ⊢
          obtain ⟨Aa, ca, ga, pa, ya, wa⟩ := U10.out.b12.opens HL9.out (by decide) (by decide)
          obtain ⟨Ab, cb, gb, pb, yb, wb⟩ := U10.out.b7.opens HLW.out (by decide) (by decide)
          have HA := Lib.hid wa
          have HBb := Lib.hid wb
          have YA := Lib.hid ya
          have YB := Lib.hid yb
          have HB := Lib.hid (Below.refl y12.heap.size y12).drew
          have q0 := (U10.out.b13.keep HB.out).cell_ 0 _ rfl
          replace q0 : (y12.drew).cell? ⟨z12 + 1, 0, none⟩ = some (.int .i64 1) := by rw [← HK2.out]; exact q0
          have r0 : (y12.drew).cell? ⟨z21, 0, none⟩ = some (.int .i64 1) := by rw [← HBK.out.2.2.1]; exact (Q21.out.keep HB.out).cell_ 0 _ rfl
          have r2 : (y12.drew).cell? ⟨z21, 2, none⟩ = some (.int .i64 0) := by rw [← HBK.out.2.2.2.1]; exact (Q21.out.keep HB.out).cell_ 2 _ rfl
          have y0 := (YA.out.keep HB.out).cell_ 0 _ rfl
          have y1 := (YA.out.keep HB.out).cell_ 1 _ rfl
          have y2 := (YB.out.keep HB.out).cell_ 0 _ rfl
          have y3 := (YB.out.keep HB.out).cell_ 1 _ rfl
          clear ya yb wa wb
          refine region_segs [] (by kernel_rfl) ?_
          generalize World.drew _ = y13 at HB q0 r0 r2 y0 y1 y2 y3 ⊢
          refine anyB_seg [0, 1, 2, 3, 4, 5, 6, 7, 8, 9, 10, 11, 12, 13, 14, 15, 16, 17, 18, 19, 20, 21, 22, 23, 24, 25, 26, 27, 28, 29, 30, 31, 32, 33, 34, 35, 36, 37, 38, 39, 40, 41] 16 rfl (by kernel_rfl) (by kernel_rfl) (by kernel_rfl) (fun _ _ d _ _ h => by cases d <;> exact h) ?_
          simp only [pickOps, List.getElem?_toArray, List.getElem?_cons_zero, List.getElem?_cons_succ]
          go_wp2_with fail
          refine ⟨rfl, by rfl, ?_⟩
          clear q0 r0 r2 y0 y1 y2 y3
          refine anyB_one (i := 42) (by kernel_rfl) rfl (fun K hK => ?_)
          go_simp
          have hra := (HA.out _ HB.out).rows
          rw [HBK.out.1] at hra ⊢
          refine (equal_same _ _ _ W.rows hra (HBb.out _ HB.out).rows).mono ?_
          rintro e y14 ⟨rfl, b⟩
          refine hK.out _ _ (fun _ => b) ?_
          clear hK K
          have HC2 := Lib.hid (below_step HB.out (Nat.le_refl _) b)
          clear b HB hra
          have s5 := (HA.out _ HC2.out).ses.seat0 (by rw [HL9.out]; decide)
          have s6 := (HBb.out _ HC2.out).ses.seat0 (by rw [HLW.out]; decide)
          obtain ⟨S, hS⟩ : ∃ S, V9.ses[0]'(by rw [HL9.out]; decide) = S := ⟨_, rfl⟩
          obtain ⟨T, hTT⟩ : ∃ T, W.ses[0]'(by rw [HLW.out]; decide) = T := ⟨_, rfl⟩
          have hset : S.set = T.set := by
            have := HBK.out.2.1
            unfold Wo.se at this
            rw [getD_at (by rw [HL9.out]; decide), getD_at (by rw [HLW.out]; decide), hS, hTT] at this
            exact this
          rw [hS] at s5
          rw [hTT] at s6
          obtain ⟨_, ⟨v1, P1, P1'⟩, _⟩ := s5
          obtain ⟨_, ⟨v2', P2, P2'⟩, _⟩ := s6
          rw [hset] at P1'
          obtain ⟨a1, d1, rfl⟩ := P1'.form
          obtain ⟨a2, d2, rfl⟩ := P2'.form
          have x1' : y14.cell? ⟨ga, 1, none⟩ = some (.slice a1 T.set.length d1) := P1
          have x2' : y14.cell? ⟨gb, 1, none⟩ = some (.slice a2 T.set.length d2) := P2
          have y0 := (YA.out.keep HC2.out).cell_ 1 _ rfl
          have y1 := (YB.out.keep HC2.out).cell_ 1 _ rfl
          have E1 := Lib.hid P1'
          have E2 := Lib.hid P2'
          clear P1 P2 P1' P2' hS hTT hset
          refine anyB_seg [43, 44, 45, 46, 47, 48, 49, 50, 51, 52, 53, 54] 3 rfl (by kernel_rfl) (by kernel_rfl) (by kernel_rfl) (fun _ _ d _ _ h => by cases d <;> exact h) ?_
          simp only [pickOps, List.getElem?_toArray, List.getElem?_cons_zero, List.getElem?_cons_succ]
          go_wp2_with fail
          refine ⟨rfl, by rfl, ?_⟩
          clear x1' x2' y0 y1
          refine anyB_one (i := 55) (by kernel_rfl) rfl (fun K hK => ?_)
          go_simp
          refine (equal_same _ _ _ T.set E1.out E2.out).mono ?_
          rintro e y15 ⟨rfl, b⟩
          refine hK.out _ _ (fun _ => b) ?_
          clear hK K
          have HD := Lib.hid (below_step HC2.out (Nat.le_refl _) b)
          clear b HC2
          refine anyB_seg [56, 57] 0 rfl (by kernel_rfl) (by kernel_rfl) (by kernel_rfl) (fun _ _ d _ _ h => by cases d <;> exact h) ?_
          simp only [pickOps, List.getElem?_toArray, List.getElem?_cons_zero, List.getElem?_cons_succ]
          go_wp2_with fail
          refine ⟨rfl, by rfl, ?_⟩
          refine anyB_done (by kernel_rfl) ?_ _
          go_wp2_with fail
          go_ret
          exact ⟨by simp, below_step U10.out.bel (Nat.le_refl _) HD.out⟩
        | true =>
          go_upto_region 14 with fail
          have hvL : V.ses.length = 1 := by rw [HTV.out.len]; exact HLW.out
          have HVV := Lib.hid hvL
          obtain ⟨R8, hR8⟩ : ∃ R, doW V 0 stF = R := ⟨_, rfl⟩
          have htf := HTV.out.step (x := stF) (plain_ok 5 (by decide) (by decide)) (by decide) (by decide)
          have hst2 := HTV.out.failed
          rw [hR8] at htf hst2
          obtain ⟨V8, c8⟩ := R8
          have HR8 := Lib.hid (show saidL 0 [stF] (V, An.no) = (V8, c8) from hR8)
          have HTF := Lib.hid (show Tx W V8 0 from htf)
          have HS2 := Lib.hid (show (V8.se 0).st = 2 from hst2)
          obtain ⟨c8K, c8T, c8S⟩ := c8
          clear hvL hR8 htf hst2
          obtain ⟨AX, kX, gX, capX, y, hwl⟩ := U0.out.b12.opens HVV.out (by decide) (by decide)
          have y0 := y.cell_ 0 _ rfl
          have y1 := y.cell_ 1 _ rfl
          have HW := Lib.hid hwl
          have Y := Lib.hid y
          have S3 := Blk.new y1' 23 #[.int .i64 5, .string ⟨#[]⟩, .string ⟨#[]⟩]
          obtain ⟨gS, hgS⟩ : ∃ z, y1'.heap.size = z := ⟨_, rfl⟩
          rw [hgS] at S3
          have HS := Lib.hid S3
          have BS := Lib.hid (boxed y1' (.cells #[.int .i64 5, .string ⟨#[]⟩, .string ⟨#[]⟩] 23))
          clear y hwl S3
          go_wp2_with fail
          generalize World.alloc _ _ = y2' at HS BS ⊢
          refine (said_any _ _ _ _ V 0 [stF] (HT.out.below (below_step U0.out.bel (Nat.le_refl _) BS.out)) (HW.out _ BS.out) HTV.out.good (by rw [HVV.out]; decide) (StL.one (x := stF) HS.out) (by intro x hx; simp only [List.mem_cons, List.not_mem_nil, or_false] at hx; subst hx; exact plain_ok 5 (by decide) (by decide)) (by intro x hx; simp only [List.mem_cons, List.not_mem_nil, or_false] at hx; subst hx; exact ⟨by decide, by decide⟩) (by simp)).mono ?_
          rintro e y3' ⟨r', s', cs', rfl, o1, o2, b⟩
          rw [HR8.out] at o1 o2 ⊢
          obtain ⟨A8, k8, rfl⟩ := o1.form
          obtain ⟨g8, cap8, rfl⟩ := o2.form (by have := HTF.out.hi; omega)
          have hB : W0.heap.size ≤ y2'.heap.size := (below_step U0.out.bel (Nat.le_refl _) BS.out).size
          have y2 := (Y.out.keep BS.out).keep b
          have z0 := y2.cell_ 0 _ rfl
          have z1 := y2.cell_ 1 _ rfl
          have zf := y2.frozen
          have h20 := (H20.out.keep BS.out).keep b
          have n20 : z20 ≠ z12 := h20.ne_ y2 (by decide)
          have h20' := (h20.far (p := ⟨z12, 0, none⟩) n20 (.slice A8 V8.rows.length k8)).far (p := ⟨z12, 1, none⟩) n20 (.slice (some ⟨g8, 0, none⟩) V8.ses.length cap8)
          have U1 := Lib.hid ((((U0.out.keep BS.out).keep b).turn (o1.base hB) (o2.base hB)).setS h20' HZ20.out 0 (.int .i64 2))
          have J20 := Lib.hid (h20'.set_ 0 (.int .i64 2))
          have w0 := h20.cell_ 0 _ rfl
          have wf := h20.frozen
          unfold anV
          clear o1 o2 b y0 y1 U0 HS BS HW Y hgS hB y2 h20 h20' H20
          go_upto_region 16 with fail
          generalize World.setCell _ _ _ = y4' at U1 J20 ⊢
          clear z0 z1 zf w0 wf n20
          have hvL : V8.ses.length = 1 := by rw [HTF.out.len]; exact HLW.out
          have HVL := Lib.hid hvL
          obtain ⟨R9, hR9⟩ : ∃ R, doW V8 0 stC = R := ⟨_, rfl⟩
          have hbk := HTF.out.back stC (.inr ⟨rfl, HS2.out⟩)
          rw [hR9] at hbk
          obtain ⟨V9, c9⟩ := R9
          have HR9 := Lib.hid (show saidL 0 [stC] (V8, An.no) = (V9, c9) from hR9)
          obtain ⟨c9K, c9T, c9S⟩ := c9
          have HBK := Lib.hid (show V9.rows = W.rows ∧ (V9.se 0).set = (W.se 0).set ∧ c9K = 1 ∧ c9S = 0 ∧ V9.ses.length = W.ses.length from hbk)
          have HL9 := Lib.hid (show V9.ses.length = 1 from hbk.2.2.2.2.trans HLW.out)
          clear hvL hR9 hbk
          obtain ⟨AX, kX, gX, capX, y, hwl⟩ := U1.out.b12.opens HVL.out (by decide) (by decide)
          have y0 := y.cell_ 0 _ rfl
          have y1 := y.cell_ 1 _ rfl
          have HW := Lib.hid hwl
          have Y := Lib.hid y
          have a0 := J20.out.cell_ 0 _ rfl
          have a1 := J20.out.cell_ 1 _ rfl
          have a2 := J20.out.cell_ 2 _ rfl
          have S3 := Blk.new y4' 23 #[.int .i64 2, .string ⟨#[]⟩, .string ⟨#[]⟩]
          obtain ⟨gS, hgS⟩ : ∃ z, y4'.heap.size = z := ⟨_, rfl⟩
          rw [hgS] at S3
          have HS := Lib.hid S3
          have BS := Lib.hid (boxed y4' (.cells #[.int .i64 2, .string ⟨#[]⟩, .string ⟨#[]⟩] 23))
          clear y hwl S3
          go_wp2_with fail
          generalize World.alloc _ _ = y10 at HS BS ⊢
          refine (said_any _ _ _ _ V8 0 [stC] (HT.out.below (below_step U1.out.bel (Nat.le_refl _) BS.out)) (HW.out _ BS.out) HTF.out.good (by rw [HVL.out]; decide) (StL.one (x := stC) HS.out) (by intro x hx; simp only [List.mem_cons, List.not_mem_nil, or_false] at hx; subst hx; exact plain_ok _ (by decide) (by decide)) (by intro x hx; simp only [List.mem_cons, List.not_mem_nil, or_false] at hx; subst hx; exact ⟨by decide, by decide⟩) (by simp)).mono ?_
          rintro e y11 ⟨r', s', cs', rfl, o1, o2, b⟩
          rw [HR9.out] at o1 o2 ⊢
          obtain ⟨A9, k9, rfl⟩ := o1.form
          obtain ⟨g9, cap9, rfl⟩ := o2.form (by rw [HL9.out]; decide)
          have hB : W0.heap.size ≤ y10.heap.size := (below_step U1.out.bel (Nat.le_refl _) BS.out).size
          have U10 := Lib.hid (((((U1.out.keep BS.out).keep b).turn (o1.base hB) (o2.base hB))).keep (boxed _ (.cells #[.int .i64 c9K, .string c9T, .int .i64 c9S] 48)))
          have Q := Blk.new ((y11.setCell ⟨z12, 0, none⟩ (.slice A9 V9.rows.length k9)).setCell ⟨z12, 1, none⟩ (.slice (some ⟨g9, 0, none⟩) V9.ses.length cap9)) 48 #[.int .i64 c9K, .string c9T, .int .i64 c9S]
          have hsz2 : ((y11.setCell ⟨z12, 0, none⟩ (.slice A9 V9.rows.length k9)).setCell ⟨z12, 1, none⟩ (.slice (some ⟨g9, 0, none⟩) V9.ses.length cap9)).heap.size = y11.heap.size := by simp [World.setCell]
          rw [hsz2] at Q
          obtain ⟨z21, hz21⟩ : ∃ z, y11.heap.size = z := ⟨_, rfl⟩
          rw [hz21] at Q
          have Q21 := Lib.hid Q
          have y2 := (Y.out.keep BS.out).keep b
          have z0 := y2.cell_ 0 _ rfl
          have z1 := y2.cell_ 1 _ rfl
          have zf := y2.frozen
          have lz := y2.lt
          rw [hz21] at lz
          unfold anV
          clear o1 o2 b y0 y1 a0 a1 a2 U1 HS BS HW Y hgS hB Q hsz2 y2
          go_upto_region 17 with fail
          clear z0 z1 zf lz hz21
          generalize World.alloc _ _ = y12 at U10 Q21 ⊢
          obtain ⟨Aa, ca, ga, pa, ya, wa⟩ := U10.out.b12.opens HL9.out (by decide) (by decide)
          obtain ⟨Ab, cb, gb, pb, yb, wb⟩ := U10.out.b7.opens HLW.out (by decide) (by decide)
          have HA := Lib.hid wa
          have HBb := Lib.hid wb
          have YA := Lib.hid ya
          have YB := Lib.hid yb
          have HB := Lib.hid (Below.refl y12.heap.size y12).drew
          have q0 := (U10.out.b13.keep HB.out).cell_ 0 _ rfl
          replace q0 : (y12.drew).cell? ⟨z12 + 1, 0, none⟩ = some (.int .i64 1) := by rw [← HK2.out]; exact q0
          have r0 : (y12.drew).cell? ⟨z21, 0, none⟩ = some (.int .i64 1) := by rw [← HBK.out.2.2.1]; exact (Q21.out.keep HB.out).cell_ 0 _ rfl
          have r2 : (y12.drew).cell? ⟨z21, 2, none⟩ = some (.int .i64 0) := by rw [← HBK.out.2.2.2.1]; exact (Q21.out.keep HB.out).cell_ 2 _ rfl
          have y0 := (YA.out.keep HB.out).cell_ 0 _ rfl
          have y1 := (YA.out.keep HB.out).cell_ 1 _ rfl
          have y2 := (YB.out.keep HB.out).cell_ 0 _ rfl
          have y3 := (YB.out.keep HB.out).cell_ 1 _ rfl
          clear ya yb wa wb
          refine region_segs [] (by kernel_rfl) ?_
          generalize World.drew _ = y13 at HB q0 r0 r2 y0 y1 y2 y3 ⊢
          refine anyB_seg [0, 1, 2, 3, 4, 5, 6, 7, 8, 9, 10, 11, 12, 13, 14, 15, 16, 17, 18, 19, 20, 21, 22, 23, 24, 25, 26, 27, 28, 29, 30, 31, 32, 33, 34, 35, 36, 37, 38, 39, 40, 41] 16 rfl (by kernel_rfl) (by kernel_rfl) (by kernel_rfl) (fun _ _ d _ _ h => by cases d <;> exact h) ?_
          simp only [pickOps, List.getElem?_toArray, List.getElem?_cons_zero, List.getElem?_cons_succ]
          go_wp2_with fail
          refine ⟨rfl, by rfl, ?_⟩
          clear q0 r0 r2 y0 y1 y2 y3
          refine anyB_one (i := 42) (by kernel_rfl) rfl (fun K hK => ?_)
          go_simp
          have hra := (HA.out _ HB.out).rows
          rw [HBK.out.1] at hra ⊢
          refine (equal_same _ _ _ W.rows hra (HBb.out _ HB.out).rows).mono ?_
          rintro e y14 ⟨rfl, b⟩
          refine hK.out _ _ (fun _ => b) ?_
          clear hK K
          have HC2 := Lib.hid (below_step HB.out (Nat.le_refl _) b)
          clear b HB hra
          have s5 := (HA.out _ HC2.out).ses.seat0 (by rw [HL9.out]; decide)
          have s6 := (HBb.out _ HC2.out).ses.seat0 (by rw [HLW.out]; decide)
          obtain ⟨S, hS⟩ : ∃ S, V9.ses[0]'(by rw [HL9.out]; decide) = S := ⟨_, rfl⟩
          obtain ⟨T, hTT⟩ : ∃ T, W.ses[0]'(by rw [HLW.out]; decide) = T := ⟨_, rfl⟩
          have hset : S.set = T.set := by
            have := HBK.out.2.1
            unfold Wo.se at this
            rw [getD_at (by rw [HL9.out]; decide), getD_at (by rw [HLW.out]; decide), hS, hTT] at this
            exact this
          rw [hS] at s5
          rw [hTT] at s6
          obtain ⟨_, ⟨v1, P1, P1'⟩, _⟩ := s5
          obtain ⟨_, ⟨v2', P2, P2'⟩, _⟩ := s6
          rw [hset] at P1'
          obtain ⟨a1, d1, rfl⟩ := P1'.form
          obtain ⟨a2, d2, rfl⟩ := P2'.form
          have x1' : y14.cell? ⟨ga, 1, none⟩ = some (.slice a1 T.set.length d1) := P1
          have x2' : y14.cell? ⟨gb, 1, none⟩ = some (.slice a2 T.set.length d2) := P2
          have y0 := (YA.out.keep HC2.out).cell_ 1 _ rfl
          have y1 := (YB.out.keep HC2.out).cell_ 1 _ rfl
          have E1 := Lib.hid P1'
          have E2 := Lib.hid P2'
          clear P1 P2 P1' P2' hS hTT hset
          refine anyB_seg [43, 44, 45, 46, 47, 48, 49, 50, 51, 52, 53, 54] 3 rfl (by kernel_rfl) (by kernel_rfl) (by kernel_rfl) (fun _ _ d _ _ h => by cases d <;> exact h) ?_
          simp only [pickOps, List.getElem?_toArray, List.getElem?_cons_zero, List.getElem?_cons_succ]
          go_wp2_with fail
          refine ⟨rfl, by rfl, ?_⟩
          clear x1' x2' y0 y1
          refine anyB_one (i := 55) (by kernel_rfl) rfl (fun K hK => ?_)
          go_simp
          refine (equal_same _ _ _ T.set E1.out E2.out).mono ?_
          rintro e y15 ⟨rfl, b⟩
          refine hK.out _ _ (fun _ => b) ?_
          clear hK K
          have HD := Lib.hid (below_step HC2.out (Nat.le_refl _) b)
          clear b HC2
          refine anyB_seg [56, 57] 0 rfl (by kernel_rfl) (by kernel_rfl) (by kernel_rfl) (fun _ _ d _ _ h => by cases d <;> exact h) ?_
          simp only [pickOps, List.getElem?_toArray, List.getElem?_cons_zero, List.getElem?_cons_succ]
          go_wp2_with fail
          refine ⟨rfl, by rfl, ?_⟩
          refine anyB_done (by kernel_rfl) ?_ _
          go_wp2_with fail
          go_ret
          exact ⟨by simp, below_step U10.out.bel (Nat.le_refl _) HD.out⟩
      · have g1 : (N : Int) ≤ (kk : Int) := by omega
        obtain ⟨z20, hz20⟩ : ∃ z, wr.heap.size = z := ⟨_, rfl⟩
        have S20 := Blk.new wr 23 #[.int .i64 3, .string ⟨#[]⟩, .string ⟨#[]⟩]
        rw [hz20] at S20
        have H20 := Lib.hid S20
        have U0 := Lib.hid (HUx.out.keep (boxed wr (.cells #[.int .i64 3, .string ⟨#[]⟩, .string ⟨#[]⟩] 23)))
        have HZ20 := Lib.hid (show W0.heap.size ≤ z20 by rw [← hz20]; exact HUx.out.bel.size)
        clear S20 HUx
        go_upto_region 13 with fail
        generalize World.alloc _ _ = y1' at U0 H20 ⊢
        clear hz20
        cases fail with
        | false =>
          go_upto_region 16 with fail
          have hvL : V.ses.length = 1 := by rw [HTV.out.len]; exact HLW.out
          have HVL := Lib.hid hvL
          obtain ⟨R9, hR9⟩ : ∃ R, doW V 0 stR = R := ⟨_, rfl⟩
          have hbk := HTV.out.back stR (.inl rfl)
          rw [hR9] at hbk
          obtain ⟨V9, c9⟩ := R9
          have HR9 := Lib.hid (show saidL 0 [stR] (V, An.no) = (V9, c9) from hR9)
          obtain ⟨c9K, c9T, c9S⟩ := c9
          have HBK := Lib.hid (show V9.rows = W.rows ∧ (V9.se 0).set = (W.se 0).set ∧ c9K = 1 ∧ c9S = 0 ∧ V9.ses.length = W.ses.length from hbk)
          have HL9 := Lib.hid (show V9.ses.length = 1 from hbk.2.2.2.2.trans HLW.out)
          clear hvL hR9 hbk
          obtain ⟨AX, kX, gX, capX, y, hwl⟩ := U0.out.b12.opens HVL.out (by decide) (by decide)
          have y0 := y.cell_ 0 _ rfl
          have y1 := y.cell_ 1 _ rfl
          have HW := Lib.hid hwl
          have Y := Lib.hid y
          have a0 := H20.out.cell_ 0 _ rfl
          have a1 := H20.out.cell_ 1 _ rfl
          have a2 := H20.out.cell_ 2 _ rfl
          have S3 := Blk.new y1' 23 #[.int .i64 3, .string ⟨#[]⟩, .string ⟨#[]⟩]
          obtain ⟨gS, hgS⟩ : ∃ z, y1'.heap.size = z := ⟨_, rfl⟩
          rw [hgS] at S3
          have HS := Lib.hid S3
          have BS := Lib.hid (boxed y1' (.cells #[.int .i64 3, .string ⟨#[]⟩, .string ⟨#[]⟩] 23))
          clear y hwl S3
          go_wp2_with fail
          generalize World.alloc _ _ = y10 at HS BS ⊢
          refine (said_any _ _ _ _ V 0 [stR] (HT.out.below (below_step U0.out.bel (Nat.le_refl _) BS.out)) (HW.out _ BS.out) HTV.out.good (by rw [HVL.out]; decide) (StL.one (x := stR) HS.out) (by intro x hx; simp only [List.mem_cons, List.not_mem_nil, or_false] at hx; subst hx; exact plain_ok _ (by decide) (by decide)) (by intro x hx; simp only [List.mem_cons, List.not_mem_nil, or_false] at hx; subst hx; exact ⟨by decide, by decide⟩) (by simp)).mono ?_
          rintro e y11 ⟨r', s', cs', rfl, o1, o2, b⟩
          rw [HR9.out] at o1 o2 ⊢
          obtain ⟨A9, k9, rfl⟩ := o1.form
          obtain ⟨g9, cap9, rfl⟩ := o2.form (by rw [HL9.out]; decide)
          have hB : W0.heap.size ≤ y10.heap.size := (below_step U0.out.bel (Nat.le_refl _) BS.out).size
          have U10 := Lib.hid (((((U0.out.keep BS.out).keep b).turn (o1.base hB) (o2.base hB))).keep (boxed _ (.cells #[.int .i64 c9K, .string c9T, .int .i64 c9S] 48)))
          have Q := Blk.new ((y11.setCell ⟨z12, 0, none⟩ (.slice A9 V9.rows.length k9)).setCell ⟨z12, 1, none⟩ (.slice (some ⟨g9, 0, none⟩) V9.ses.length cap9)) 48 #[.int .i64 c9K, .string c9T, .int .i64 c9S]
          have hsz2 : ((y11.setCell ⟨z12, 0, none⟩ (.slice A9 V9.rows.length k9)).setCell ⟨z12, 1, none⟩ (.slice (some ⟨g9, 0, none⟩) V9.ses.length cap9)).heap.size = y11.heap.size := by simp [World.setCell]
          rw [hsz2] at Q
          obtain ⟨z21, hz21⟩ : ∃ z, y11.heap.size = z := ⟨_, rfl⟩
          rw [hz21] at Q
          have Q21 := Lib.hid Q
          have y2 := (Y.out.keep BS.out).keep b
          have z0 := y2.cell_ 0 _ rfl
          have z1 := y2.cell_ 1 _ rfl
          have zf := y2.frozen
          have lz := y2.lt
          rw [hz21] at lz
          unfold anV
          clear o1 o2 b y0 y1 a0 a1 a2 U0 HS BS HW Y hgS hB Q hsz2 y2
          go_upto_region 17 with fail
          clear z0 z1 zf lz hz21
          generalize World.alloc _ _ = y12 at U10 Q21 ⊢
          obtain ⟨Aa, ca, ga, pa, ya, wa⟩ := U10.out.b12.opens HL9.out (by decide) (by decide)
          obtain ⟨Ab, cb, gb, pb, yb, wb⟩ := U10.out.b7.opens HLW.out (by decide) (by decide)
          have HA := Lib.hid wa
          have HBb := Lib.hid wb
          have YA := Lib.hid ya
          have YB := Lib.hid yb
          have HB := Lib.hid (Below.refl y12.heap.size y12).drew
          have q0 := (U10.out.b13.keep HB.out).cell_ 0 _ rfl
          replace q0 : (y12.drew).cell? ⟨z12 + 1, 0, none⟩ = some (.int .i64 1) := by rw [← HK2.out]; exact q0
          have r0 : (y12.drew).cell? ⟨z21, 0, none⟩ = some (.int .i64 1) := by rw [← HBK.out.2.2.1]; exact (Q21.out.keep HB.out).cell_ 0 _ rfl
          have r2 : (y12.drew).cell? ⟨z21, 2, none⟩ = some (.int .i64 0) := by rw [← HBK.out.2.2.2.1]; exact (Q21.out.keep HB.out).cell_ 2 _ rfl
          have y0 := (YA.out.keep HB.out).cell_ 0 _ rfl
          have y1 := (YA.out.keep HB.out).cell_ 1 _ rfl
          have y2 := (YB.out.keep HB.out).cell_ 0 _ rfl
          have y3 := (YB.out.keep HB.out).cell_ 1 _ rfl
          clear ya yb wa wb
          refine region_segs [] (by kernel_rfl) ?_
          generalize World.drew _ = y13 at HB q0 r0 r2 y0 y1 y2 y3 ⊢
          refine anyB_seg [0, 1, 2, 3, 4, 5, 6, 7, 8, 9, 10, 11, 12, 13, 14, 15, 16, 17, 18, 19, 20, 21, 22, 23, 24, 25, 26, 27, 28, 29, 30, 31, 32, 33, 34, 35, 36, 37, 38, 39, 40, 41] 16 rfl (by kernel_rfl) (by kernel_rfl) (by kernel_rfl) (fun _ _ d _ _ h => by cases d <;> exact h) ?_
          simp only [pickOps, List.getElem?_toArray, List.getElem?_cons_zero, List.getElem?_cons_succ]
          go_wp2_with fail
          refine ⟨rfl, by rfl, ?_⟩
          clear q0 r0 r2 y0 y1 y2 y3
          refine anyB_one (i := 42) (by kernel_rfl) rfl (fun K hK => ?_)
          go_simp
          have hra := (HA.out _ HB.out).rows
          rw [HBK.out.1] at hra ⊢
          refine (equal_same _ _ _ W.rows hra (HBb.out _ HB.out).rows).mono ?_
          rintro e y14 ⟨rfl, b⟩
          refine hK.out _ _ (fun _ => b) ?_
          clear hK K
          have HC2 := Lib.hid (below_step HB.out (Nat.le_refl _) b)
          clear b HB hra
          have s5 := (HA.out _ HC2.out).ses.seat0 (by rw [HL9.out]; decide)
          have s6 := (HBb.out _ HC2.out).ses.seat0 (by rw [HLW.out]; decide)
          obtain ⟨S, hS⟩ : ∃ S, V9.ses[0]'(by rw [HL9.out]; decide) = S := ⟨_, rfl⟩
          obtain ⟨T, hTT⟩ : ∃ T, W.ses[0]'(by rw [HLW.out]; decide) = T := ⟨_, rfl⟩
          have hset : S.set = T.set := by
            have := HBK.out.2.1
            unfold Wo.se at this
            rw [getD_at (by rw [HL9.out]; decide), getD_at (by rw [HLW.out]; decide), hS, hTT] at this
            exact this
          rw [hS] at s5
          rw [hTT] at s6
          obtain ⟨_, ⟨v1, P1, P1'⟩, _⟩ := s5
          obtain ⟨_, ⟨v2', P2, P2'⟩, _⟩ := s6
          rw [hset] at P1'
          obtain ⟨a1, d1, rfl⟩ := P1'.form
          obtain ⟨a2, d2, rfl⟩ := P2'.form
          have x1' : y14.cell? ⟨ga, 1, none⟩ = some (.slice a1 T.set.length d1) := P1
          have x2' : y14.cell? ⟨gb, 1, none⟩ = some (.slice a2 T.set.length d2) := P2
          have y0 := (YA.out.keep HC2.out).cell_ 1 _ rfl
          have y1 := (YB.out.keep HC2.out).cell_ 1 _ rfl
          have E1 := Lib.hid P1'
          have E2 := Lib.hid P2'
          clear P1 P2 P1' P2' hS hTT hset
          refine anyB_seg [43, 44, 45, 46, 47, 48, 49, 50, 51, 52, 53, 54] 3 rfl (by kernel_rfl) (by kernel_rfl) (by kernel_rfl) (fun _ _ d _ _ h => by cases d <;> exact h) ?_
          simp only [pickOps, List.getElem?_toArray, List.getElem?_cons_zero, List.getElem?_cons_succ]
          go_wp2_with fail
          refine ⟨rfl, by rfl, ?_⟩
          clear x1' x2' y0 y1
          refine anyB_one (i := 55) (by kernel_rfl) rfl (fun K hK => ?_)
          go_simp
          refine (equal_same _ _ _ T.set E1.out E2.out).mono ?_
          rintro e y15 ⟨rfl, b⟩
          refine hK.out _ _ (fun _ => b) ?_
          clear hK K
          have HD := Lib.hid (below_step HC2.out (Nat.le_refl _) b)
          clear b HC2
          refine anyB_seg [56, 57] 0 rfl (by kernel_rfl) (by kernel_rfl) (by kernel_rfl) (fun _ _ d _ _ h => by cases d <;> exact h) ?_
          simp only [pickOps, List.getElem?_toArray, List.getElem?_cons_zero, List.getElem?_cons_succ]
          go_wp2_with fail
          refine ⟨rfl, by rfl, ?_⟩
          refine anyB_done (by kernel_rfl) ?_ _
          go_wp2_with fail
          go_ret
          exact ⟨by simp, below_step U10.out.bel (Nat.le_refl _) HD.out⟩
        | true =>
          go_upto_region 14 with fail
          have hvL : V.ses.length = 1 := by rw [HTV.out.len]; exact HLW.out
          have HVV := Lib.hid hvL
          obtain ⟨R8, hR8⟩ : ∃ R, doW V 0 stF = R := ⟨_, rfl⟩
          have htf := HTV.out.step (x := stF) (plain_ok 5 (by decide) (by decide)) (by decide) (by decide)
          have hst2 := HTV.out.failed
          rw [hR8] at htf hst2
          obtain ⟨V8, c8⟩ := R8
          have HR8 := Lib.hid (show saidL 0 [stF] (V, An.no) = (V8, c8) from hR8)
          have HTF := Lib.hid (show Tx W V8 0 from htf)
          have HS2 := Lib.hid (show (V8.se 0).st = 2 from hst2)
          obtain ⟨c8K, c8T, c8S⟩ := c8
          clear hvL hR8 htf hst2
          obtain ⟨AX, kX, gX, capX, y, hwl⟩ := U0.out.b12.opens HVV.out (by decide) (by decide)
          have y0 := y.cell_ 0 _ rfl
          have y1 := y.cell_ 1 _ rfl
          have HW := Lib.hid hwl
          have Y := Lib.hid y
          have S3 := Blk.new y1' 23 #[.int .i64 5, .string ⟨#[]⟩, .string ⟨#[]⟩]
          obtain ⟨gS, hgS⟩ : ∃ z, y1'.heap.size = z := ⟨_, rfl⟩
          rw [hgS] at S3
          have HS := Lib.hid S3
          have BS := Lib.hid (boxed y1' (.cells #[.int .i64 5, .string ⟨#[]⟩, .string ⟨#[]⟩] 23))
          clear y hwl S3
          go_wp2_with fail
          generalize World.alloc _ _ = y2' at HS BS ⊢
          refine (said_any _ _ _ _ V 0 [stF] (HT.out.below (below_step U0.out.bel (Nat.le_refl _) BS.out)) (HW.out _ BS.out) HTV.out.good (by rw [HVV.out]; decide) (StL.one (x := stF) HS.out) (by intro x hx; simp only [List.mem_cons, List.not_mem_nil, or_false] at hx; subst hx; exact plain_ok 5 (by decide) (by decide)) (by intro x hx; simp only [List.mem_cons, List.not_mem_nil, or_false] at hx; subst hx; exact ⟨by decide, by decide⟩) (by simp)).mono ?_
          rintro e y3' ⟨r', s', cs', rfl, o1, o2, b⟩
          rw [HR8.out] at o1 o2 ⊢
          obtain ⟨A8, k8, rfl⟩ := o1.form
          obtain ⟨g8, cap8, rfl⟩ := o2.form (by have := HTF.out.hi; omega)
          have hB : W0.heap.size ≤ y2'.heap.size := (below_step U0.out.bel (Nat.le_refl _) BS.out).size
          have y2 := (Y.out.keep BS.out).keep b
          have z0 := y2.cell_ 0 _ rfl
          have z1 := y2.cell_ 1 _ rfl
          have zf := y2.frozen
          have h20 := (H20.out.keep BS.out).keep b
          have n20 : z20 ≠ z12 := h20.ne_ y2 (by decide)
          have h20' := (h20.far (p := ⟨z12, 0, none⟩) n20 (.slice A8 V8.rows.length k8)).far (p := ⟨z12, 1, none⟩) n20 (.slice (some ⟨g8, 0, none⟩) V8.ses.length cap8)
          have U1 := Lib.hid ((((U0.out.keep BS.out).keep b).turn (o1.base hB) (o2.base hB)).setS h20' HZ20.out 0 (.int .i64 2))
          have J20 := Lib.hid (h20'.set_ 0 (.int .i64 2))
          have w0 := h20.cell_ 0 _ rfl
          have wf := h20.frozen
          unfold anV
          clear o1 o2 b y0 y1 U0 HS BS HW Y hgS hB y2 h20 h20' H20
          go_upto_region 16 with fail
          generalize World.setCell _ _ _ = y4' at U1 J20 ⊢
          clear z0 z1 zf w0 wf n20
          have hvL : V8.ses.length = 1 := by rw [HTF.out.len]; exact HLW.out
          have HVL := Lib.hid hvL
          obtain ⟨R9, hR9⟩ : ∃ R, doW V8 0 stC = R := ⟨_, rfl⟩
          have hbk := HTF.out.back stC (.inr ⟨rfl, HS2.out⟩)
          rw [hR9] at hbk
          obtain ⟨V9, c9⟩ := R9
          have HR9 := Lib.hid (show saidL 0 [stC] (V8, An.no) = (V9, c9) from hR9)
          obtain ⟨c9K, c9T, c9S⟩ := c9
          have HBK := Lib.hid (show V9.rows = W.rows ∧ (V9.se 0).set = (W.se 0).set ∧ c9K = 1 ∧ c9S = 0 ∧ V9.ses.length = W.ses.length from hbk)
          have HL9 := Lib.hid (show V9.ses.length = 1 from hbk.2.2.2.2.trans HLW.out)
          clear hvL hR9 hbk
          obtain ⟨AX, kX, gX, capX, y, hwl⟩ := U1.out.b12.opens HVL.out (by decide) (by decide)
          have y0 := y.cell_ 0 _ rfl
          have y1 := y.cell_ 1 _ rfl
          have HW := Lib.hid hwl
          have Y := Lib.hid y
          have a0 := J20.out.cell_ 0 _ rfl
          have a1 := J20.out.cell_ 1 _ rfl
          have a2 := J20.out.cell_ 2 _ rfl
          have S3 := Blk.new y4' 23 #[.int .i64 2, .string ⟨#[]⟩, .string ⟨#[]⟩]
          obtain ⟨gS, hgS⟩ : ∃ z, y4'.heap.size = z := ⟨_, rfl⟩
          rw [hgS] at S3
          have HS := Lib.hid S3
          have BS := Lib.hid (boxed y4' (.cells #[.int .i64 2, .string ⟨#[]⟩, .string ⟨#[]⟩] 23))
          clear y hwl S3
          go_wp2_with fail
          generalize World.alloc _ _ = y10 at HS BS ⊢
          refine (said_any _ _ _ _ V8 0 [stC] (HT.out.below (below_step U1.out.bel (Nat.le_refl _) BS.out)) (HW.out _ BS.out) HTF.out.good (by rw [HVL.out]; decide) (StL.one (x := stC) HS.out) (by intro x hx; simp only [List.mem_cons, List.not_mem_nil, or_false] at hx; subst hx; exact plain_ok _ (by decide) (by decide)) (by intro x hx; simp only [List.mem_cons, List.not_mem_nil, or_false] at hx; subst hx; exact ⟨by decide, by decide⟩) (by simp)).mono ?_
          rintro e y11 ⟨r', s', cs', rfl, o1, o2, b⟩
          rw [HR9.out] at o1 o2 ⊢
          obtain ⟨A9, k9, rfl⟩ := o1.form
          obtain ⟨g9, cap9, rfl⟩ := o2.form (by rw [HL9.out]; decide)
          have hB : W0.heap.size ≤ y10.heap.size := (below_step U1.out.bel (Nat.le_refl _) BS.out).size
          have U10 := Lib.hid (((((U1.out.keep BS.out).keep b).turn (o1.base hB) (o2.base hB))).keep (boxed _ (.cells #[.int .i64 c9K, .string c9T, .int .i64 c9S] 48)))
          have Q := Blk.new ((y11.setCell ⟨z12, 0, none⟩ (.slice A9 V9.rows.length k9)).setCell ⟨z12, 1, none⟩ (.slice (some ⟨g9, 0, none⟩) V9.ses.length cap9)) 48 #[.int .i64 c9K, .string c9T, .int .i64 c9S]
          have hsz2 : ((y11.setCell ⟨z12, 0, none⟩ (.slice A9 V9.rows.length k9)).setCell ⟨z12, 1, none⟩ (.slice (some ⟨g9, 0, none⟩) V9.ses.length cap9)).heap.size = y11.heap.size := by simp [World.setCell]
          rw [hsz2] at Q
          obtain ⟨z21, hz21⟩ : ∃ z, y11.heap.size = z := ⟨_, rfl⟩
          rw [hz21] at Q
          have Q21 := Lib.hid Q
          have y2 := (Y.out.keep BS.out).keep b
          have z0 := y2.cell_ 0 _ rfl
          have z1 := y2.cell_ 1 _ rfl
          have zf := y2.frozen
          have lz := y2.lt
          rw [hz21] at lz
          unfold anV
          clear o1 o2 b y0 y1 a0 a1 a2 U1 HS BS HW Y hgS hB Q hsz2 y2
          go_upto_region 17 with fail
          clear z0 z1 zf lz hz21
          generalize World.alloc _ _ = y12 at U10 Q21 ⊢
          obtain ⟨Aa, ca, ga, pa, ya, wa⟩ := U10.out.b12.opens HL9.out (by decide) (by decide)
          obtain ⟨Ab, cb, gb, pb, yb, wb⟩ := U10.out.b7.opens HLW.out (by decide) (by decide)
          have HA := Lib.hid wa
          have HBb := Lib.hid wb
          have YA := Lib.hid ya
          have YB := Lib.hid yb
          have HB := Lib.hid (Below.refl y12.heap.size y12).drew
          have q0 := (U10.out.b13.keep HB.out).cell_ 0 _ rfl
          replace q0 : (y12.drew).cell? ⟨z12 + 1, 0, none⟩ = some (.int .i64 1) := by rw [← HK2.out]; exact q0
          have r0 : (y12.drew).cell? ⟨z21, 0, none⟩ = some (.int .i64 1) := by rw [← HBK.out.2.2.1]; exact (Q21.out.keep HB.out).cell_ 0 _ rfl
          have r2 : (y12.drew).cell? ⟨z21, 2, none⟩ = some (.int .i64 0) := by rw [← HBK.out.2.2.2.1]; exact (Q21.out.keep HB.out).cell_ 2 _ rfl
          have y0 := (YA.out.keep HB.out).cell_ 0 _ rfl
          have y1 := (YA.out.keep HB.out).cell_ 1 _ rfl
          have y2 := (YB.out.keep HB.out).cell_ 0 _ rfl
          have y3 := (YB.out.keep HB.out).cell_ 1 _ rfl
          clear ya yb wa wb
          refine region_segs [] (by kernel_rfl) ?_
          generalize World.drew _ = y13 at HB q0 r0 r2 y0 y1 y2 y3 ⊢
          refine anyB_seg [0, 1, 2, 3, 4, 5, 6, 7, 8, 9, 10, 11, 12, 13, 14, 15, 16, 17, 18, 19, 20, 21, 22, 23, 24, 25, 26, 27, 28, 29, 30, 31, 32, 33, 34, 35, 36, 37, 38, 39, 40, 41] 16 rfl (by kernel_rfl) (by kernel_rfl) (by kernel_rfl) (fun _ _ d _ _ h => by cases d <;> exact h) ?_
          simp only [pickOps, List.getElem?_toArray, List.getElem?_cons_zero, List.getElem?_cons_succ]
          go_wp2_with fail
          refine ⟨rfl, by rfl, ?_⟩
          clear q0 r0 r2 y0 y1 y2 y3
          refine anyB_one (i := 42) (by kernel_rfl) rfl (fun K hK => ?_)
          go_simp
          have hra := (HA.out _ HB.out).rows
          rw [HBK.out.1] at hra ⊢
          refine (equal_same _ _ _ W.rows hra (HBb.out _ HB.out).rows).mono ?_
          rintro e y14 ⟨rfl, b⟩
          refine hK.out _ _ (fun _ => b) ?_
          clear hK K
          have HC2 := Lib.hid (below_step HB.out (Nat.le_refl _) b)
          clear b HB hra
          have s5 := (HA.out _ HC2.out).ses.seat0 (by rw [HL9.out]; decide)
          have s6 := (HBb.out _ HC2.out).ses.seat0 (by rw [HLW.out]; decide)
          obtain ⟨S, hS⟩ : ∃ S, V9.ses[0]'(by rw [HL9.out]; decide) = S := ⟨_, rfl⟩
          obtain ⟨T, hTT⟩ : ∃ T, W.ses[0]'(by rw [HLW.out]; decide) = T := ⟨_, rfl⟩
          have hset : S.set = T.set := by
            have := HBK.out.2.1
            unfold Wo.se at this
            rw [getD_at (by rw [HL9.out]; decide), getD_at (by rw [HLW.out]; decide), hS, hTT] at this
            exact this
          rw [hS] at s5
          rw [hTT] at s6
          obtain ⟨_, ⟨v1, P1, P1'⟩, _⟩ := s5
          obtain ⟨_, ⟨v2', P2, P2'⟩, _⟩ := s6
          rw [hset] at P1'
          obtain ⟨a1, d1, rfl⟩ := P1'.form
          obtain ⟨a2, d2, rfl⟩ := P2'.form
          have x1' : y14.cell? ⟨ga, 1, none⟩ = some (.slice a1 T.set.length d1) := P1
          have x2' : y14.cell? ⟨gb, 1, none⟩ = some (.slice a2 T.set.length d2) := P2
          have y0 := (YA.out.keep HC2.out).cell_ 1 _ rfl
          have y1 := (YB.out.keep HC2.out).cell_ 1 _ rfl
          have E1 := Lib.hid P1'
          have E2 := Lib.hid P2'
          clear P1 P2 P1' P2' hS hTT hset
          refine anyB_seg [43, 44, 45, 46, 47, 48, 49, 50, 51, 52, 53, 54] 3 rfl (by kernel_rfl) (by kernel_rfl) (by kernel_rfl) (fun _ _ d _ _ h => by cases d <;> exact h) ?_
          simp only [pickOps, List.getElem?_toArray, List.getElem?_cons_zero, List.getElem?_cons_succ]
          go_wp2_with fail
          refine ⟨rfl, by rfl, ?_⟩
          clear x1' x2' y0 y1
          refine anyB_one (i := 55) (by kernel_rfl) rfl (fun K hK => ?_)
          go_simp
          refine (equal_same _ _ _ T.set E1.out E2.out).mono ?_
          rintro e y15 ⟨rfl, b⟩
          refine hK.out _ _ (fun _ => b) ?_
          clear hK K
          have HD := Lib.hid (below_step HC2.out (Nat.le_refl _) b)
          clear b HC2
          refine anyB_seg [56, 57] 0 rfl (by kernel_rfl) (by kernel_rfl) (by kernel_rfl) (fun _ _ d _ _ h => by cases d <;> exact h) ?_
          simp only [pickOps, List.getElem?_toArray, List.getElem?_cons_zero, List.getElem?_cons_succ]
          go_wp2_with fail
          refine ⟨rfl, by rfl, ?_⟩
          refine anyB_done (by kernel_rfl) ?_ _
          go_wp2_with fail
          go_ret
          exact ⟨by simp, below_step U10.out.bel (Nat.le_refl _) HD.out⟩
end Go.Proofs.YtjbnfigpflambabDoor
