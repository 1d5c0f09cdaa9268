/- The walk of TopPrivate: it returns true. -/
import Derived.Test.YtjbnfigpflambacGreatDoorJ21
import Derived.Test.YtjbnfigpflambacGreatDoorJ22
import Derived.Test.YtjbnfigpflambacGreatDoorJ37
/- The walk of TopPrivate: it returns true. -/
namespace Go.Proofs.YtjbnfigpflambacGreatDoor
open Go.ChangeShapes Go.WideShapes Go.ChangeAt Go.RowKit
theorem isE_size {t : ByteArray} (h : t.toList.isEmpty = true) : t.size = 0 := by
 have : t.toList = [] := by simpa using h
 rw [toList_data] at this
 have h2 : t.data.toList.length = 0 := by rw [this]; rfl
 simpa using h2
theorem st_sizes {s : St} (h : checkE s = 0) : s.key.size ≤ maxLen ∧ s.val.size ≤ maxLen := by
 have hz := valid_sizes h
 unfold maxLen
 rcases valid_sorts h with ⟨h1, h2, e1, e2⟩ | ⟨h1, h2, e1, e2⟩ | ⟨h1, h2, e1, e2⟩
 ·have := isE_size e1
  have := isE_size e2
  omega
 ·have := isE_size e2
  have := (hz (by omega)).1
  omega
 ·have := hz (by omega)
  have := this.2 (by omega)
  omega
theorem priv_step {ds : List De} (h : ∀ l d m, ds = l ++ d :: m → d.c < 6 ∧ checkE d.x = 0 ∧ Good (replay startH l) ∧ (replay startH l).ses.length = 6 ∧ d.a = (doW (replay startH l) d.c d.x).2) {k : Nat} (hk : k < ds.length) :
  doE (replay startH (ds.take k)) (ds[k].c : Int) ds[k].x = 0 ∧ doR (replay startH (ds.take k)) (ds[k].c : Int) ds[k].x = (replay startH (ds.take (k + 1)), ds[k].a) ∧ ds[k].c < 6 ∧ checkE ds[k].x = 0 ∧ (replay startH (ds.take k)).ses.length = 6 := by
 obtain ⟨h1, h2, h3, h4, h5⟩ := h (ds.take k) ds[k] (ds.drop (k + 1)) (by rw [List.getElem_cons_drop, List.take_append_drop])
 have h0 : doE (replay startH (ds.take k)) (ds[k].c : Int) ds[k].x = 0 := by
  unfold doE
  rw [if_pos ((good_iff _).2 h3), if_pos (by rw [h4]; omega)]
  exact h2
 refine ⟨h0, ?_, h1, h2, h4⟩
 unfold doR
 rw [if_pos h0, Int.toNat_natCast, List.take_succ_eq_append_getElem hk, replay_snoc]
 exact Prod.ext rfl h5.symm
set_option maxRecDepth 100000 in
theorem made_six : ∀ w : World, (Instr.makeSlice 37 (.int .i64 6) (.int .i64 6)).run Tryz.prog w = .ok (.slice (some ⟨w.heap.size, 0, none⟩) 6 6) (w.alloc (.cells (zcS 6).toArray 133)) := by
 intro w
 kernel_rfl
theorem boxW_new (w : World) (B : Nat) (hB : B ≤ w.heap.size) : BoxW B ((w.alloc (.cells (zcS 6).toArray 133)).alloc (.cells #[.slice none 0 0, .slice (some ⟨w.heap.size, 0, none⟩) 6 6] 39)) (w.heap.size + 1) startH := by
 have b1 := Blk.new w 133 (zcS 6).toArray
 have b2 := Blk.new1 w (.cells (zcS 6).toArray 133) 39 #[.slice none 0 0, .slice (some ⟨w.heap.size, 0, none⟩) 6 6]
 exact ⟨_, _, b2, OPL.nil_ _ _, zcS 6, zcS_osl (n := 6) (b1.alloc _) hB (by decide)⟩
theorem BoxW.wl {B : Nat} {w : World} {r s : Value} {W : Wo} (h1 : OPL w B r W.rows) (h3 : ∃ cs, OSL w B s W.ses cs) (h8 : W.ses.length = 6) : WL w w.heap.size r s W := by
 obtain ⟨cs, h3⟩ := h3
 exact ⟨h1.pl, h3.sl (by omega)⟩
theorem don_new {B : Nat} {w6 w7 : World} {r s : Value} {cs : List Value} {V : Wo} {a : An} (o1 : OPL w7 w6.heap.size r V.rows) (o2 : OSL w7 w6.heap.size s V.ses cs) (b7 : Below w6.heap.size w6 w7) (hB : B ≤ w6.heap.size) :
  DoN B w6 ((w7.alloc (.cells #[r, s] 39)).alloc (.cells #[.int .i64 a.kind, .string a.text, .int .i64 a.st] 46)) w7.heap.size (w7.heap.size + 1) r s V a := by
 have bq := boxed2 w7 (.cells #[r, s] 39) (.cells #[.int .i64 a.kind, .string a.text, .int .i64 a.st] 46)
 exact ⟨below_step b7 (Nat.le_refl _) bq, (Blk.new w7 _ _).alloc _, Blk.new1 w7 _ _ _, (o1.base hB).keeps (Keeps.of_below bq), ⟨cs, osl_keeps (o2.base hB) (Keeps.of_below bq) (Keeps.of_below bq)⟩, b7.size, Nat.le_succ_of_le b7.size⟩
theorem keeps_two {w : World} {q : Nat} {t t' : TypeId} {cs : Array Value} (h : Blk w q t' cs) (hne : t' ≠ t) (x y : Value) : Keeps t w ((w.setCell ⟨q, 0, none⟩ x).setCell ⟨q, 1, none⟩ y) :=
 (Keeps.set_ (p := ⟨q, 0, none⟩) h hne x).trans (Keeps.set_ (p := ⟨q, 1, none⟩) (h.set_ 0 x) hne y)
theorem BoxO.setW {w : World} {B z q : Nat} {vs vd vr : Value} {o : Outc} {cs : Array Value} (h : BoxO w B z vs vd vr o) (b : Blk w q 39 cs) (x y : Value) : BoxO ((w.setCell ⟨q, 0, none⟩ x).setCell ⟨q, 1, none⟩ y) B z vs vd vr o :=
 ⟨h.lb, h.blk.ofKeeps (keeps_two b (by decide) x y), h.out.keeps (keeps_two b (by decide) x y) (keeps_two b (by decide) x y) (keeps_two b (by decide) x y)⟩
theorem BoxW.setW {w : World} {B q : Nat} {r s r' s' : Value} {V : Wo} (b : Blk w q 39 #[r, s]) (h1 : OPL w B r' V.rows) (h2 : ∃ cs, OSL w B s' V.ses cs) : BoxW B ((w.setCell ⟨q, 0, none⟩ r').setCell ⟨q, 1, none⟩ s') q V := by
 obtain ⟨cs, h2⟩ := h2
 exact ⟨r', s', (b.set_ 0 r').set_ 1 s', h1.keeps (keeps_two b (by decide) r' s'), cs, osl_keeps h2 (keeps_two b (by decide) r' s') (keeps_two b (by decide) r' s')⟩
set_option maxHeartbeats 8000000 in
set_option maxRecDepth 100000 in
theorem topPrivate_walk (W0 : World) (hT : Tabs W0) (v : Value) (l : List Rw) (hl : RL W0 W0.heap.size v l) (m : Int) (hm : (Lit.int .i64 m).wf = true) (n : Int) (hn : (Lit.int .i64 n).wf = true) :
  Calls Tryz.prog 8 #[v, .int .i64 m, .int .i64 n] W0 fun e w' => e = .returned (.bool true) ∧ Below W0.heap.size W0 w' := by
 have HT := Lib.hid hT
 have HL := Lib.hid hl
 have HM := Lib.hid hm
 have HN := Lib.hid hn
 have HMS := Lib.hid made_six
 obtain ⟨A, cap, rfl, _⟩ := hl
 have hf := left_fair (acts_fair (most := 60) (m := 5) (by decide) (by decide) l)
 have hle := Nat.le_trans (left_len (actsL 60 5 l)) (acts_len 60 5 l)
 obtain ⟨L, hL⟩ : ∃ L, leftA (actsL 60 5 l) = L := ⟨_, rfl⟩
 rw [hL] at hf hle
 have HLE := Lib.hid hL
 obtain ⟨ns, hk, k1, k4, hs⟩ := setup_ok m n
 have hpr := out_private (1 + pick m 3) ns (by omega) L (fair_c (by decide) fun a ha => (hf a ha).1) (fun a ha => ⟨by rw [(hf a ha).2.1]; decide, (hf a ha).2.2⟩)
 obtain ⟨md, hmd⟩ : ∃ md, 1 + pick m 3 = md := ⟨_, rfl⟩
 rw [hmd] at hs hpr
 obtain ⟨o, ho⟩ : ∃ o, outM md ns L = o := ⟨_, rfl⟩
 rw [ho] at hpr
 have HO1 := Lib.hid ho
 have HF := Lib.hid hpr.2
 have HRW := Lib.hid hpr.1
 have HO := Lib.hid (fair_ok (l := L) fun a ha => (hf a ha).1)
 have HLN := Lib.hid (Nat.le_trans hle (show 60 ≤ 300 by decide))
 have HK := Lib.hid hk
 have HMD := Lib.hid hmd
 have HS := Lib.hid (And.intro hs (And.intro k1 k4))
 obtain ⟨N, hN⟩ : ∃ N, l.length = N := ⟨_, rfl⟩
 rw [hN] at HL ⊢
 clear hT hf ho hN hm hn hk k1 k4 hs hpr hmd hle hL
 go_enter Tryz.func8, Tryz.ntmps8
 go_wp2_with fail
 refine (ksetup_any m n _ HM.out HN.out).mono ?_
 rintro e w1 ⟨rfl, b1⟩
 rw [HK.out, HMD.out]
 have B1 := Lib.hid b1
 clear b1
 go_wp2_with fail
 refine (staying_any _ _ l (HL.out.below B1.out |>.more B1.out.size) 60 5 (by decide) (by decide) (by decide) (HT.out.below B1.out)).mono ?_
 rintro e w2 ⟨r, rfl, own, b2⟩
 rw [HLE.out] at own
 have HA := Lib.hid (owno_acl own)
 have B2 := Lib.hid (below_step B1.out (Nat.le_refl _) b2)
 clear own b2 B1
 go_wp2_with fail
 refine (played_top _ md ns _ _ HS.out.1 HS.out.2.1 HS.out.2.2 HA.out HLN.out HO.out (HT.out.below B2.out)).mono ?_
 rintro e w3 ⟨vs, vd, vr, rfl, h3, b3⟩
 rw [HO1.out] at h3
 have X := Lib.hid (boxO_new h3 b3 B2.out.size)
 have B3 := Lib.hid (below_step B2.out (Nat.le_refl _) b3)
 have bb := boxed w3 (.cells #[vs, vd, vr] 29)
 have B4 := Lib.hid (below_step B3.out (Nat.le_refl _) bb)
 obtain ⟨A1, c1, A2, c2, A3, c3, rfl, rfl, rfl⟩ := outR_form h3
 clear h3 b3 bb HA B2 B3
 obtain ⟨n1, hn1⟩ : ∃ n, o.sent.length = n := ⟨_, rfl⟩
 obtain ⟨n2, hn2⟩ : ∃ n, o.deeds.length = n := ⟨_, rfl⟩
 obtain ⟨n3, hn3⟩ : ∃ n, o.rows.length = n := ⟨_, rfl⟩
 have HN2 := Lib.hid hn2
 rw [hn1, hn2, hn3] at X B4 ⊢
 obtain ⟨q, hq⟩ : ∃ q, w3.heap.size = q := ⟨_, rfl⟩
 rw [hq] at X
 go_upto_region 2 with fail
 generalize World.alloc _ _ = w4 at X B4 ⊢
 clear hq hn1 hn2 hn3
 have MK := HMS.out
 go_upto_region 5 with fail
 clear MK
 have bb2 := boxed2 w4 (.cells (zcS 6).toArray 133) (.cells #[.slice none 0 0, .slice (some ⟨w4.heap.size, 0, none⟩) 6 6] 39)
 have WB := Lib.hid (boxW_new w4 W0.heap.size B4.out.size)
 have X5 := Lib.hid (X.out.keep bb2)
 have B5 := Lib.hid (below_step B4.out (Nat.le_refl _) bb2)
 have HQ := Lib.hid (show W0.heap.size ≤ w4.heap.size + 1 by have := B4.out.size; omega)
 obtain ⟨qw, hqw⟩ : ∃ q, w4.heap.size + 1 = q := ⟨_, rfl⟩
 rw [hqw] at WB HQ ⊢
 generalize World.alloc _ _ = w5 at X5 B5 WB ⊢
 clear bb2 X B4 hqw HMS
 have x1 := X5.out.blk.cell_ 1 _ rfl
 go_wp2_with fail
 clear x1
 go_loopw [31] (fun i wx => ∃ k : Nat, k ≤ n2 ∧ i = .int .i64 k ∧ BoxO wx W0.heap.size q (.slice A1 n1 c1) (.slice A2 n2 c2) (.slice A3 n3 c3) o ∧ BoxW W0.heap.size wx qw (replay startH (o.deeds.take k)) ∧ Below W0.heap.size W0 wx) (fun i _ => n2 - (intOf i).toNat)
 case atStart => exact ⟨0, Nat.zero_le _, rfl, X5.out, WB.out, B5.out⟩
 case round =>
  obtain ⟨k, hk, rfl, hX, hW, hB⟩ := hrel
  have hmost := hX.out.deeds.most
  obtain ⟨A2', c2', e0, hle, rd⟩ := hX.out.deeds.reads
  injection e0 with e1 e2 e3
  subst e1 e3
  have hle : n2 ≤ c2 := by rw [← HN2.out]; exact hle
  have hm9 : n2 ≤ 9223372036854775807 := by have h := hmost; unfold maxLen at h; rw [HN2.out] at h; omega
  clear e2
  by_cases hlt : k < n2
  ·have g1 : (k : Int) < (n2 : Int) := by omega
   have g2 : (0 : Int) ≤ (k : Int) := by omega
   have hkl : k < o.deeds.length := by rw [HN2.out]; exact hlt
   obtain ⟨p1, p2, p3, p4, p5⟩ := priv_step HF.out hkl
   obtain ⟨ad, hA, hadB, x⟩ := deed_at rd hkl
   subst hA
   obtain ⟨d, hd⟩ : ∃ d, o.deeds[k] = d := ⟨_, rfl⟩
   rw [hd] at x p1 p2 p3 p4
   have HX := Lib.hid hX
   have HB := Lib.hid hB
   obtain ⟨V, hV⟩ : ∃ V, replay startH (o.deeds.take k) = V := ⟨_, rfl⟩
   obtain ⟨V2, hV2⟩ : ∃ V, replay startH (o.deeds.take (k + 1)) = V := ⟨_, rfl⟩
   rw [hV] at hW p1 p2 p5
   rw [hV2] at p2
   have HV2 := Lib.hid hV2
   have HW := Lib.hid hW
   have HP := Lib.hid (And.intro p1 (And.intro p2 (And.intro p3 (And.intro p4 p5))))
   obtain ⟨x0, x1, x2, x3, x4, x5, x6⟩ := x
   obtain ⟨dc, ⟨dk, dkey, dval⟩, ⟨dak, dat, das⟩⟩ := d
   simp only at x0 x1 x2 x3 x4 x5 x6
   clear hX hB hW hmost rd hd p1 p2 p3 p4 p5 hV hV2
   go_upto_region 8 with fail
   have Y := Lib.hid (Blk.new wr 71 #[.int .i64 (dc : Int), .int .i64 dk, .string dkey, .string dval, .int .i64 dak, .string dat, .int .i64 das])
   have bb := boxed wr (.cells #[.int .i64 (dc : Int), .int .i64 dk, .string dkey, .string dval, .int .i64 dak, .string dat, .int .i64 das] 71)
   have X2 := Lib.hid (HX.out.keep bb)
   have W2 := Lib.hid (HW.out.keep bb)
   have BB2 := Lib.hid (below_step HB.out (Nat.le_refl _) bb)
   obtain ⟨z, hz⟩ : ∃ z, wr.heap.size = z := ⟨_, rfl⟩
   rw [hz] at Y ⊢
   generalize World.alloc _ _ = w6 at Y X2 W2 BB2 ⊢
   clear bb x0 x1 x2 x3 x4 x5 x6 HX HB HW hz hadB
   have y0 := Y.out.cell_ 0 _ rfl
   have y1 := Y.out.cell_ 1 _ rfl
   have y2 := Y.out.cell_ 2 _ rfl
   have y3 := Y.out.cell_ 3 _ rfl
   obtain ⟨r, s, bw, br, bs⟩ := W2.out.box
   have f0 := bw.cell_ 0 _ rfl
   have f1 := bw.cell_ 1 _ rfl
   have HWL := Lib.hid (BoxW.wl br bs HP.out.2.2.2.2)
   clear bw br bs
   go_wp2_with fail
   refine (do_world w6 r s V dc ⟨dk, dkey, dval⟩ (HT.out.below BB2.out) HWL.out (i64_wf (by omega) (by have : dc < 6 := HP.out.2.2.1; omega)) (st_sizes HP.out.2.2.2.1).1 (st_sizes HP.out.2.2.2.1).2).mono ?_
   rintro e w7 ⟨r', s', cs', rfl, o1, o2, b7⟩
   have e1 := HP.out.1
   have e2 := HP.out.2.1
   rw [e2] at o1 o2 ⊢
   rw [e1]
   simp only at o1 o2 ⊢
   obtain ⟨A5, k5, rfl⟩ := o1.form
   obtain ⟨A6, k6, rfl⟩ := own_slice o2.own
   have FN0 := Lib.hid (don_new (B := W0.heap.size) (a := ⟨dak, dat, das⟩) o1 o2 b7 BB2.out.size)
   obtain ⟨qa, hqa⟩ : ∃ q, w7.heap.size = q := ⟨_, rfl⟩
   rw [hqa] at FN0
   clear o1 o2 b7 y0 y1 y2 y3 f0 f1 HWL e1 e2
   unfold anV
   go_upto_region 9 with fail
   have FN := FN0.out
   clear FN0 hqa
   generalize World.alloc _ _ = w9 at FN ⊢
   have X9 := Lib.hid (X2.out.keep FN.hb)
   have W9 := Lib.hid (W2.out.keep FN.hb)
   have Y9 := Lib.hid (Y.out.keep FN.hb)
   have B9 := Lib.hid (below_step BB2.out (Nat.le_refl _) FN.hb)
   have F9 := Lib.hid FN
   clear FN X2 W2 Y BB2
   have y4 := Y9.out.cell_ 4 _ rfl
   have y5 := Y9.out.cell_ 5 _ rfl
   have y6 := Y9.out.cell_ 6 _ rfl
   have a0 := F9.out.b13.cell_ 0 _ rfl
   have a1 := F9.out.b13.cell_ 1 _ rfl
   have a2 := F9.out.b13.cell_ 2 _ rfl
   go_upto_region 11 with fail
   clear y4 y5 y6 a0 a1 a2
   have c0 := F9.out.b12.cell_ 0 _ rfl
   have c1 := F9.out.b12.cell_ 1 _ rfl
   obtain ⟨r9, s9, bw, -, -⟩ := W9.out.box
   have f0 := bw.cell_ 0 _ rfl
   have f1 := bw.cell_ 1 _ rfl
   have ff := bw.frozen
   have X10 := Lib.hid (X9.out.setW bw (.slice A5 V2.rows.length k5) (.slice A6 V2.ses.length k6))
   have W10 := Lib.hid (BoxW.setW bw F9.out.rows F9.out.ses)
   have B10 := Lib.hid ((B9.out.setCell (p := ⟨qw, 0, none⟩) HQ.out (.slice A5 V2.rows.length k5)).setCell (p := ⟨qw, 1, none⟩) HQ.out (.slice A6 V2.ses.length k6))
   clear bw X9 W9 Y9 B9 F9
   go_upto_region 12 with fail
   clear c0 c1 f0 f1 ff
   generalize World.setCell _ _ _ = w10 at X10 W10 B10 ⊢
   go_wp2_with fail
   go_roundw
   case rel => exact ⟨k + 1, by omega, by go_num, X10.out, by rw [HV2.out]; exact W10.out, B10.out⟩
   case measure => simp [intOf]; omega
  ·have g1 : (n2 : Int) ≤ (k : Int) := by omega
   have hkn : k = n2 := by omega
   have HX := Lib.hid hX
   have HB := Lib.hid hB
   obtain ⟨r, s, bw, br, bs⟩ := hW.box
   have f0 := bw.cell_ 0 _ rfl
   have x2 := hX.blk.cell_ 2 _ rfl
   rw [hkn, ← HN2.out, List.take_length, ← HRW.out] at br
   have E := Lib.hid (equal_same wr r _ o.rows br.pl hX.out.rows.pl)
   clear hB hX hW bw br bs rd hmost
   go_wp2_with fail
   refine E.out.mono ?_
   rintro e w8 ⟨rfl, b8⟩
   have B8 := Lib.hid (below_step HB.out (Nat.le_refl _) b8)
   clear b8
   go_wp2_with fail
   go_ret
   exact ⟨rfl, B8.out⟩
end Go.Proofs.YtjbnfigpflambacGreatDoor
