/- The reference's did at Set. The reference's did at Prep. -/
import Derived.Test.YtjbnfigpflambabDoorJ14
import Derived.Test.YtjbnfigpflambabDoorJ16
/- The reference's did at Set. -/
namespace Go.Proofs.YtjbnfigpflambabDoor
open Go.ChangeShapes Go.WideShapes Go.ChangeAt Go.RowKit
set_option maxHeartbeats 8000000 in
set_option maxRecDepth 100000 in
theorem refdid_set (w : World) (B : Nat) (r : Value) (g cap n : Nat) (W : Wo) (cs : List Value) (i : Nat) (key val : ByteArray) (hB : B ≤ w.heap.size) (hn : W.ses.length = n) (hr : OPL w B r W.rows) (hs : OSL w B (.slice (some ⟨g, 0, none⟩) n cap) W.ses cs) (hi : i < n) (hs0 : (W.se i).st ≠ 2) (hc : hasK (W.se i).set key = false → (W.se i).set.length < 6) (hl : (W.se i).set.length ≤ 6) (hk : key.size ≤ maxLen) (hv : val.size ≤ maxLen) :
  Calls Tryd.prog 77 #[.agg #[r, .slice (some ⟨g, 0, none⟩) n cap], .int .i64 (i : Nat), .agg #[.int .i64 9, .string key, .string val]] w (DidR w B g cap n ((W.put i ⟨(W.se i).st, plusP (W.se i).set key val, (W.se i).pre, (W.se i).sav, (W.se i).wri⟩, okA))) := by
 obtain ⟨Ar, cr, A1, z1, A2, z2, A3, z3, A4, z4, rfl, hse, hpre⟩ := did_pre hB hn hr hs hi
 have HP := Lib.hid (hpre ⟨9, key, val⟩)
 have g1 : (i : Int) < (n : Int) := by omega
 have g2 : (0 : Int) ≤ (i : Int) := by omega
 have HN := Lib.hid hn
 have HI := Lib.hid hi
 obtain ⟨R, hR⟩ : ∃ R, (W.put i ⟨(W.se i).st, plusP (W.se i).set key val, (W.se i).pre, (W.se i).sav, (W.se i).wri⟩, okA) = R := ⟨_, rfl⟩
 rw [hR]
 obtain ⟨t, ht⟩ : ∃ t, W.se i = t := ⟨_, rfl⟩
 rw [ht] at hse HP hR hs0 hc hl
 have HF := Lib.hid (plus_fits hse.p1.fits.2 hk hv (by omega))
 clear hk hv
 have HS := Lib.hid hse
 have HR := Lib.hid hR
 clear hpre hse ht hR hn hi hr hs hB
 go_enter Tryd.func77, Tryd.ntmps77
 go_upto_region 1 with fail
 generalize hw4 : (((World.alloc _ _).alloc _).alloc _).alloc _ = w4
 obtain ⟨hz4, f1, y0, y1, y2, y3, y4, hm⟩ := HP.out w4 hw4
 have HM := Lib.hid hm
 clear hw4 hm HP
 go_upto_region 3 with fail
 clear f1 y0 y1 y2 y3 y4
 generalize (World.alloc _ _).alloc _ = w6 at HM ⊢
 have e2 : (t.st == 2) = false := by simpa using hs0
 have e2' : ¬ t.st = 2 := hs0
 have s0 := HM.out.se.cell_ 0 _ rfl
 have s1 := HM.out.se.cell_ 1 _ rfl
 have r0 := HM.out.wo.cell_ 0 _ rfl
 have r1 := HM.out.wo.cell_ 1 _ rfl
 have t0 := HM.out.st.cell_ 0 _ rfl
 have t1 := HM.out.st.cell_ 1 _ rfl
 go_wp2_with fail
 refine (refat_any _ _ t.set key ((HS.out.at_ HM.out.bel).p1.pl)).mono ?_
 rintro e w7 ⟨xv, rfl, b⟩
 have HM1 := Lib.hid (HM.out.keep b)
 clear s0 s1 r0 r1 t0 t1 b HM
 obtain ⟨b0, hb0⟩ : ∃ b, hasK t.set key = b := ⟨_, rfl⟩
 rw [hb0] at hc ⊢
 clear hb0
 cases b0 with
 | true =>
  clear hc
  have s1 := HM1.out.se.cell_ 1 _ rfl
  have r0 := HM1.out.wo.cell_ 0 _ rfl
  have r1 := HM1.out.wo.cell_ 1 _ rfl
  have t1 := HM1.out.st.cell_ 1 _ rfl
  have t2 := HM1.out.st.cell_ 2 _ rfl
  have fs := HM1.out.se.frozen
  go_upto_region 50 with fail
  go_wp2_with fail
  refine (refplus_any _ _ t.set key val ((HS.out.at_ HM1.out.bel).p1.pl)).mono ?_
  rintro e w8 ⟨a, rfl, oa, b⟩
  have HM2 := Lib.hid (HM1.out.keep b)
  have OA := Lib.hid ((OPL.mk oa HF.out).base (B' := B) (Nat.le_trans HM1.out.hB HM1.out.bel.size))
  clear oa b s1 r0 r1 t1 t2 fs HM1
  obtain ⟨F, k, rfl⟩ := OA.out.form
  have s1 := HM2.out.se.cell_ 1 _ rfl
  have fs := HM2.out.se.frozen
  go_upto_region 65 with fail
  have kp : Keeps 66 w8 (w8.setCell ⟨w.heap.size + 4, 1, none⟩ (.slice F (plusP t.set key val).length k)) := Keeps.set_ (p := ⟨w.heap.size + 4, 1, none⟩) HM2.out.se (by decide) _
  have OB := Lib.hid (OA.out.keeps kp)
  have HM3 := Lib.hid (HM2.out.setS rfl 1 (.slice F (plusP t.set key val).length k) rfl)
  clear s1 fs HM2 OA kp
  generalize World.setCell _ _ _ = w9 at HM3 OB ⊢
  have r0 := HM3.out.wo.cell_ 0 _ rfl
  have r1 := HM3.out.wo.cell_ 1 _ rfl
  have s0 := HM3.out.se.cell_ 0 _ rfl
  have s1 := HM3.out.se.cell_ 1 _ rfl
  have s2 := HM3.out.se.cell_ 2 _ rfl
  have s3 := HM3.out.se.cell_ 3 _ rfl
  have s4 := HM3.out.se.cell_ 4 _ rfl
  obtain ⟨_, _, _, _, _, c0, c1, c2, c3, c4, fr⟩ := HM3.out.cells5 HN.out HI.out
  have fr0 := fr (i * 5)
  have ST := Lib.hid (HS.out.at_ HM3.out.bel)
  go_upto_region 66 with fail
  obtain ⟨cs', dn⟩ := HM3.out.put5 rfl HN.out (i := i) (by rw [HN.out]; exact HI.out) (s' := ⟨t.st, plusP t.set key val, t.pre, t.sav, t.wri⟩) OB.out ST.out.p2 ST.out.p3 ST.out.p4 ST.out.i64
  clear r0 r1 s0 s1 s2 s3 s4 c0 c1 c2 c3 c4 fr fr0 ST
  have DN := Lib.hid dn
  clear dn
  generalize World.setCell _ _ _ = w9 at DN ⊢
  refine region_segs [2, 3] (by kernel_rfl) ?_
  have DN := Lib.hid (DN.out.keep (Below.refl _ _).drew)
  generalize w9.drew = w9 at DN ⊢
  have r0 := DN.out.wo.cell_ 0 _ rfl
  have r1 := DN.out.wo.cell_ 1 _ rfl
  have k0 := DN.out.ok.cell_ 0 _ rfl
  have k1 := DN.out.ok.cell_ 1 _ rfl
  have k2 := DN.out.ok.cell_ 2 _ rfl
  have u0 := DN.out.rw_.cell_ 0 _ rfl
  have u1 := DN.out.rw_.cell_ 1 _ rfl
  have v0 := DN.out.ra.cell_ 0 _ rfl
  have v1 := DN.out.ra.cell_ 1 _ rfl
  have v2 := DN.out.ra.cell_ 2 _ rfl
  have ff := DN.out.rw_.frozen
  have fg := DN.out.ra.frozen
  refine anyB_seg [0] 3 rfl (by kernel_rfl) (by kernel_rfl) (by kernel_rfl) (fun _ _ d _ _ h => by cases d <;> exact h) ?_
  simp only [pickOps, List.getElem?_toArray, List.getElem?_cons_zero]
  go_wp2_with fail
  refine ⟨rfl, by rfl, ?_⟩
  obtain ⟨E1, E2, E3, E4, E5⟩ := DN.out.toQ.ends rfl (.slice Ar W.rows.length cr) (.slice (some ⟨g, 0, none⟩) n cap) (.int .i64 1) (.string ⟨#[]⟩) (.int .i64 0)
  have q0 := E4.cell_ 0 _ rfl
  have q1 := E4.cell_ 1 _ rfl
  have p0 := E5.cell_ 0 _ rfl
  have p1 := E5.cell_ 1 _ rfl
  have p2 := E5.cell_ 2 _ rfl
  have FIN := Lib.hid (And.intro E1 (And.intro E2 E3))
  clear E1 E2 E3 E4 E5
  refine anyB_two (i := 1) (j := 2) (by kernel_rfl) rfl rfl (fun K hK => ?_) (fun K hK => ?_)
  ·go_simp
   refine hK.out _ _ (fun _ => (Below.refl _ _)) ?_
   clear hK K
   refine anyB_one (i := 2) (by kernel_rfl) rfl (fun K hK => ?_)
   go_simp
   refine hK.out _ _ (fun h => absurd (by decide) h) ?_
   clear hK K
   refine anyB_one (i := 3) (by kernel_rfl) rfl (fun K hK => ?_)
   go_simp
   refine hK.out _ _ (fun h => absurd (by decide) h) ?_
   clear hK K
   refine anyB_done (by kernel_rfl) ?_ _
   clear u0 u1 v0 v1 v2 ff fg r0 r1 k0 k1 k2
   generalize World.setCell _ _ _ = w10 at FIN q0 q1 p0 p1 p2 ⊢
   go_wp2_with fail
   refine bodyPost_ret (v := .tuple #[.agg #[.slice Ar W.rows.length cr, .slice (some ⟨g, 0, none⟩) n cap], .agg #[.int .i64 1, .string ⟨#[]⟩, .int .i64 0]]) ?_ rfl ⟨_, cs', by rw [← HR.out]; rfl, by rw [← HR.out]; exact FIN.out.2.1, by rw [← HR.out]; exact FIN.out.2.2, FIN.out.1⟩
   simp [results, Tryd.results77, go_sem, q0, q1, p0, p1, p2]
  ·go_simp
   refine hK.out _ _ (fun h => absurd (by decide) h) ?_
   clear hK K
   refine anyB_seg [1] 1 rfl (by kernel_rfl) (by kernel_rfl) (by kernel_rfl) (fun _ _ d _ _ h => by cases d <;> exact h) ?_
   simp only [pickOps, List.getElem?_toArray, List.getElem?_cons_zero, List.getElem?_cons_succ]
   go_wp2_with fail
   refine ⟨rfl, by rfl, ?_⟩
   refine anyB_one (i := 3) (by kernel_rfl) rfl (fun K hK => ?_)
   go_simp
   refine hK.out _ _ (fun h => absurd (by decide) h) ?_
   clear hK K
   refine anyB_done (by kernel_rfl) ?_ _
   clear u0 u1 v0 v1 v2 ff fg r0 r1 k0 k1 k2
   generalize World.setCell _ _ _ = w10 at FIN q0 q1 p0 p1 p2 ⊢
   go_wp2_with fail
   refine bodyPost_ret (v := .tuple #[.agg #[.slice Ar W.rows.length cr, .slice (some ⟨g, 0, none⟩) n cap], .agg #[.int .i64 1, .string ⟨#[]⟩, .int .i64 0]]) ?_ rfl ⟨_, cs', by rw [← HR.out]; rfl, by rw [← HR.out]; exact FIN.out.2.1, by rw [← HR.out]; exact FIN.out.2.2, FIN.out.1⟩
   simp [results, Tryd.results77, go_sem, q0, q1, p0, p1, p2]
 | false =>
  have g6 : ¬ (6 : Int) ≤ (t.set.length : Int) := by have := hc rfl; omega
  have g6' : (t.set.length : Int) < 6 := by have := hc rfl; omega
  clear hc
  have s1 := HM1.out.se.cell_ 1 _ rfl
  have r0 := HM1.out.wo.cell_ 0 _ rfl
  have r1 := HM1.out.wo.cell_ 1 _ rfl
  have t1 := HM1.out.st.cell_ 1 _ rfl
  have t2 := HM1.out.st.cell_ 2 _ rfl
  have fs := HM1.out.se.frozen
  go_upto_region 50 with fail
  go_wp2_with fail
  refine (refplus_any _ _ t.set key val ((HS.out.at_ HM1.out.bel).p1.pl)).mono ?_
  rintro e w8 ⟨a, rfl, oa, b⟩
  have HM2 := Lib.hid (HM1.out.keep b)
  have OA := Lib.hid ((OPL.mk oa HF.out).base (B' := B) (Nat.le_trans HM1.out.hB HM1.out.bel.size))
  clear oa b s1 r0 r1 t1 t2 fs HM1
  obtain ⟨F, k, rfl⟩ := OA.out.form
  have s1 := HM2.out.se.cell_ 1 _ rfl
  have fs := HM2.out.se.frozen
  go_upto_region 65 with fail
  have kp : Keeps 66 w8 (w8.setCell ⟨w.heap.size + 4, 1, none⟩ (.slice F (plusP t.set key val).length k)) := Keeps.set_ (p := ⟨w.heap.size + 4, 1, none⟩) HM2.out.se (by decide) _
  have OB := Lib.hid (OA.out.keeps kp)
  have HM3 := Lib.hid (HM2.out.setS rfl 1 (.slice F (plusP t.set key val).length k) rfl)
  clear s1 fs HM2 OA kp
  generalize World.setCell _ _ _ = w9 at HM3 OB ⊢
  have r0 := HM3.out.wo.cell_ 0 _ rfl
  have r1 := HM3.out.wo.cell_ 1 _ rfl
  have s0 := HM3.out.se.cell_ 0 _ rfl
  have s1 := HM3.out.se.cell_ 1 _ rfl
  have s2 := HM3.out.se.cell_ 2 _ rfl
  have s3 := HM3.out.se.cell_ 3 _ rfl
  have s4 := HM3.out.se.cell_ 4 _ rfl
  obtain ⟨_, _, _, _, _, c0, c1, c2, c3, c4, fr⟩ := HM3.out.cells5 HN.out HI.out
  have fr0 := fr (i * 5)
  have ST := Lib.hid (HS.out.at_ HM3.out.bel)
  go_upto_region 66 with fail
  obtain ⟨cs', dn⟩ := HM3.out.put5 rfl HN.out (i := i) (by rw [HN.out]; exact HI.out) (s' := ⟨t.st, plusP t.set key val, t.pre, t.sav, t.wri⟩) OB.out ST.out.p2 ST.out.p3 ST.out.p4 ST.out.i64
  clear r0 r1 s0 s1 s2 s3 s4 c0 c1 c2 c3 c4 fr fr0 ST
  have DN := Lib.hid dn
  clear dn
  generalize World.setCell _ _ _ = w9 at DN ⊢
  refine region_segs [2, 3] (by kernel_rfl) ?_
  have DN := Lib.hid (DN.out.keep (Below.refl _ _).drew)
  generalize w9.drew = w9 at DN ⊢
  have r0 := DN.out.wo.cell_ 0 _ rfl
  have r1 := DN.out.wo.cell_ 1 _ rfl
  have k0 := DN.out.ok.cell_ 0 _ rfl
  have k1 := DN.out.ok.cell_ 1 _ rfl
  have k2 := DN.out.ok.cell_ 2 _ rfl
  have u0 := DN.out.rw_.cell_ 0 _ rfl
  have u1 := DN.out.rw_.cell_ 1 _ rfl
  have v0 := DN.out.ra.cell_ 0 _ rfl
  have v1 := DN.out.ra.cell_ 1 _ rfl
  have v2 := DN.out.ra.cell_ 2 _ rfl
  have ff := DN.out.rw_.frozen
  have fg := DN.out.ra.frozen
  refine anyB_seg [0] 3 rfl (by kernel_rfl) (by kernel_rfl) (by kernel_rfl) (fun _ _ d _ _ h => by cases d <;> exact h) ?_
  simp only [pickOps, List.getElem?_toArray, List.getElem?_cons_zero]
  go_wp2_with fail
  refine ⟨rfl, by rfl, ?_⟩
  obtain ⟨E1, E2, E3, E4, E5⟩ := DN.out.toQ.ends rfl (.slice Ar W.rows.length cr) (.slice (some ⟨g, 0, none⟩) n cap) (.int .i64 1) (.string ⟨#[]⟩) (.int .i64 0)
  have q0 := E4.cell_ 0 _ rfl
  have q1 := E4.cell_ 1 _ rfl
  have p0 := E5.cell_ 0 _ rfl
  have p1 := E5.cell_ 1 _ rfl
  have p2 := E5.cell_ 2 _ rfl
  have FIN := Lib.hid (And.intro E1 (And.intro E2 E3))
  clear E1 E2 E3 E4 E5
  refine anyB_two (i := 1) (j := 2) (by kernel_rfl) rfl rfl (fun K hK => ?_) (fun K hK => ?_)
  ·go_simp
   refine hK.out _ _ (fun _ => (Below.refl _ _)) ?_
   clear hK K
   refine anyB_one (i := 2) (by kernel_rfl) rfl (fun K hK => ?_)
   go_simp
   refine hK.out _ _ (fun h => absurd (by decide) h) ?_
   clear hK K
   refine anyB_one (i := 3) (by kernel_rfl) rfl (fun K hK => ?_)
   go_simp
   refine hK.out _ _ (fun h => absurd (by decide) h) ?_
   clear hK K
   refine anyB_done (by kernel_rfl) ?_ _
   clear u0 u1 v0 v1 v2 ff fg r0 r1 k0 k1 k2
   generalize World.setCell _ _ _ = w10 at FIN q0 q1 p0 p1 p2 ⊢
   go_wp2_with fail
   refine bodyPost_ret (v := .tuple #[.agg #[.slice Ar W.rows.length cr, .slice (some ⟨g, 0, none⟩) n cap], .agg #[.int .i64 1, .string ⟨#[]⟩, .int .i64 0]]) ?_ rfl ⟨_, cs', by rw [← HR.out]; rfl, by rw [← HR.out]; exact FIN.out.2.1, by rw [← HR.out]; exact FIN.out.2.2, FIN.out.1⟩
   simp [results, Tryd.results77, go_sem, q0, q1, p0, p1, p2]
  ·go_simp
   refine hK.out _ _ (fun h => absurd (by decide) h) ?_
   clear hK K
   refine anyB_seg [1] 1 rfl (by kernel_rfl) (by kernel_rfl) (by kernel_rfl) (fun _ _ d _ _ h => by cases d <;> exact h) ?_
   simp only [pickOps, List.getElem?_toArray, List.getElem?_cons_zero, List.getElem?_cons_succ]
   go_wp2_with fail
   refine ⟨rfl, by rfl, ?_⟩
   refine anyB_one (i := 3) (by kernel_rfl) rfl (fun K hK => ?_)
   go_simp
   refine hK.out _ _ (fun h => absurd (by decide) h) ?_
   clear hK K
   refine anyB_done (by kernel_rfl) ?_ _
   clear u0 u1 v0 v1 v2 ff fg r0 r1 k0 k1 k2
   generalize World.setCell _ _ _ = w10 at FIN q0 q1 p0 p1 p2 ⊢
   go_wp2_with fail
   refine bodyPost_ret (v := .tuple #[.agg #[.slice Ar W.rows.length cr, .slice (some ⟨g, 0, none⟩) n cap], .agg #[.int .i64 1, .string ⟨#[]⟩, .int .i64 0]]) ?_ rfl ⟨_, cs', by rw [← HR.out]; rfl, by rw [← HR.out]; exact FIN.out.2.1, by rw [← HR.out]; exact FIN.out.2.2, FIN.out.1⟩
   simp [results, Tryd.results77, go_sem, q0, q1, p0, p1, p2]
set_option maxHeartbeats 8000000 in
set_option maxRecDepth 100000 in
theorem refdid_setfull (w : World) (B : Nat) (r : Value) (g cap n : Nat) (W : Wo) (cs : List Value) (i : Nat) (key val : ByteArray) (hB : B ≤ w.heap.size) (hn : W.ses.length = n) (hr : OPL w B r W.rows) (hs : OSL w B (.slice (some ⟨g, 0, none⟩) n cap) W.ses cs) (hi : i < n) (hs0 : (W.se i).st ≠ 2) (hc : hasK (W.se i).set key = false) (hl : 6 ≤ (W.se i).set.length) :
  Calls Tryd.prog 77 #[.agg #[r, .slice (some ⟨g, 0, none⟩) n cap], .int .i64 (i : Nat), .agg #[.int .i64 9, .string key, .string val]] w (DidR w B g cap n ((W, noA tFull))) := by
 obtain ⟨Ar, cr, A1, z1, A2, z2, A3, z3, A4, z4, rfl, hse, hpre⟩ := did_pre hB hn hr hs hi
 have HP := Lib.hid (hpre ⟨9, key, val⟩)
 have g1 : (i : Int) < (n : Int) := by omega
 have g2 : (0 : Int) ≤ (i : Int) := by omega
 have HN := Lib.hid hn
 have HI := Lib.hid hi
 obtain ⟨R, hR⟩ : ∃ R, (W, noA tFull) = R := ⟨_, rfl⟩
 rw [hR]
 obtain ⟨t, ht⟩ : ∃ t, W.se i = t := ⟨_, rfl⟩
 rw [ht] at hse HP hs0 hc hl
 have HS := Lib.hid hse
 have HR := Lib.hid hR
 clear hpre hse ht hR hn hi hr hs hB
 go_enter Tryd.func77, Tryd.ntmps77
 go_upto_region 1 with fail
 generalize hw4 : (((World.alloc _ _).alloc _).alloc _).alloc _ = w4
 obtain ⟨hz4, f1, y0, y1, y2, y3, y4, hm⟩ := HP.out w4 hw4
 have HM := Lib.hid hm
 clear hw4 hm HP
 go_upto_region 3 with fail
 clear f1 y0 y1 y2 y3 y4
 generalize (World.alloc _ _).alloc _ = w6 at HM ⊢
 have e2 : (t.st == 2) = false := by simpa using hs0
 have e2' : ¬ t.st = 2 := hs0
 have s0 := HM.out.se.cell_ 0 _ rfl
 have s1 := HM.out.se.cell_ 1 _ rfl
 have r0 := HM.out.wo.cell_ 0 _ rfl
 have r1 := HM.out.wo.cell_ 1 _ rfl
 have t0 := HM.out.st.cell_ 0 _ rfl
 have t1 := HM.out.st.cell_ 1 _ rfl
 go_wp2_with fail
 refine (refat_any _ _ t.set key ((HS.out.at_ HM.out.bel).p1.pl)).mono ?_
 rintro e w7 ⟨xv, rfl, b⟩
 have HM1 := Lib.hid (HM.out.keep b)
 clear s0 s1 r0 r1 t0 t1 b HM
 rw [hc]
 have s1 := HM1.out.se.cell_ 1 _ rfl
 have r0 := HM1.out.wo.cell_ 0 _ rfl
 have r1 := HM1.out.wo.cell_ 1 _ rfl
 have g6 : (6 : Int) ≤ (t.set.length : Int) := by omega
 have g6' : ¬ (t.set.length : Int) < 6 := by omega
 go_upto_region 49 with fail
 clear r0 r1 s1 g6 g6'
 refine region_segs [2, 3] (by kernel_rfl) ?_
 have DN := Lib.hid (HM1.out.keep (Below.refl _ _).drew)
 generalize w7.drew = w8 at DN ⊢
 have r0 := DN.out.wo.cell_ 0 _ rfl
 have r1 := DN.out.wo.cell_ 1 _ rfl
 refine anyB_seg [0] 3 rfl (by kernel_rfl) (by kernel_rfl) (by kernel_rfl) (fun _ _ d _ _ h => by cases d <;> exact h) ?_
 simp only [pickOps, List.getElem?_toArray, List.getElem?_cons_zero]
 go_wp2_with fail
 refine ⟨rfl, by rfl, ?_⟩
 clear r0 r1
 refine anyB_one (i := 1) (by kernel_rfl) rfl (fun K hK => ?_)
 go_simp
 refine (refno_any _ tFull).mono ?_
 rintro e w9 ⟨rfl, b⟩
 refine hK.out _ _ (fun _ => b) ?_
 clear hK K
 have DN := Lib.hid (DN.out.keep b).toN
 clear b
 have u0 := DN.out.rw_.cell_ 0 _ rfl
 have u1 := DN.out.rw_.cell_ 1 _ rfl
 have v0 := DN.out.ra.cell_ 0 _ rfl
 have v1 := DN.out.ra.cell_ 1 _ rfl
 have v2 := DN.out.ra.cell_ 2 _ rfl
 have ff := DN.out.rw_.frozen
 have fg := DN.out.ra.frozen
 obtain ⟨E1, E2, E3, E4, E5⟩ := DN.out.toQ.ends rfl (.slice Ar W.rows.length cr) (.slice (some ⟨g, 0, none⟩) n cap) (.int .i64 4) (.string tFull) (.int .i64 0)
 have q0 := E4.cell_ 0 _ rfl
 have q1 := E4.cell_ 1 _ rfl
 have p0 := E5.cell_ 0 _ rfl
 have p1 := E5.cell_ 1 _ rfl
 have p2 := E5.cell_ 2 _ rfl
 have FIN := Lib.hid (And.intro E1 (And.intro E2 E3))
 clear E1 E2 E3 E4 E5
 refine anyB_one (i := 2) (by kernel_rfl) rfl (fun K hK => ?_)
 go_simp
 refine hK.out _ _ (fun h => absurd (by decide) h) ?_
 clear hK K
 refine anyB_one (i := 3) (by kernel_rfl) rfl (fun K hK => ?_)
 go_simp
 refine hK.out _ _ (fun h => absurd (by decide) h) ?_
 clear hK K
 refine anyB_done (by kernel_rfl) ?_ _
 clear u0 u1 v0 v1 v2 ff fg
 generalize World.setCell _ _ _ = w10 at FIN q0 q1 p0 p1 p2 ⊢
 go_wp2_with fail
 refine bodyPost_ret (v := .tuple #[.agg #[.slice Ar W.rows.length cr, .slice (some ⟨g, 0, none⟩) n cap], .agg #[.int .i64 4, .string tFull, .int .i64 0]]) ?_ rfl ⟨_, cs, by rw [← HR.out]; rfl, by rw [← HR.out]; exact FIN.out.2.1, by rw [← HR.out]; exact FIN.out.2.2, FIN.out.1⟩
 simp [results, Tryd.results77, go_sem, q0, q1, p0, p1, p2]
end Go.Proofs.YtjbnfigpflambabDoor
/- The reference's did at Prep. -/
namespace Go.Proofs.YtjbnfigpflambabDoor
open Go.ChangeShapes Go.WideShapes Go.ChangeAt Go.RowKit
set_option maxHeartbeats 8000000 in
set_option maxRecDepth 100000 in
theorem refdid_prep (w : World) (B : Nat) (r : Value) (g cap n : Nat) (W : Wo) (cs : List Value) (i : Nat) (key val : ByteArray) (hB : B ≤ w.heap.size) (hn : W.ses.length = n) (hr : OPL w B r W.rows) (hs : OSL w B (.slice (some ⟨g, 0, none⟩) n cap) W.ses cs) (hi : i < n) (hs0 : (W.se i).st ≠ 2) (hc : hasK (W.se i).pre key = false → (W.se i).pre.length < 6) (hl : (W.se i).pre.length ≤ 6) (hk : key.size ≤ maxLen) (hv : val.size ≤ maxLen) :
  Calls Tryd.prog 77 #[.agg #[r, .slice (some ⟨g, 0, none⟩) n cap], .int .i64 (i : Nat), .agg #[.int .i64 11, .string key, .string val]] w (DidR w B g cap n ((W.put i ⟨(W.se i).st, (W.se i).set, plusP (W.se i).pre key val, (W.se i).sav, (W.se i).wri⟩, okA))) := by
 obtain ⟨Ar, cr, A1, z1, A2, z2, A3, z3, A4, z4, rfl, hse, hpre⟩ := did_pre hB hn hr hs hi
 have HP := Lib.hid (hpre ⟨11, key, val⟩)
 have g1 : (i : Int) < (n : Int) := by omega
 have g2 : (0 : Int) ≤ (i : Int) := by omega
 have HN := Lib.hid hn
 have HI := Lib.hid hi
 obtain ⟨R, hR⟩ : ∃ R, (W.put i ⟨(W.se i).st, (W.se i).set, plusP (W.se i).pre key val, (W.se i).sav, (W.se i).wri⟩, okA) = R := ⟨_, rfl⟩
 rw [hR]
 obtain ⟨t, ht⟩ : ∃ t, W.se i = t := ⟨_, rfl⟩
 rw [ht] at hse HP hR hs0 hc hl
 have HF := Lib.hid (plus_fits hse.p2.fits.2 hk hv (by omega))
 clear hk hv
 have HS := Lib.hid hse
 have HR := Lib.hid hR
 clear hpre hse ht hR hn hi hr hs hB
 go_enter Tryd.func77, Tryd.ntmps77
 go_upto_region 1 with fail
 generalize hw4 : (((World.alloc _ _).alloc _).alloc _).alloc _ = w4
 obtain ⟨hz4, f1, y0, y1, y2, y3, y4, hm⟩ := HP.out w4 hw4
 have HM := Lib.hid hm
 clear hw4 hm HP
 go_upto_region 3 with fail
 clear f1 y0 y1 y2 y3 y4
 generalize (World.alloc _ _).alloc _ = w6 at HM ⊢
 have e2 : (t.st == 2) = false := by simpa using hs0
 have e2' : ¬ t.st = 2 := hs0
 have s0 := HM.out.se.cell_ 0 _ rfl
 have s2 := HM.out.se.cell_ 2 _ rfl
 have r0 := HM.out.wo.cell_ 0 _ rfl
 have r1 := HM.out.wo.cell_ 1 _ rfl
 have t0 := HM.out.st.cell_ 0 _ rfl
 have t1 := HM.out.st.cell_ 1 _ rfl
 go_wp2_with fail
 refine (refat_any _ _ t.pre key ((HS.out.at_ HM.out.bel).p2.pl)).mono ?_
 rintro e w7 ⟨xv, rfl, b⟩
 have HM1 := Lib.hid (HM.out.keep b)
 clear s0 s2 r0 r1 t0 t1 b HM
 obtain ⟨b0, hb0⟩ : ∃ b, hasK t.pre key = b := ⟨_, rfl⟩
 rw [hb0] at hc ⊢
 clear hb0
 cases b0 with
 | true =>
  clear hc
  have s2 := HM1.out.se.cell_ 2 _ rfl
  have r0 := HM1.out.wo.cell_ 0 _ rfl
  have r1 := HM1.out.wo.cell_ 1 _ rfl
  have t1 := HM1.out.st.cell_ 1 _ rfl
  have t2 := HM1.out.st.cell_ 2 _ rfl
  have fs := HM1.out.se.frozen
  go_upto_region 55 with fail
  go_wp2_with fail
  refine (refplus_any _ _ t.pre key val ((HS.out.at_ HM1.out.bel).p2.pl)).mono ?_
  rintro e w8 ⟨a, rfl, oa, b⟩
  have HM2 := Lib.hid (HM1.out.keep b)
  have OA := Lib.hid ((OPL.mk oa HF.out).base (B' := B) (Nat.le_trans HM1.out.hB HM1.out.bel.size))
  clear oa b s2 r0 r1 t1 t2 fs HM1
  obtain ⟨F, k, rfl⟩ := OA.out.form
  have s2 := HM2.out.se.cell_ 2 _ rfl
  have fs := HM2.out.se.frozen
  go_upto_region 65 with fail
  have kp : Keeps 66 w8 (w8.setCell ⟨w.heap.size + 4, 2, none⟩ (.slice F (plusP t.pre key val).length k)) := Keeps.set_ (p := ⟨w.heap.size + 4, 2, none⟩) HM2.out.se (by decide) _
  have OB := Lib.hid (OA.out.keeps kp)
  have HM3 := Lib.hid (HM2.out.setS rfl 2 (.slice F (plusP t.pre key val).length k) rfl)
  clear s2 fs HM2 OA kp
  generalize World.setCell _ _ _ = w9 at HM3 OB ⊢
  have r0 := HM3.out.wo.cell_ 0 _ rfl
  have r1 := HM3.out.wo.cell_ 1 _ rfl
  have s0 := HM3.out.se.cell_ 0 _ rfl
  have s1 := HM3.out.se.cell_ 1 _ rfl
  have s2 := HM3.out.se.cell_ 2 _ rfl
  have s3 := HM3.out.se.cell_ 3 _ rfl
  have s4 := HM3.out.se.cell_ 4 _ rfl
  obtain ⟨_, _, _, _, _, c0, c1, c2, c3, c4, fr⟩ := HM3.out.cells5 HN.out HI.out
  have fr0 := fr (i * 5)
  have ST := Lib.hid (HS.out.at_ HM3.out.bel)
  go_upto_region 66 with fail
  obtain ⟨cs', dn⟩ := HM3.out.put5 rfl HN.out (i := i) (by rw [HN.out]; exact HI.out) (s' := ⟨t.st, t.set, plusP t.pre key val, t.sav, t.wri⟩) ST.out.p1 OB.out ST.out.p3 ST.out.p4 ST.out.i64
  clear r0 r1 s0 s1 s2 s3 s4 c0 c1 c2 c3 c4 fr fr0 ST
  have DN := Lib.hid dn
  clear dn
  generalize World.setCell _ _ _ = w9 at DN ⊢
  refine region_segs [2, 3] (by kernel_rfl) ?_
  have DN := Lib.hid (DN.out.keep (Below.refl _ _).drew)
  generalize w9.drew = w9 at DN ⊢
  have r0 := DN.out.wo.cell_ 0 _ rfl
  have r1 := DN.out.wo.cell_ 1 _ rfl
  have k0 := DN.out.ok.cell_ 0 _ rfl
  have k1 := DN.out.ok.cell_ 1 _ rfl
  have k2 := DN.out.ok.cell_ 2 _ rfl
  have u0 := DN.out.rw_.cell_ 0 _ rfl
  have u1 := DN.out.rw_.cell_ 1 _ rfl
  have v0 := DN.out.ra.cell_ 0 _ rfl
  have v1 := DN.out.ra.cell_ 1 _ rfl
  have v2 := DN.out.ra.cell_ 2 _ rfl
  have ff := DN.out.rw_.frozen
  have fg := DN.out.ra.frozen
  refine anyB_seg [0] 3 rfl (by kernel_rfl) (by kernel_rfl) (by kernel_rfl) (fun _ _ d _ _ h => by cases d <;> exact h) ?_
  simp only [pickOps, List.getElem?_toArray, List.getElem?_cons_zero]
  go_wp2_with fail
  refine ⟨rfl, by rfl, ?_⟩
  obtain ⟨E1, E2, E3, E4, E5⟩ := DN.out.toQ.ends rfl (.slice Ar W.rows.length cr) (.slice (some ⟨g, 0, none⟩) n cap) (.int .i64 1) (.string ⟨#[]⟩) (.int .i64 0)
  have q0 := E4.cell_ 0 _ rfl
  have q1 := E4.cell_ 1 _ rfl
  have p0 := E5.cell_ 0 _ rfl
  have p1 := E5.cell_ 1 _ rfl
  have p2 := E5.cell_ 2 _ rfl
  have FIN := Lib.hid (And.intro E1 (And.intro E2 E3))
  clear E1 E2 E3 E4 E5
  refine anyB_two (i := 1) (j := 2) (by kernel_rfl) rfl rfl (fun K hK => ?_) (fun K hK => ?_)
  ·go_simp
   refine hK.out _ _ (fun _ => (Below.refl _ _)) ?_
   clear hK K
   refine anyB_one (i := 2) (by kernel_rfl) rfl (fun K hK => ?_)
   go_simp
   refine hK.out _ _ (fun h => absurd (by decide) h) ?_
   clear hK K
   refine anyB_one (i := 3) (by kernel_rfl) rfl (fun K hK => ?_)
   go_simp
   refine hK.out _ _ (fun h => absurd (by decide) h) ?_
   clear hK K
   refine anyB_done (by kernel_rfl) ?_ _
   clear u0 u1 v0 v1 v2 ff fg r0 r1 k0 k1 k2
   generalize World.setCell _ _ _ = w10 at FIN q0 q1 p0 p1 p2 ⊢
   go_wp2_with fail
   refine bodyPost_ret (v := .tuple #[.agg #[.slice Ar W.rows.length cr, .slice (some ⟨g, 0, none⟩) n cap], .agg #[.int .i64 1, .string ⟨#[]⟩, .int .i64 0]]) ?_ rfl ⟨_, cs', by rw [← HR.out]; rfl, by rw [← HR.out]; exact FIN.out.2.1, by rw [← HR.out]; exact FIN.out.2.2, FIN.out.1⟩
   simp [results, Tryd.results77, go_sem, q0, q1, p0, p1, p2]
  ·go_simp
   refine hK.out _ _ (fun h => absurd (by decide) h) ?_
   clear hK K
   refine anyB_seg [1] 1 rfl (by kernel_rfl) (by kernel_rfl) (by kernel_rfl) (fun _ _ d _ _ h => by cases d <;> exact h) ?_
   simp only [pickOps, List.getElem?_toArray, List.getElem?_cons_zero, List.getElem?_cons_succ]
   go_wp2_with fail
   refine ⟨rfl, by rfl, ?_⟩
   refine anyB_one (i := 3) (by kernel_rfl) rfl (fun K hK => ?_)
   go_simp
   refine hK.out _ _ (fun h => absurd (by decide) h) ?_
   clear hK K
   refine anyB_done (by kernel_rfl) ?_ _
   clear u0 u1 v0 v1 v2 ff fg r0 r1 k0 k1 k2
   generalize World.setCell _ _ _ = w10 at FIN q0 q1 p0 p1 p2 ⊢
   go_wp2_with fail
   refine bodyPost_ret (v := .tuple #[.agg #[.slice Ar W.rows.length cr, .slice (some ⟨g, 0, none⟩) n cap], .agg #[.int .i64 1, .string ⟨#[]⟩, .int .i64 0]]) ?_ rfl ⟨_, cs', by rw [← HR.out]; rfl, by rw [← HR.out]; exact FIN.out.2.1, by rw [← HR.out]; exact FIN.out.2.2, FIN.out.1⟩
   simp [results, Tryd.results77, go_sem, q0, q1, p0, p1, p2]
 | false =>
  have g6 : ¬ (6 : Int) ≤ (t.pre.length : Int) := by have := hc rfl; omega
  have g6' : (t.pre.length : Int) < 6 := by have := hc rfl; omega
  clear hc
  have s2 := HM1.out.se.cell_ 2 _ rfl
  have r0 := HM1.out.wo.cell_ 0 _ rfl
  have r1 := HM1.out.wo.cell_ 1 _ rfl
  have t1 := HM1.out.st.cell_ 1 _ rfl
  have t2 := HM1.out.st.cell_ 2 _ rfl
  have fs := HM1.out.se.frozen
  go_upto_region 55 with fail
  go_wp2_with fail
  refine (refplus_any _ _ t.pre key val ((HS.out.at_ HM1.out.bel).p2.pl)).mono ?_
  rintro e w8 ⟨a, rfl, oa, b⟩
  have HM2 := Lib.hid (HM1.out.keep b)
  have OA := Lib.hid ((OPL.mk oa HF.out).base (B' := B) (Nat.le_trans HM1.out.hB HM1.out.bel.size))
  clear oa b s2 r0 r1 t1 t2 fs HM1
  obtain ⟨F, k, rfl⟩ := OA.out.form
  have s2 := HM2.out.se.cell_ 2 _ rfl
  have fs := HM2.out.se.frozen
  go_upto_region 65 with fail
  have kp : Keeps 66 w8 (w8.setCell ⟨w.heap.size + 4, 2, none⟩ (.slice F (plusP t.pre key val).length k)) := Keeps.set_ (p := ⟨w.heap.size + 4, 2, none⟩) HM2.out.se (by decide) _
  have OB := Lib.hid (OA.out.keeps kp)
  have HM3 := Lib.hid (HM2.out.setS rfl 2 (.slice F (plusP t.pre key val).length k) rfl)
  clear s2 fs HM2 OA kp
  generalize World.setCell _ _ _ = w9 at HM3 OB ⊢
  have r0 := HM3.out.wo.cell_ 0 _ rfl
  have r1 := HM3.out.wo.cell_ 1 _ rfl
  have s0 := HM3.out.se.cell_ 0 _ rfl
  have s1 := HM3.out.se.cell_ 1 _ rfl
  have s2 := HM3.out.se.cell_ 2 _ rfl
  have s3 := HM3.out.se.cell_ 3 _ rfl
  have s4 := HM3.out.se.cell_ 4 _ rfl
  obtain ⟨_, _, _, _, _, c0, c1, c2, c3, c4, fr⟩ := HM3.out.cells5 HN.out HI.out
  have fr0 := fr (i * 5)
  have ST := Lib.hid (HS.out.at_ HM3.out.bel)
  go_upto_region 66 with fail
  obtain ⟨cs', dn⟩ := HM3.out.put5 rfl HN.out (i := i) (by rw [HN.out]; exact HI.out) (s' := ⟨t.st, t.set, plusP t.pre key val, t.sav, t.wri⟩) ST.out.p1 OB.out ST.out.p3 ST.out.p4 ST.out.i64
  clear r0 r1 s0 s1 s2 s3 s4 c0 c1 c2 c3 c4 fr fr0 ST
  have DN := Lib.hid dn
  clear dn
  generalize World.setCell _ _ _ = w9 at DN ⊢
  refine region_segs [2, 3] (by kernel_rfl) ?_
  have DN := Lib.hid (DN.out.keep (Below.refl _ _).drew)
  generalize w9.drew = w9 at DN ⊢
  have r0 := DN.out.wo.cell_ 0 _ rfl
  have r1 := DN.out.wo.cell_ 1 _ rfl
  have k0 := DN.out.ok.cell_ 0 _ rfl
  have k1 := DN.out.ok.cell_ 1 _ rfl
  have k2 := DN.out.ok.cell_ 2 _ rfl
  have u0 := DN.out.rw_.cell_ 0 _ rfl
  have u1 := DN.out.rw_.cell_ 1 _ rfl
  have v0 := DN.out.ra.cell_ 0 _ rfl
  have v1 := DN.out.ra.cell_ 1 _ rfl
  have v2 := DN.out.ra.cell_ 2 _ rfl
  have ff := DN.out.rw_.frozen
  have fg := DN.out.ra.frozen
  refine anyB_seg [0] 3 rfl (by kernel_rfl) (by kernel_rfl) (by kernel_rfl) (fun _ _ d _ _ h => by cases d <;> exact h) ?_
  simp only [pickOps, List.getElem?_toArray, List.getElem?_cons_zero]
  go_wp2_with fail
  refine ⟨rfl, by rfl, ?_⟩
  obtain ⟨E1, E2, E3, E4, E5⟩ := DN.out.toQ.ends rfl (.slice Ar W.rows.length cr) (.slice (some ⟨g, 0, none⟩) n cap) (.int .i64 1) (.string ⟨#[]⟩) (.int .i64 0)
  have q0 := E4.cell_ 0 _ rfl
  have q1 := E4.cell_ 1 _ rfl
  have p0 := E5.cell_ 0 _ rfl
  have p1 := E5.cell_ 1 _ rfl
  have p2 := E5.cell_ 2 _ rfl
  have FIN := Lib.hid (And.intro E1 (And.intro E2 E3))
  clear E1 E2 E3 E4 E5
  refine anyB_two (i := 1) (j := 2) (by kernel_rfl) rfl rfl (fun K hK => ?_) (fun K hK => ?_)
  ·go_simp
   refine hK.out _ _ (fun _ => (Below.refl _ _)) ?_
   clear hK K
   refine anyB_one (i := 2) (by kernel_rfl) rfl (fun K hK => ?_)
   go_simp
   refine hK.out _ _ (fun h => absurd (by decide) h) ?_
   clear hK K
   refine anyB_one (i := 3) (by kernel_rfl) rfl (fun K hK => ?_)
   go_simp
   refine hK.out _ _ (fun h => absurd (by decide) h) ?_
   clear hK K
   refine anyB_done (by kernel_rfl) ?_ _
   clear u0 u1 v0 v1 v2 ff fg r0 r1 k0 k1 k2
   generalize World.setCell _ _ _ = w10 at FIN q0 q1 p0 p1 p2 ⊢
   go_wp2_with fail
   refine bodyPost_ret (v := .tuple #[.agg #[.slice Ar W.rows.length cr, .slice (some ⟨g, 0, none⟩) n cap], .agg #[.int .i64 1, .string ⟨#[]⟩, .int .i64 0]]) ?_ rfl ⟨_, cs', by rw [← HR.out]; rfl, by rw [← HR.out]; exact FIN.out.2.1, by rw [← HR.out]; exact FIN.out.2.2, FIN.out.1⟩
   simp [results, Tryd.results77, go_sem, q0, q1, p0, p1, p2]
  ·go_simp
   refine hK.out _ _ (fun h => absurd (by decide) h) ?_
   clear hK K
   refine anyB_seg [1] 1 rfl (by kernel_rfl) (by kernel_rfl) (by kernel_rfl) (fun _ _ d _ _ h => by cases d <;> exact h) ?_
   simp only [pickOps, List.getElem?_toArray, List.getElem?_cons_zero, List.getElem?_cons_succ]
   go_wp2_with fail
   refine ⟨rfl, by rfl, ?_⟩
   refine anyB_one (i := 3) (by kernel_rfl) rfl (fun K hK => ?_)
   go_simp
   refine hK.out _ _ (fun h => absurd (by decide) h) ?_
   clear hK K
   refine anyB_done (by kernel_rfl) ?_ _
   clear u0 u1 v0 v1 v2 ff fg r0 r1 k0 k1 k2
   generalize World.setCell _ _ _ = w10 at FIN q0 q1 p0 p1 p2 ⊢
   go_wp2_with fail
   refine bodyPost_ret (v := .tuple #[.agg #[.slice Ar W.rows.length cr, .slice (some ⟨g, 0, none⟩) n cap], .agg #[.int .i64 1, .string ⟨#[]⟩, .int .i64 0]]) ?_ rfl ⟨_, cs', by rw [← HR.out]; rfl, by rw [← HR.out]; exact FIN.out.2.1, by rw [← HR.out]; exact FIN.out.2.2, FIN.out.1⟩
   simp [results, Tryd.results77, go_sem, q0, q1, p0, p1, p2]
set_option maxHeartbeats 8000000 in
set_option maxRecDepth 100000 in
theorem refdid_prepfull (w : World) (B : Nat) (r : Value) (g cap n : Nat) (W : Wo) (cs : List Value) (i : Nat) (key val : ByteArray) (hB : B ≤ w.heap.size) (hn : W.ses.length = n) (hr : OPL w B r W.rows) (hs : OSL w B (.slice (some ⟨g, 0, none⟩) n cap) W.ses cs) (hi : i < n) (hs0 : (W.se i).st ≠ 2) (hc : hasK (W.se i).pre key = false) (hl : 6 ≤ (W.se i).pre.length) :
  Calls Tryd.prog 77 #[.agg #[r, .slice (some ⟨g, 0, none⟩) n cap], .int .i64 (i : Nat), .agg #[.int .i64 11, .string key, .string val]] w (DidR w B g cap n ((W, noA tFull))) := by
 obtain ⟨Ar, cr, A1, z1, A2, z2, A3, z3, A4, z4, rfl, hse, hpre⟩ := did_pre hB hn hr hs hi
 have HP := Lib.hid (hpre ⟨11, key, val⟩)
 have g1 : (i : Int) < (n : Int) := by omega
 have g2 : (0 : Int) ≤ (i : Int) := by omega
 have HN := Lib.hid hn
 have HI := Lib.hid hi
 obtain ⟨R, hR⟩ : ∃ R, (W, noA tFull) = R := ⟨_, rfl⟩
 rw [hR]
 obtain ⟨t, ht⟩ : ∃ t, W.se i = t := ⟨_, rfl⟩
 rw [ht] at hse HP hs0 hc hl
 have HS := Lib.hid hse
 have HR := Lib.hid hR
 clear hpre hse ht hR hn hi hr hs hB
 go_enter Tryd.func77, Tryd.ntmps77
 go_upto_region 1 with fail
 generalize hw4 : (((World.alloc _ _).alloc _).alloc _).alloc _ = w4
 obtain ⟨hz4, f1, y0, y1, y2, y3, y4, hm⟩ := HP.out w4 hw4
 have HM := Lib.hid hm
 clear hw4 hm HP
 go_upto_region 3 with fail
 clear f1 y0 y1 y2 y3 y4
 generalize (World.alloc _ _).alloc _ = w6 at HM ⊢
 have e2 : (t.st == 2) = false := by simpa using hs0
 have e2' : ¬ t.st = 2 := hs0
 have s0 := HM.out.se.cell_ 0 _ rfl
 have s2 := HM.out.se.cell_ 2 _ rfl
 have r0 := HM.out.wo.cell_ 0 _ rfl
 have r1 := HM.out.wo.cell_ 1 _ rfl
 have t0 := HM.out.st.cell_ 0 _ rfl
 have t1 := HM.out.st.cell_ 1 _ rfl
 go_wp2_with fail
 refine (refat_any _ _ t.pre key ((HS.out.at_ HM.out.bel).p2.pl)).mono ?_
 rintro e w7 ⟨xv, rfl, b⟩
 have HM1 := Lib.hid (HM.out.keep b)
 clear s0 s2 r0 r1 t0 t1 b HM
 rw [hc]
 have s2 := HM1.out.se.cell_ 2 _ rfl
 have r0 := HM1.out.wo.cell_ 0 _ rfl
 have r1 := HM1.out.wo.cell_ 1 _ rfl
 have g6 : (6 : Int) ≤ (t.pre.length : Int) := by omega
 have g6' : ¬ (t.pre.length : Int) < 6 := by omega
 go_upto_region 54 with fail
 clear r0 r1 s2 g6 g6'
 refine region_segs [2, 3] (by kernel_rfl) ?_
 have DN := Lib.hid (HM1.out.keep (Below.refl _ _).drew)
 generalize w7.drew = w8 at DN ⊢
 have r0 := DN.out.wo.cell_ 0 _ rfl
 have r1 := DN.out.wo.cell_ 1 _ rfl
 refine anyB_seg [0] 3 rfl (by kernel_rfl) (by kernel_rfl) (by kernel_rfl) (fun _ _ d _ _ h => by cases d <;> exact h) ?_
 simp only [pickOps, List.getElem?_toArray, List.getElem?_cons_zero]
 go_wp2_with fail
 refine ⟨rfl, by rfl, ?_⟩
 clear r0 r1
 refine anyB_one (i := 1) (by kernel_rfl) rfl (fun K hK => ?_)
 go_simp
 refine (refno_any _ tFull).mono ?_
 rintro e w9 ⟨rfl, b⟩
 refine hK.out _ _ (fun _ => b) ?_
 clear hK K
 have DN := Lib.hid (DN.out.keep b).toN
 clear b
 have u0 := DN.out.rw_.cell_ 0 _ rfl
 have u1 := DN.out.rw_.cell_ 1 _ rfl
 have v0 := DN.out.ra.cell_ 0 _ rfl
 have v1 := DN.out.ra.cell_ 1 _ rfl
 have v2 := DN.out.ra.cell_ 2 _ rfl
 have ff := DN.out.rw_.frozen
 have fg := DN.out.ra.frozen
 obtain ⟨E1, E2, E3, E4, E5⟩ := DN.out.toQ.ends rfl (.slice Ar W.rows.length cr) (.slice (some ⟨g, 0, none⟩) n cap) (.int .i64 4) (.string tFull) (.int .i64 0)
 have q0 := E4.cell_ 0 _ rfl
 have q1 := E4.cell_ 1 _ rfl
 have p0 := E5.cell_ 0 _ rfl
 have p1 := E5.cell_ 1 _ rfl
 have p2 := E5.cell_ 2 _ rfl
 have FIN := Lib.hid (And.intro E1 (And.intro E2 E3))
 clear E1 E2 E3 E4 E5
 refine anyB_one (i := 2) (by kernel_rfl) rfl (fun K hK => ?_)
 go_simp
 refine hK.out _ _ (fun h => absurd (by decide) h) ?_
 clear hK K
 refine anyB_one (i := 3) (by kernel_rfl) rfl (fun K hK => ?_)
 go_simp
 refine hK.out _ _ (fun h => absurd (by decide) h) ?_
 clear hK K
 refine anyB_done (by kernel_rfl) ?_ _
 clear u0 u1 v0 v1 v2 ff fg
 generalize World.setCell _ _ _ = w10 at FIN q0 q1 p0 p1 p2 ⊢
 go_wp2_with fail
 refine bodyPost_ret (v := .tuple #[.agg #[.slice Ar W.rows.length cr, .slice (some ⟨g, 0, none⟩) n cap], .agg #[.int .i64 4, .string tFull, .int .i64 0]]) ?_ rfl ⟨_, cs, by rw [← HR.out]; rfl, by rw [← HR.out]; exact FIN.out.2.1, by rw [← HR.out]; exact FIN.out.2.2, FIN.out.1⟩
 simp [results, Tryd.results77, go_sem, q0, q1, p0, p1, p2]
end Go.Proofs.YtjbnfigpflambabDoor
