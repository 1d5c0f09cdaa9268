/- The reference's did at Put, in no transaction. The reference's did, for every statement that is no Exec. The reference's upTo and wordOf: what each returns. The reference's StmtFault: what it returns, given what StmtOf returns for its value. -/
import Derived.Test.YtjbnfigpflambabDoorJ07
import Derived.Test.YtjbnfigpflambabDoorJ09
import Derived.Test.YtjbnfigpflambabDoorJ14
import Derived.Test.YtjbnfigpflambabDoorJ15
import Derived.Test.YtjbnfigpflambabDoorJ16
import Derived.Test.YtjbnfigpflambabDoorJ17
import Derived.Test.YtjbnfigpflambabDoorJ18
import Derived.Test.YtjbnfigpflambabDoorJ19
/- The reference's did at Put, in no transaction. -/
namespace Go.Proofs.YtjbnfigpflambabDoor
open Go.ChangeShapes Go.WideShapes Go.ChangeAt Go.RowKit
set_option maxHeartbeats 8000000 in
set_option maxRecDepth 100000 in
theorem refdid_putrows (w : World) (B : Nat) (r : Value) (g cap n : Nat) (W : Wo) (cs : List Value) (i : Nat) (key val : ByteArray) (hB : B ≤ w.heap.size) (hn : W.ses.length = n) (hr : OPL w B r W.rows) (hs : OSL w B (.slice (some ⟨g, 0, none⟩) n cap) W.ses cs) (hi : i < n) (hs0 : (W.se i).st = 0) (hh : heldB W.ses i key = false) (hc : hasK (allR W) key = false → (allR W).length < 100) (hk : key.size ≤ maxLen) (hv : val.size ≤ maxLen) (hG : Good W) :
  Calls Tryd.prog 77 #[.agg #[r, .slice (some ⟨g, 0, none⟩) n cap], .int .i64 (i : Nat), .agg #[.int .i64 10, .string key, .string val]] w (DidR w B g cap n (((⟨plusP W.rows key val, W.ses.set i ⟨0, (W.se i).set, (W.se i).pre, (W.se i).sav, (W.se i).wri⟩⟩, okA) : Wo × An))) := by
 obtain ⟨Ar, cr, A1, z1, A2, z2, A3, z3, A4, z4, rfl, hse, hpre⟩ := did_pre hB hn hr hs hi
 have HP := Lib.hid (hpre ⟨10, key, val⟩)
 have g1 : (i : Int) < (n : Int) := by omega
 have g2 : (0 : Int) ≤ (i : Int) := by omega
 have HN := Lib.hid hn
 have HI := Lib.hid hi
 obtain ⟨R, hR⟩ : ∃ R, ((⟨plusP W.rows key val, W.ses.set i ⟨0, (W.se i).set, (W.se i).pre, (W.se i).sav, (W.se i).wri⟩⟩, okA) : Wo × An) = R := ⟨_, rfl⟩
 rw [hR]
 obtain ⟨t, ht⟩ : ∃ t, W.se i = t := ⟨_, rfl⟩
 rw [ht] at hse HP hR hs0
 have hf8 := hG.few
 have HRA := Lib.hid (fun (u : World) (rr ss : Value) (h : WL u u.heap.size rr ss W) => refrows_any u rr ss W h hf8 hG.rows100 hG.wri100)
 have H8 := Lib.hid (show W.ses.length ≤ 1000 by omega)
 have hi1 : i ≤ 1000 := by omega
 have HH := Lib.hid hh
 have HF := Lib.hid (plus_fits hr.fits.2 hk hv (by have := hG.rows100; omega))
 clear hk hv
 clear hG hf8 hh
 have HS := Lib.hid hse
 have HR := Lib.hid hR
 clear hpre hse ht hR hn hi hr hs hB
 go_enter Tryd.func77, Tryd.ntmps77
 go_upto_region 1 with fail
 generalize hw4 : (((World.alloc _ _).alloc _).alloc _).alloc _ = w4
 obtain ⟨hz4, f1, y0, y1, y2, y3, y4, hm⟩ := HP.out w4 hw4
 rw [hs0] at y0 hm
 have HM := Lib.hid hm
 clear hw4 hm HP
 go_upto_region 3 with fail
 clear f1 y0 y1 y2 y3 y4
 generalize (World.alloc _ _).alloc _ = w6 at HM ⊢
 have s0 := HM.out.se.cell_ 0 _ rfl
 have r0 := HM.out.wo.cell_ 0 _ rfl
 have r1 := HM.out.wo.cell_ 1 _ rfl
 have t0 := HM.out.st.cell_ 0 _ rfl
 have t1 := HM.out.st.cell_ 1 _ rfl
 go_wp2_with fail
 refine (refheld_any w6 Ar _ cr _ W.ses i key (HM.out.wl H8.out).ses hi1).mono ?_
 rintro e w7 ⟨rfl, b⟩
 rw [HH.out]
 have HM1 := Lib.hid (HM.out.keep b)
 clear s0 r0 r1 t0 t1 b HM
 have r0 := HM1.out.wo.cell_ 0 _ rfl
 have r1 := HM1.out.wo.cell_ 1 _ rfl
 have t1 := HM1.out.st.cell_ 1 _ rfl
 go_upto_region 59 with fail
 clear r0 r1 t1
 refine region_segs [] (by kernel_rfl) ?_
 have HM2 := Lib.hid (HM1.out.keep (Below.refl _ _).drew)
 generalize w7.drew = w8 at HM2 ⊢
 have r0 := HM2.out.wo.cell_ 0 _ rfl
 have r1 := HM2.out.wo.cell_ 1 _ rfl
 have t1 := HM2.out.st.cell_ 1 _ rfl
 refine anyB_seg [0, 2, 3] 7 rfl (by kernel_rfl) (by kernel_rfl) (by kernel_rfl) (fun _ _ d _ _ h => by cases d <;> exact h) ?_
 simp only [pickOps, List.getElem?_toArray, List.getElem?_cons_zero, List.getElem?_cons_succ]
 go_wp2_with fail
 refine ⟨rfl, by rfl, ?_⟩
 clear r0 r1 t1
 refine anyB_one (i := 1) (by kernel_rfl) rfl (fun K hK => ?_)
 go_simp
 refine (HRA.out w8 _ _ (HM2.out.wl H8.out)).mono ?_
 rintro e w9 ⟨va, rfl, oa, b⟩
 refine hK.out _ _ (fun _ => b) ?_
 clear hK K
 have HM3 := Lib.hid (HM2.out.keep b)
 have OA := Lib.hid oa.pl
 clear b oa HM1 HM2
 refine anyB_one (i := 4) (by kernel_rfl) rfl (fun K hK => ?_)
 go_simp
 refine (refat_any w9 _ (allR W) key OA.out).mono ?_
 rintro e w10 ⟨xv, rfl, b⟩
 refine hK.out _ _ (fun _ => b) ?_
 clear hK K
 have HM4 := Lib.hid (HM3.out.keep b)
 clear b OA HM3
 refine anyB_seg [5, 6, 7, 8, 9] 0 rfl (by kernel_rfl) (by kernel_rfl) (by kernel_rfl) (fun _ _ d _ _ h => by cases d <;> exact h) ?_
 simp only [pickOps, List.getElem?_toArray, List.getElem?_cons_zero, List.getElem?_cons_succ]
 go_wp2_with fail
 refine ⟨rfl, by rfl, ?_⟩
 refine anyB_done (by kernel_rfl) ?_ _
 obtain ⟨b0, hb0⟩ : ∃ b, hasK (allR W) key = b := ⟨_, rfl⟩
 rw [hb0] at hc ⊢
 clear hb0
 cases b0 with
 | true =>
  clear hc
  have HMX := HM4
  clear HM4
  have s0 := HMX.out.se.cell_ 0 _ rfl
  have r0 := HMX.out.wo.cell_ 0 _ rfl
  have t1 := HMX.out.st.cell_ 1 _ rfl
  have t2 := HMX.out.st.cell_ 2 _ rfl
  go_wp2_with fail
  refine (refplus_any _ _ W.rows key val HMX.out.rows.pl).mono ?_
  rintro e w12 ⟨a, rfl, oa, b⟩
  have HM6 := Lib.hid (HMX.out.keep b)
  have OA := Lib.hid ((OPL.mk oa HF.out).base (B' := B) (Nat.le_trans HMX.out.hB HMX.out.bel.size))
  clear oa b s0 r0 t1 t2 HMX
  obtain ⟨F, k, rfl⟩ := OA.out.form
  have r0 := HM6.out.wo.cell_ 0 _ rfl
  have fs := HM6.out.wo.frozen
  go_upto_region 65 with fail
  have HM7 := Lib.hid (HM6.out.setR rfl OA.out)
  clear r0 fs HM6 OA
  generalize World.setCell _ _ _ = w13 at HM7 ⊢
  have r0 := HM7.out.wo.cell_ 0 _ rfl
  have r1 := HM7.out.wo.cell_ 1 _ rfl
  have s0 := HM7.out.se.cell_ 0 _ rfl
  have s1 := HM7.out.se.cell_ 1 _ rfl
  have s2 := HM7.out.se.cell_ 2 _ rfl
  have s3 := HM7.out.se.cell_ 3 _ rfl
  have s4 := HM7.out.se.cell_ 4 _ rfl
  obtain ⟨_, _, _, _, _, c0, c1, c2, c3, c4, fr⟩ := HM7.out.cells5 HN.out HI.out
  have fr0 := fr (i * 5)
  have ST := Lib.hid (HS.out.at_ HM7.out.bel)
  go_upto_region 66 with fail
  obtain ⟨cs', dn⟩ := HM7.out.put5 rfl HN.out (i := i) (by rw [HN.out]; exact HI.out) (s' := ⟨0, t.set, t.pre, t.sav, t.wri⟩) ST.out.p1 ST.out.p2 ST.out.p3 ST.out.p4 ⟨by simp, by simp⟩
  clear r0 r1 s0 s1 s2 s3 s4 c0 c1 c2 c3 c4 fr fr0 ST
  have DN := Lib.hid dn
  clear dn
  generalize World.setCell _ _ _ = w9 at DN ⊢
  refine region_segs [2, 3] (by kernel_rfl) ?_
  have DN := Lib.hid (DN.out.keep (Below.refl _ _).drew)
  generalize w9.drew = w9 at DN ⊢
  have r0 := DN.out.wo.cell_ 0 _ rfl
  have r1 := DN.out.wo.cell_ 1 _ rfl
  have k0 := DN.out.ok.cell_ 0 _ rfl
  have k1 := DN.out.ok.cell_ 1 _ rfl
  have k2 := DN.out.ok.cell_ 2 _ rfl
  have u0 := DN.out.rw_.cell_ 0 _ rfl
  have u1 := DN.out.rw_.cell_ 1 _ rfl
  have v0 := DN.out.ra.cell_ 0 _ rfl
  have v1 := DN.out.ra.cell_ 1 _ rfl
  have v2 := DN.out.ra.cell_ 2 _ rfl
  have ff := DN.out.rw_.frozen
  have fg := DN.out.ra.frozen
  refine anyB_seg [0] 3 rfl (by kernel_rfl) (by kernel_rfl) (by kernel_rfl) (fun _ _ d _ _ h => by cases d <;> exact h) ?_
  simp only [pickOps, List.getElem?_toArray, List.getElem?_cons_zero]
  go_wp2_with fail
  refine ⟨rfl, by rfl, ?_⟩
  obtain ⟨E1, E2, E3, E4, E5⟩ := DN.out.toQ.ends rfl (.slice F (plusP W.rows key val).length k) (.slice (some ⟨g, 0, none⟩) n cap) (.int .i64 1) (.string ⟨#[]⟩) (.int .i64 0)
  have q0 := E4.cell_ 0 _ rfl
  have q1 := E4.cell_ 1 _ rfl
  have p0 := E5.cell_ 0 _ rfl
  have p1 := E5.cell_ 1 _ rfl
  have p2 := E5.cell_ 2 _ rfl
  have FIN := Lib.hid (And.intro E1 (And.intro E2 E3))
  clear E1 E2 E3 E4 E5
  refine anyB_two (i := 1) (j := 2) (by kernel_rfl) rfl rfl (fun K hK => ?_) (fun K hK => ?_)
  ·go_simp
   refine hK.out _ _ (fun _ => (Below.refl _ _)) ?_
   clear hK K
   refine anyB_one (i := 2) (by kernel_rfl) rfl (fun K hK => ?_)
   go_simp
   refine hK.out _ _ (fun h => absurd (by decide) h) ?_
   clear hK K
   refine anyB_one (i := 3) (by kernel_rfl) rfl (fun K hK => ?_)
   go_simp
   refine hK.out _ _ (fun h => absurd (by decide) h) ?_
   clear hK K
   refine anyB_done (by kernel_rfl) ?_ _
   clear u0 u1 v0 v1 v2 ff fg r0 r1 k0 k1 k2
   generalize World.setCell _ _ _ = w10 at FIN q0 q1 p0 p1 p2 ⊢
   go_wp2_with fail
   refine bodyPost_ret (v := .tuple #[.agg #[.slice F (plusP W.rows key val).length k, .slice (some ⟨g, 0, none⟩) n cap], .agg #[.int .i64 1, .string ⟨#[]⟩, .int .i64 0]]) ?_ rfl ⟨_, cs', by rw [← HR.out]; rfl, by rw [← HR.out]; exact FIN.out.2.1, by rw [← HR.out]; exact FIN.out.2.2, FIN.out.1⟩
   simp [results, Tryd.results77, go_sem, q0, q1, p0, p1, p2]
  ·go_simp
   refine hK.out _ _ (fun h => absurd (by decide) h) ?_
   clear hK K
   refine anyB_seg [1] 1 rfl (by kernel_rfl) (by kernel_rfl) (by kernel_rfl) (fun _ _ d _ _ h => by cases d <;> exact h) ?_
   simp only [pickOps, List.getElem?_toArray, List.getElem?_cons_zero, List.getElem?_cons_succ]
   go_wp2_with fail
   refine ⟨rfl, by rfl, ?_⟩
   refine anyB_one (i := 3) (by kernel_rfl) rfl (fun K hK => ?_)
   go_simp
   refine hK.out _ _ (fun h => absurd (by decide) h) ?_
   clear hK K
   refine anyB_done (by kernel_rfl) ?_ _
   clear u0 u1 v0 v1 v2 ff fg r0 r1 k0 k1 k2
   generalize World.setCell _ _ _ = w10 at FIN q0 q1 p0 p1 p2 ⊢
   go_wp2_with fail
   refine bodyPost_ret (v := .tuple #[.agg #[.slice F (plusP W.rows key val).length k, .slice (some ⟨g, 0, none⟩) n cap], .agg #[.int .i64 1, .string ⟨#[]⟩, .int .i64 0]]) ?_ rfl ⟨_, cs', by rw [← HR.out]; rfl, by rw [← HR.out]; exact FIN.out.2.1, by rw [← HR.out]; exact FIN.out.2.2, FIN.out.1⟩
   simp [results, Tryd.results77, go_sem, q0, q1, p0, p1, p2]
 | false =>
  have g6 : ¬ (100 : Int) ≤ ((allR W).length : Int) := by have := hc rfl; omega
  have g6' : ((allR W).length : Int) < 100 := by have := hc rfl; omega
  clear hc
  have r0 := HM4.out.wo.cell_ 0 _ rfl
  have r1 := HM4.out.wo.cell_ 1 _ rfl
  go_wp2_with fail
  refine (HRA.out w10 _ _ (HM4.out.wl H8.out)).mono ?_
  rintro e w11 ⟨va2, rfl, oa, b⟩
  have HM5 := Lib.hid (HM4.out.keep b)
  obtain ⟨Fa, ka, rfl⟩ := oa.form
  clear b oa r0 r1 HM4
  have HMX := HM5
  clear HM5
  have s0 := HMX.out.se.cell_ 0 _ rfl
  have r0 := HMX.out.wo.cell_ 0 _ rfl
  have t1 := HMX.out.st.cell_ 1 _ rfl
  have t2 := HMX.out.st.cell_ 2 _ rfl
  go_wp2_with fail
  refine (refplus_any _ _ W.rows key val HMX.out.rows.pl).mono ?_
  rintro e w12 ⟨a, rfl, oa, b⟩
  have HM6 := Lib.hid (HMX.out.keep b)
  have OA := Lib.hid ((OPL.mk oa HF.out).base (B' := B) (Nat.le_trans HMX.out.hB HMX.out.bel.size))
  clear oa b s0 r0 t1 t2 HMX
  obtain ⟨F, k, rfl⟩ := OA.out.form
  have r0 := HM6.out.wo.cell_ 0 _ rfl
  have fs := HM6.out.wo.frozen
  go_upto_region 65 with fail
  have HM7 := Lib.hid (HM6.out.setR rfl OA.out)
  clear r0 fs HM6 OA
  generalize World.setCell _ _ _ = w13 at HM7 ⊢
  have r0 := HM7.out.wo.cell_ 0 _ rfl
  have r1 := HM7.out.wo.cell_ 1 _ rfl
  have s0 := HM7.out.se.cell_ 0 _ rfl
  have s1 := HM7.out.se.cell_ 1 _ rfl
  have s2 := HM7.out.se.cell_ 2 _ rfl
  have s3 := HM7.out.se.cell_ 3 _ rfl
  have s4 := HM7.out.se.cell_ 4 _ rfl
  obtain ⟨_, _, _, _, _, c0, c1, c2, c3, c4, fr⟩ := HM7.out.cells5 HN.out HI.out
  have fr0 := fr (i * 5)
  have ST := Lib.hid (HS.out.at_ HM7.out.bel)
  go_upto_region 66 with fail
  obtain ⟨cs', dn⟩ := HM7.out.put5 rfl HN.out (i := i) (by rw [HN.out]; exact HI.out) (s' := ⟨0, t.set, t.pre, t.sav, t.wri⟩) ST.out.p1 ST.out.p2 ST.out.p3 ST.out.p4 ⟨by simp, by simp⟩
  clear r0 r1 s0 s1 s2 s3 s4 c0 c1 c2 c3 c4 fr fr0 ST
  have DN := Lib.hid dn
  clear dn
  generalize World.setCell _ _ _ = w9 at DN ⊢
  refine region_segs [2, 3] (by kernel_rfl) ?_
  have DN := Lib.hid (DN.out.keep (Below.refl _ _).drew)
  generalize w9.drew = w9 at DN ⊢
  have r0 := DN.out.wo.cell_ 0 _ rfl
  have r1 := DN.out.wo.cell_ 1 _ rfl
  have k0 := DN.out.ok.cell_ 0 _ rfl
  have k1 := DN.out.ok.cell_ 1 _ rfl
  have k2 := DN.out.ok.cell_ 2 _ rfl
  have u0 := DN.out.rw_.cell_ 0 _ rfl
  have u1 := DN.out.rw_.cell_ 1 _ rfl
  have v0 := DN.out.ra.cell_ 0 _ rfl
  have v1 := DN.out.ra.cell_ 1 _ rfl
  have v2 := DN.out.ra.cell_ 2 _ rfl
  have ff := DN.out.rw_.frozen
  have fg := DN.out.ra.frozen
  refine anyB_seg [0] 3 rfl (by kernel_rfl) (by kernel_rfl) (by kernel_rfl) (fun _ _ d _ _ h => by cases d <;> exact h) ?_
  simp only [pickOps, List.getElem?_toArray, List.getElem?_cons_zero]
  go_wp2_with fail
  refine ⟨rfl, by rfl, ?_⟩
  obtain ⟨E1, E2, E3, E4, E5⟩ := DN.out.toQ.ends rfl (.slice F (plusP W.rows key val).length k) (.slice (some ⟨g, 0, none⟩) n cap) (.int .i64 1) (.string ⟨#[]⟩) (.int .i64 0)
  have q0 := E4.cell_ 0 _ rfl
  have q1 := E4.cell_ 1 _ rfl
  have p0 := E5.cell_ 0 _ rfl
  have p1 := E5.cell_ 1 _ rfl
  have p2 := E5.cell_ 2 _ rfl
  have FIN := Lib.hid (And.intro E1 (And.intro E2 E3))
  clear E1 E2 E3 E4 E5
  refine anyB_two (i := 1) (j := 2) (by kernel_rfl) rfl rfl (fun K hK => ?_) (fun K hK => ?_)
  ·go_simp
   refine hK.out _ _ (fun _ => (Below.refl _ _)) ?_
   clear hK K
   refine anyB_one (i := 2) (by kernel_rfl) rfl (fun K hK => ?_)
   go_simp
   refine hK.out _ _ (fun h => absurd (by decide) h) ?_
   clear hK K
   refine anyB_one (i := 3) (by kernel_rfl) rfl (fun K hK => ?_)
   go_simp
   refine hK.out _ _ (fun h => absurd (by decide) h) ?_
   clear hK K
   refine anyB_done (by kernel_rfl) ?_ _
   clear u0 u1 v0 v1 v2 ff fg r0 r1 k0 k1 k2
   generalize World.setCell _ _ _ = w10 at FIN q0 q1 p0 p1 p2 ⊢
   go_wp2_with fail
   refine bodyPost_ret (v := .tuple #[.agg #[.slice F (plusP W.rows key val).length k, .slice (some ⟨g, 0, none⟩) n cap], .agg #[.int .i64 1, .string ⟨#[]⟩, .int .i64 0]]) ?_ rfl ⟨_, cs', by rw [← HR.out]; rfl, by rw [← HR.out]; exact FIN.out.2.1, by rw [← HR.out]; exact FIN.out.2.2, FIN.out.1⟩
   simp [results, Tryd.results77, go_sem, q0, q1, p0, p1, p2]
  ·go_simp
   refine hK.out _ _ (fun h => absurd (by decide) h) ?_
   clear hK K
   refine anyB_seg [1] 1 rfl (by kernel_rfl) (by kernel_rfl) (by kernel_rfl) (fun _ _ d _ _ h => by cases d <;> exact h) ?_
   simp only [pickOps, List.getElem?_toArray, List.getElem?_cons_zero, List.getElem?_cons_succ]
   go_wp2_with fail
   refine ⟨rfl, by rfl, ?_⟩
   refine anyB_one (i := 3) (by kernel_rfl) rfl (fun K hK => ?_)
   go_simp
   refine hK.out _ _ (fun h => absurd (by decide) h) ?_
   clear hK K
   refine anyB_done (by kernel_rfl) ?_ _
   clear u0 u1 v0 v1 v2 ff fg r0 r1 k0 k1 k2
   generalize World.setCell _ _ _ = w10 at FIN q0 q1 p0 p1 p2 ⊢
   go_wp2_with fail
   refine bodyPost_ret (v := .tuple #[.agg #[.slice F (plusP W.rows key val).length k, .slice (some ⟨g, 0, none⟩) n cap], .agg #[.int .i64 1, .string ⟨#[]⟩, .int .i64 0]]) ?_ rfl ⟨_, cs', by rw [← HR.out]; rfl, by rw [← HR.out]; exact FIN.out.2.1, by rw [← HR.out]; exact FIN.out.2.2, FIN.out.1⟩
   simp [results, Tryd.results77, go_sem, q0, q1, p0, p1, p2]
end Go.Proofs.YtjbnfigpflambabDoor
/- The reference's did, for every statement that is no Exec. -/
namespace Go.Proofs.YtjbnfigpflambabDoor
open Go.ChangeShapes Go.WideShapes Go.ChangeAt Go.RowKit
section
variable {w w' : World} {B : Nat} {g cap n : Nat} {W : Wo} {cs : List Value} {Ar : Option Addr} {cr : Nat} {e : Ending}
theorem DidR.same (hr : OPL w B (.slice Ar W.rows.length cr) W.rows) (hs : OSL w B (.slice (some ⟨g, 0, none⟩) n cap) W.ses cs) {a : An} {v : Value} (hv : v = anV a)
  (h : e = .returned (.tuple #[.agg #[.slice Ar W.rows.length cr, .slice (some ⟨g, 0, none⟩) n cap], v]) ∧ Below w.heap.size w w') : DidR w B g cap n (W, a) e w' :=
 ⟨_, cs, by rw [h.1, hv], hr.keeps (.of_below h.2), hs.keep h.2, .of_below h.2⟩
end
theorem found_v (l : List Pr) (key : ByteArray) : (if hasK l key = true then Value.agg #[.int .i64 2, .string ((atP l key).getD ⟨#[]⟩), .int .i64 0] else .agg #[.int .i64 3, .string ⟨#[]⟩, .int .i64 0]) = anV (foundA (atP l key)) := by
 have h := hasK_atP l key
 cases e : atP l key with
 | none => rw [e] at h; rw [← h]; rfl
 | some v => rw [e] at h; rw [← h]; rfl
theorem Good.lens {W : Wo} (g : Good W) {i : Nat} (hi : i < W.ses.length) : (W.se i).set.length ≤ 6 ∧ (W.se i).pre.length ≤ 6 ∧ (W.se i).wri.length ≤ 100 := by
 have k := g.se hi
 exact ⟨((pairs_iff _ _ _).1 k.set).2.2, ((pairs_iff _ _ _).1 k.pre).2.2, ((pairs_iff _ _ _).1 k.wri).2.2⟩
theorem refdid1_any (w : World) (B : Nat) (r : Value) (g cap n : Nat) (W : Wo) (cs : List Value) (i : Nat) (x : St) (hB : B ≤ w.heap.size) (hn : W.ses.length = n) (hr : OPL w B r W.rows) (hs : OSL w B (.slice (some ⟨g, 0, none⟩) n cap) W.ses cs) (hi : i < n)
  (hG : Good W) (h1 : 1 ≤ x.k) (h11 : x.k ≤ 11) (h8 : x.k ≠ 8) (hk : x.key.size ≤ maxLen) (hv : x.val.size ≤ maxLen) :
  Calls Tryd.prog 77 #[.agg #[r, .slice (some ⟨g, 0, none⟩) n cap], .int .i64 (i : Nat), .agg #[.int .i64 x.k, .string x.key, .string x.val]] w (DidR w B g cap n (did1 W i x)) := by
 have hil : i < W.ses.length := by omega
 have gs := hG.se hil
 have s0 := gs.st0
 have s2 := gs.st2
 obtain ⟨l1, l2, l3⟩ := hG.lens hil
 have lr := hG.rows100
 have hf := hG.few
 obtain ⟨Ar, cr, rfl⟩ := hr.form
 have hsl : SL w w.heap.size (.slice (some ⟨g, 0, none⟩) n cap) W.ses := hs.sl (by omega)
 obtain ⟨k, key, val⟩ := x
 simp only at h1 h11 h8 hk hv ⊢
 by_cases hfl : (W.se i).st = 2 ∧ k ≠ 2 ∧ k ≠ 3
 ·have e : did1 W i ⟨k, key, val⟩ = (W, noA tFailed) := by unfold did1; rw [if_pos hfl]
  rw [e]
  exact (refdid_failed w _ n cap Ar _ cr W.ses i ⟨k, key, val⟩ hn hsl hi hfl.1 hfl.2.1 hfl.2.2).mono fun _ _ h => DidR.same hr hs rfl h
 have ek : did1 W i ⟨k, key, val⟩ = if k = 1 ∨ k = 2 ∨ k = 3 then transW W i k else if k = 4 then resetW W i else if k = 6 then getW W i key else if k = 7 then readW W i key else if k = 9 then setW W i key val else if k = 10 then putW W i key val else if k = 11 then prepW W i key val else (W, noA tAsked) := by
  unfold did1; rw [if_neg hfl]
 rw [ek]
 clear ek
 obtain rfl | rfl | rfl | rfl | rfl | rfl | rfl | rfl | rfl | rfl : k = 1 ∨ k = 2 ∨ k = 3 ∨ k = 4 ∨ k = 5 ∨ k = 6 ∨ k = 7 ∨ k = 9 ∨ k = 10 ∨ k = 11 := by omega
 ·rw [if_pos (.inl rfl)]
  unfold transW
  by_cases h0 : (W.se i).st = 0
  ·rw [if_pos ⟨rfl, h0⟩]
   exact refdid_begin w B _ g cap n W cs i key val hB hn hr hs hi h0
  ·rw [if_neg (fun h => h0 h.2), if_pos rfl]
   have h2 : (W.se i).st ≠ 2 := fun h => hfl ⟨h, by decide, by decide⟩
   exact (refdid_begun w _ n cap Ar _ cr W.ses i key val hn hsl hi h2 h0).mono fun _ _ h => DidR.same hr hs rfl h
 ·rw [if_pos (.inr (.inl rfl))]
  unfold transW
  rw [if_neg (fun h => absurd h.1 (by decide)), if_neg (by decide)]
  by_cases h0 : (W.se i).st = 0
  ·rw [if_pos h0]
   exact (refdid_notx2 w _ n cap Ar _ cr W.ses i key val hn hsl hi h0).mono fun _ _ h => DidR.same hr hs rfl h
  ·rw [if_neg h0]
   unfold endW
   by_cases h1 : (W.se i).st = 1
   ·rw [if_pos (by rw [h1]; rfl)]
    exact refdid_commit w B _ g cap n W cs i key val hB hn hr hs hi h1 (by omega) (by omega)
   ·rw [if_neg (by simp [h1])]
    exact refdid_abort2 w B _ g cap n W cs i key val hB hn hr hs hi (by omega)
 ·rw [if_pos (.inr (.inr rfl))]
  unfold transW
  rw [if_neg (fun h => absurd h.1 (by decide)), if_neg (by decide)]
  by_cases h0 : (W.se i).st = 0
  ·rw [if_pos h0]
   exact (refdid_notx3 w _ n cap Ar _ cr W.ses i key val hn hsl hi h0).mono fun _ _ h => DidR.same hr hs rfl h
  ·rw [if_neg h0]
   unfold endW
   rw [if_neg (by simp)]
   by_cases h1 : (W.se i).st = 1
   ·exact refdid_back1 w B _ g cap n W cs i key val hB hn hr hs hi h1
   ·exact refdid_back2 w B _ g cap n W cs i key val hB hn hr hs hi (by omega)
 ·rw [if_neg (by decide), if_pos rfl]
  have h2 : (W.se i).st ≠ 2 := fun h => hfl ⟨h, by decide, by decide⟩
  unfold resetW
  by_cases h0 : (W.se i).st = 0
  ·rw [if_pos h0, h0]
   exact refdid_reset w B _ g cap n W cs i key val hB hn hr hs hi h0
  ·rw [if_neg h0]
   exact (refdid_notin w _ n cap Ar _ cr W.ses i key val hn hsl hi h2 h0).mono fun _ _ h => DidR.same hr hs rfl h
 ·rw [if_neg (by decide), if_neg (by decide), if_neg (by decide), if_neg (by decide), if_neg (by decide), if_neg (by decide), if_neg (by decide)]
  have h2 : (W.se i).st ≠ 2 := fun h => hfl ⟨h, by decide, by decide⟩
  exact (refdid_asked w _ n cap Ar _ cr W.ses i key val hn hsl hi h2).mono fun _ _ h => DidR.same hr hs rfl h
 ·rw [if_neg (by decide), if_neg (by decide), if_pos rfl]
  have h2 : (W.se i).st ≠ 2 := fun h => hfl ⟨h, by decide, by decide⟩
  exact (refdid_get w _ n cap Ar _ cr W.ses i key val hn hsl hi h2).mono fun _ _ h => DidR.same hr hs (found_v _ _) h
 ·rw [if_neg (by decide), if_neg (by decide), if_neg (by decide), if_pos rfl]
  have h2 : (W.se i).st ≠ 2 := fun h => hfl ⟨h, by decide, by decide⟩
  exact refdid_read w B _ g cap n W cs i key val hB hn hr hs hi h2
 ·rw [if_neg (by decide), if_neg (by decide), if_neg (by decide), if_neg (by decide), if_pos rfl]
  have h2 : (W.se i).st ≠ 2 := fun h => hfl ⟨h, by decide, by decide⟩
  unfold setW keepP
  by_cases hc : hasK (W.se i).set key = false ∧ (W.se i).set.length = 6
  ·rw [if_pos hc]
   exact refdid_setfull w B _ g cap n W cs i key val hB hn hr hs hi h2 hc.1 (by omega)
  ·rw [if_neg hc]
   exact refdid_set w B _ g cap n W cs i key val hB hn hr hs hi h2 (fun h => by have : ¬ (W.se i).set.length = 6 := fun h' => hc ⟨h, h'⟩; omega) l1 hk hv
 ·rw [if_neg (by decide), if_neg (by decide), if_neg (by decide), if_neg (by decide), if_neg (by decide), if_pos rfl]
  have h2 : (W.se i).st ≠ 2 := fun h => hfl ⟨h, by decide, by decide⟩
  unfold putW
  by_cases hh : heldB W.ses i key = true
  ·rw [if_pos hh]
   exact refdid_held w B _ g cap n W cs i key val hB hn hr hs hi h2 hh hG
  ·have hh' : heldB W.ses i key = false := by simpa using hh
   rw [if_neg hh]
   have hfi := full_iff hG hil hh'
   by_cases hc : hasK W.rows key = false ∧ hasK (W.se i).wri key = false ∧ card (keysW W) = 100
   ·rw [if_pos hc]
    obtain ⟨c1, c2⟩ := hfi.1 hc
    exact refdid_putfull w B _ g cap n W cs i key val hB hn hr hs hi h2 hh' c1 c2 hG
   ·rw [if_neg hc]
    have hroom : hasK (allR W) key = false → (allR W).length < 100 := fun h => by
     rcases Nat.lt_or_ge (allR W).length 100 with h' | h'
     ·exact h'
     ·exact absurd (hfi.2 ⟨h, h'⟩) hc
    by_cases h1 : (W.se i).st = 1
    ·rw [if_pos h1, h1]
     exact refdid_puttx w B _ g cap n W cs i key val hB hn hr hs hi h1 hh' hroom hk hv (by omega) hG
    ·rw [if_neg h1]
     have h0 : (W.se i).st = 0 := by omega
     have e : W.ses = W.ses.set i ⟨0, (W.se i).set, (W.se i).pre, (W.se i).sav, (W.se i).wri⟩ := by
      have e1 : (⟨0, (W.se i).set, (W.se i).pre, (W.se i).sav, (W.se i).wri⟩ : Se) = W.se i := by rw [← h0]
      rw [e1]
      exact (congrArg Wo.ses (put_back W hil)).symm
     have h := refdid_putrows w B _ g cap n W cs i key val hB hn hr hs hi h0 hh' hroom hk hv hG
     rw [← e] at h
     exact h
 ·rw [if_neg (by decide), if_neg (by decide), if_neg (by decide), if_neg (by decide), if_neg (by decide), if_neg (by decide), if_pos rfl]
  have h2 : (W.se i).st ≠ 2 := fun h => hfl ⟨h, by decide, by decide⟩
  unfold prepW keepP
  by_cases hc : hasK (W.se i).pre key = false ∧ (W.se i).pre.length = 6
  ·rw [if_pos hc]
   exact refdid_prepfull w B _ g cap n W cs i key val hB hn hr hs hi h2 hc.1 (by omega)
  ·rw [if_neg hc]
   exact refdid_prep w B _ g cap n W cs i key val hB hn hr hs hi h2 (fun h => by have : ¬ (W.se i).pre.length = 6 := fun h' => hc ⟨h, h'⟩; omega) l2 hk hv
end Go.Proofs.YtjbnfigpflambabDoor
/- The reference's upTo and wordOf: what each returns. -/
namespace Go.Proofs.YtjbnfigpflambabDoor
open Go.ChangeShapes Go.WideShapes Go.ChangeAt Go.RowKit
theorem indexB_one (s : ByteArray) : Lib.indexB s ⟨#[32]⟩ = Lib.indexByte s.data.toList 32 := Lib.index_one _ _
theorem blank_at {s : ByteArray} {o : Nat} (h : Lib.indexB s ⟨#[32]⟩ = o) : ∃ ho : o < s.size, s[o]'ho = 32 ∧ ∀ j, (hj : j < s.size) → j < o → s[j]'hj ≠ 32 := by
 rw [indexB_one] at h
 obtain ⟨h1, h2⟩ := Lib.indexByte_some h
 have ho : o < s.size := by
  have := (List.getElem?_eq_some_iff.1 h1).1
  simpa using this
 refine ⟨ho, ?_, fun j hj hlt he => h2 j hlt ?_⟩
 ·rw [Lib.data_getElem? s o ho] at h1
  exact Option.some.inj h1
 ·rw [Lib.data_getElem? s j hj, he]
theorem no_blank {s : ByteArray} (h : Lib.indexB s ⟨#[32]⟩ = -1) : ∀ j, (hj : j < s.size) → s[j]'hj ≠ 32 := by
 rw [indexB_one] at h
 intro j hj he
 refine Lib.indexByte_none h j ?_
 rw [Lib.data_getElem? s j hj, he]
theorem u8_ne {c : UInt8} (h : c ≠ 32) : ((c.toNat : Int) == 32) = false := by
 simp only [beq_eq_false_iff_ne]
 intro he
 apply h
 apply UInt8.toNat.inj
 show c.toNat = 32
 omega
theorem upTo_no (s : ByteArray) (w : World) (hm : s.size ≤ maxLen) (h : Lib.indexB s ⟨#[32]⟩ = -1) :
  Calls Tryd.prog 79 #[.string s] w fun e w' => e = .returned (.tuple #[.string s, .string ⟨#[]⟩, .bool false]) ∧ w = w' := by
 unfold maxLen at hm
 have HN := Lib.hid (no_blank h)
 clear h
 go_enter Tryd.func79, Tryd.ntmps79
 go_wp2_with fail
 go_loop [5] (fun i => ∃ k : Nat, k ≤ s.size ∧ i = .int .i64 k) (fun i => s.size - (intOf i).toNat)
 case atStart => exact ⟨0, Nat.zero_le _, rfl⟩
 case round =>
  obtain ⟨k, hk, rfl⟩ := hrel
  by_cases hlt : k < s.size
  ·obtain ⟨c, ec⟩ : ∃ c, s[k]'hlt = c := ⟨_, rfl⟩
   have hb : ((c.toNat : Int) == 32) = false := u8_ne (by rw [← ec]; exact HN.out k hlt)
   go_wp2_with fail
   go_round
   case rel => exact ⟨k + 1, by omega, by go_num⟩
   case measure => simp [intOf]; omega
  ·go_wp2_with fail
   go_ret3
   exact ⟨rfl, rfl⟩
theorem upTo_yes (s : ByteArray) (o : Nat) (w : World) (hm : s.size ≤ maxLen) (h : Lib.indexB s ⟨#[32]⟩ = o) :
  Calls Tryd.prog 79 #[.string s] w fun e w' => e = .returned (.tuple #[.string (s.extract 0 o), .string (s.extract (o + 1) s.size), .bool true]) ∧ ∃ n, w' = w.drewN n := by
 unfold maxLen at hm
 obtain ⟨ho, h1, h2⟩ := blank_at h
 have H1 := Lib.hid h1
 have H2 := Lib.hid h2
 clear h h1 h2
 go_enter Tryd.func79, Tryd.ntmps79
 go_wp2_with fail
 go_loop [5] (fun i => ∃ k : Nat, k ≤ o ∧ i = .int .i64 k) (fun i => s.size - (intOf i).toNat)
 case atStart => exact ⟨0, Nat.zero_le _, rfl⟩
 case round =>
  obtain ⟨k, hk, rfl⟩ := hrel
  have hlt : k < s.size := by omega
  obtain ⟨c, ec⟩ : ∃ c, s[k]'hlt = c := ⟨_, rfl⟩
  by_cases hko : k < o
  ·have hb : ((c.toNat : Int) == 32) = false := u8_ne (by rw [← ec]; exact H2.out k hlt hko)
   go_wp2_with fail
   go_round
   case rel => exact ⟨k + 1, by omega, by go_num⟩
   case measure => simp [intOf]; omega
  ·obtain rfl : k = o := by omega
   have hb : ((c.toNat : Int) == 32) = true := by rw [← ec, H1.out]; rfl
   have g1 : IntKind.i64.wrap ((k : Int) + 1) = (k : Int) + 1 := IntWalk.i64_in _ (by omega)
   have g2 : (0 : Int) ≤ (k : Int) + 1 := by omega
   have g3 : ((k : Int) + 1).toNat = k + 1 := by omega
   have g4 : (k : Int) + 1 ≤ (s.size : Int) := by omega
   have g5 : (0 : Int) ≤ (k : Int) := by omega
   have g6 : (k : Int) ≤ (s.size : Int) := by omega
   have g7 : ((k : Int)).toNat = k := by omega
   go_wp2_with fail
   go_quiet (fail)
   go_wp2_with fail
   go_ret3
   exact ⟨rfl, _, rfl⟩
set_option maxHeartbeats 4000000 in
theorem word_any (k : Int) (w : World) (h1 : 1 ≤ k) (h2 : k ≤ 11) :
  Calls Tryd.prog 31 #[.int .i64 k] w fun e w' => e = .returned (.string (wordsL.getD (k.toNat - 1) ByteArray.empty)) ∧ Below w.heap.size w w' := by
 have hk : k = 1 ∨ k = 2 ∨ k = 3 ∨ k = 4 ∨ k = 5 ∨ k = 6 ∨ k = 7 ∨ k = 8 ∨ k = 9 ∨ k = 10 ∨ k = 11 := by omega
 rcases hk with rfl | rfl | rfl | rfl | rfl | rfl | rfl | rfl | rfl | rfl | rfl
 all_goals
  go_enter Tryd.func31, Tryd.ntmps31
  go_wp2_with fail
  go_ret
  exact ⟨rfl, boxed _ _⟩
end Go.Proofs.YtjbnfigpflambabDoor
/- The reference's StmtFault: what it returns, given what StmtOf returns for its value. -/
namespace Go.Proofs.YtjbnfigpflambabDoor
open Go.ChangeShapes Go.WideShapes Go.ChangeAt Go.RowKit
section
variable (k : Int) (key val : ByteArray) (w : World)
theorem fault_kind (h : k < 1 ∨ 11 < k) :
  Calls Tryd.prog 30 #[.agg #[.int .i64 k, .string key, .string val]] w fun e w' => e = .returned (.int .i64 3) ∧ Below w.heap.size w w' := by
 go_enter Tryd.func30, Tryd.ntmps30
 go_wp2_with fail
 refine (in_no _ _ _ _ h).mono ?_
 rintro e w1 ⟨rfl, rfl⟩
 go_wp2_with fail
 go_ret
 exact ⟨rfl, boxed _ _⟩
theorem fault_low (h1 : 1 ≤ k) (h2 : k ≤ 5) :
  Calls Tryd.prog 30 #[.agg #[.int .i64 k, .string key, .string val]] w fun e w' => e = .returned (.int .i64 (if isE key && isE val then 0 else 4)) ∧ Below w.heap.size w w' := by
 have d1 : decide (k < 6) = true := by simp; omega
 unfold isE
 cases e1 : key.toList.isEmpty <;> cases e2 : val.toList.isEmpty
 all_goals
  have f1 := e1
  have f2 := e2
  simp only [List.isEmpty_iff, List.isEmpty_eq_false_iff] at f1 f2
  go_enter Tryd.func30, Tryd.ntmps30
  go_wp2_with fail
  refine (in_yes _ _ _ _ (by omega) (by omega)).mono ?_
  rintro e w1 ⟨rfl, rfl⟩
  go_wp2_with fail
  go_ret
  exact ⟨by simp, boxed _ _⟩
theorem fault_name (h1 : 6 ≤ k) (h2 : k ≤ 11) (hm : key.size ≤ maxLen) (hn : nameB key = false) :
  Calls Tryd.prog 30 #[.agg #[.int .i64 k, .string key, .string val]] w fun e w' => e = .returned (.int .i64 4) ∧ Below w.heap.size w w' := by
 have d1 : decide (k < 6) = false := by simp; omega
 have HN := Lib.hid hn
 clear hn
 go_enter Tryd.func30, Tryd.ntmps30
 go_wp2_with fail
 refine (in_yes _ _ _ _ (by omega) (by omega)).mono ?_
 rintro e w1 ⟨rfl, rfl⟩
 go_wp2_with fail
 refine (nameMay_any key _ hm).mono ?_
 rintro e w1 ⟨rfl, rfl⟩
 rw [HN.out]
 go_wp2_with fail
 go_ret
 exact ⟨rfl, boxed _ _⟩
theorem fault_mid (h : k = 6 ∨ k = 7 ∨ k = 8) (hm : key.size ≤ maxLen) (hn : nameB key = true) :
  Calls Tryd.prog 30 #[.agg #[.int .i64 k, .string key, .string val]] w fun e w' => e = .returned (.int .i64 (if isE val then 0 else 4)) ∧ Below w.heap.size w w' := by
 have HN := Lib.hid hn
 clear hn
 unfold isE
 cases e2 : val.toList.isEmpty <;> rcases h with rfl | rfl | rfl
 all_goals
  have f2 := e2
  simp only [List.isEmpty_iff, List.isEmpty_eq_false_iff] at f2
  go_enter Tryd.func30, Tryd.ntmps30
  go_wp2_with fail
  refine (in_yes _ _ _ _ (by omega) (by omega)).mono ?_
  rintro e w1 ⟨rfl, rfl⟩
  go_wp2_with fail
  refine (nameMay_any key _ hm).mono ?_
  rintro e w1 ⟨rfl, rfl⟩
  rw [HN.out]
  go_wp2_with fail
  go_ret
  exact ⟨by simp, boxed _ _⟩
theorem fault_set (h : k = 9 ∨ k = 10) (hm : key.size ≤ maxLen) (hm2 : val.size ≤ maxLen) (hn : nameB key = true) :
  Calls Tryd.prog 30 #[.agg #[.int .i64 k, .string key, .string val]] w fun e w' => e = .returned (.int .i64 (if valueB val then 0 else 4)) ∧ Below w.heap.size w w' := by
 have HN := Lib.hid hn
 clear hn
 cases hv : valueB val
 all_goals
  have HV := Lib.hid hv
  clear hv
  rcases h with rfl | rfl
 all_goals
  go_enter Tryd.func30, Tryd.ntmps30
  go_wp2_with fail
  refine (in_yes _ _ _ _ (by omega) (by omega)).mono ?_
  rintro e w1 ⟨rfl, rfl⟩
  go_wp2_with fail
  refine (nameMay_any key _ hm).mono ?_
  rintro e w1 ⟨rfl, rfl⟩
  rw [HN.out]
  go_wp2_with fail
  refine (valueMay_any val _ hm2).mono ?_
  rintro e w1 ⟨rfl, rfl⟩
  rw [HV.out]
  go_wp2_with fail
  go_ret
  exact ⟨by simp, boxed _ _⟩
theorem fault_prep (hT : Tabs w) (hm : key.size ≤ maxLen) (hn : nameB key = true) (hr : ReadOk 57 val) :
  Calls Tryd.prog 30 #[.agg #[.int .i64 11, .string key, .string val]] w fun e w' => e = .returned (.int .i64 (if prepB val then 0 else 4)) ∧ Below w.heap.size w w' := by
 have HN := Lib.hid hn
 have HR := Lib.hid hr
 have HT := Lib.hid hT
 clear hn hr hT
 obtain ⟨rk, hrk⟩ : ∃ rk, (readS val).k = rk := ⟨_, rfl⟩
 rw [prep_read, hrk]
 have RK := Lib.hid hrk
 clear hrk
 cases h0 : decide (readE val = 0) with
 | false =>
  have g0 : (readE val != 0) = true := by simpa using h0
  simp only [Bool.false_and, Bool.false_eq_true, if_false]
  have G := Lib.hid h0
  clear h0
  go_enter Tryd.func30, Tryd.ntmps30
  go_wp2_with fail
  refine (in_yes _ _ _ _ (by omega) (by omega)).mono ?_
  rintro e w1 ⟨rfl, rfl⟩
  go_wp2_with fail
  refine (nameMay_any key _ hm).mono ?_
  rintro e w1 ⟨rfl, rfl⟩
  rw [HN.out]
  go_wp2_with fail
  refine (HR.out _ (HT.out.alloc _)).mono ?_
  rintro e w2 ⟨rfl, hb2⟩
  have hb := below_of_alloc (Nat.le_refl _) hb2
  clear hb2
  unfold St.v
  rw [RK.out]
  go_wp2_with fail
  go_ret
  exact ⟨rfl, hb.alloc hb.size _⟩
 | true =>
  have g0 : (readE val != 0) = false := by simpa using h0
  rw [Bool.true_and]
  have G := Lib.hid h0
  clear h0
  by_cases h67 : 6 ≤ rk ∧ rk ≤ 7
  ·obtain ⟨h6, h7⟩ := h67
   have e : (decide (rk = 6) || decide (rk = 7) || decide (rk = 10)) = true := by simp; omega
   simp only [e, if_true]
   clear e
   go_enter Tryd.func30, Tryd.ntmps30
   go_wp2_with fail
   refine (in_yes _ _ _ _ (by omega) (by omega)).mono ?_
   rintro e w1 ⟨rfl, rfl⟩
   go_wp2_with fail
   refine (nameMay_any key _ hm).mono ?_
   rintro e w1 ⟨rfl, rfl⟩
   rw [HN.out]
   go_wp2_with fail
   refine (HR.out _ (HT.out.alloc _)).mono ?_
   rintro e w2 ⟨rfl, hb2⟩
   have hb := below_of_alloc (Nat.le_refl _) hb2
   clear hb2
   unfold St.v
   rw [RK.out]
   go_wp2_with fail
   refine (in_yes _ _ _ _ (by omega) (by omega)).mono ?_
   rintro e w1 ⟨rfl, rfl⟩
   go_wp2_with fail
   go_ret
   exact ⟨rfl, hb.alloc hb.size _⟩
  ·by_cases h10 : rk = 10
   ·have b10 : (rk != 10) = false := by simp [h10]
    have e : (decide (rk = 6) || decide (rk = 7) || decide (rk = 10)) = true := by simp [h10]
    have h67' : rk < 6 ∨ 7 < rk := by omega
    have H67 := Lib.hid h67'
    simp only [e, if_true]
    clear e h10 h67 h67'
    go_enter Tryd.func30, Tryd.ntmps30
    go_wp2_with fail
    refine (in_yes _ _ _ _ (by omega) (by omega)).mono ?_
    rintro e w1 ⟨rfl, rfl⟩
    go_wp2_with fail
    refine (nameMay_any key _ hm).mono ?_
    rintro e w1 ⟨rfl, rfl⟩
    rw [HN.out]
    go_wp2_with fail
    refine (HR.out _ (HT.out.alloc _)).mono ?_
    rintro e w2 ⟨rfl, hb2⟩
    have hb := below_of_alloc (Nat.le_refl _) hb2
    clear hb2
    unfold St.v
    rw [RK.out]
    go_wp2_with fail
    refine (in_no _ _ _ _ H67.out).mono ?_
    rintro e w1 ⟨rfl, rfl⟩
    go_wp2_with fail
    go_ret
    exact ⟨rfl, hb.alloc hb.size _⟩
   ·have b10 : (rk != 10) = true := by simp [h10]
    have e : (decide (rk = 6) || decide (rk = 7) || decide (rk = 10)) = false := by simp; omega
    have h67' : rk < 6 ∨ 7 < rk := by omega
    have H67 := Lib.hid h67'
    simp only [e, Bool.false_eq_true, if_false]
    clear e h10 h67 h67'
    go_enter Tryd.func30, Tryd.ntmps30
    go_wp2_with fail
    refine (in_yes _ _ _ _ (by omega) (by omega)).mono ?_
    rintro e w1 ⟨rfl, rfl⟩
    go_wp2_with fail
    refine (nameMay_any key _ hm).mono ?_
    rintro e w1 ⟨rfl, rfl⟩
    rw [HN.out]
    go_wp2_with fail
    refine (HR.out _ (HT.out.alloc _)).mono ?_
    rintro e w2 ⟨rfl, hb2⟩
    have hb := below_of_alloc (Nat.le_refl _) hb2
    clear hb2
    unfold St.v
    rw [RK.out]
    go_wp2_with fail
    refine (in_no _ _ _ _ H67.out).mono ?_
    rintro e w1 ⟨rfl, rfl⟩
    go_wp2_with fail
    go_ret
    exact ⟨rfl, hb.alloc hb.size _⟩
theorem fault_any (hT : Tabs w) (hm : key.size ≤ maxLen) (hm2 : val.size ≤ maxLen) (hr : k = 11 → ReadOk 57 val) :
  Calls Tryd.prog 30 #[.agg #[.int .i64 k, .string key, .string val]] w fun e w' => e = .returned (.int .i64 (checkE ⟨k, key, val⟩)) ∧ Below w.heap.size w w' := by
 unfold checkE plainE
 by_cases h0 : k < 1 ∨ 11 < k
 ·rw [if_neg (by simp; omega), if_pos h0]
  exact fault_kind k key val w h0
 by_cases h6 : k < 6
 ·rw [if_neg (by simp; omega), if_neg h0, if_pos h6]
  exact fault_low k key val w (by omega) (by omega)
 cases hn : nameB key with
 | false =>
  have e : (if k = 11 then (if (false && prepB val) = true then (0 : Int) else 4) else if k < 1 ∨ 11 < k then 3 else if k < 6 then (if (isE key && isE val) = true then 0 else 4) else if (!false) = true then 4 else if k < 9 then (if isE val = true then 0 else 4) else if valueB val = true then 0 else 4) = 4 := by
   rw [if_neg h0, if_neg h6]
   simp
  simp only [hn, e]
  exact fault_name k key val w (by omega) (by omega) hm hn
 | true =>
  simp only [hn, Bool.true_and, Bool.not_true, Bool.false_eq_true, if_false]
  by_cases h11 : k = 11
  ·subst h11
   rw [if_pos rfl]
   exact fault_prep key val w hT hm hn (hr rfl)
  rw [if_neg h11, if_neg h0, if_neg h6]
  by_cases h9 : k < 9
  ·rw [if_pos h9]
   exact fault_mid k key val w (by omega) hm hn
  ·rw [if_neg h9]
   exact fault_set k key val w (by omega) hm hm2 hn
end
end Go.Proofs.YtjbnfigpflambabDoor
