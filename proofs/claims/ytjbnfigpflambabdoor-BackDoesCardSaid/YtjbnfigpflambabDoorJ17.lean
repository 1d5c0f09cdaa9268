/- The reference's did at Commit and Rollback. -/
import Derived.Test.YtjbnfigpflambabDoorJ14
import Derived.Test.YtjbnfigpflambabDoorJ16
/- The reference's did at Commit and Rollback. -/
namespace Go.Proofs.YtjbnfigpflambabDoor
open Go.ChangeShapes Go.WideShapes Go.ChangeAt Go.RowKit
set_option maxHeartbeats 8000000 in
set_option maxRecDepth 100000 in
theorem refdid_abort2 (w : World) (B : Nat) (r : Value) (g cap n : Nat) (W : Wo) (cs : List Value) (i : Nat) (key val : ByteArray) (hB : B ≤ w.heap.size) (hn : W.ses.length = n) (hr : OPL w B r W.rows) (hs : OSL w B (.slice (some ⟨g, 0, none⟩) n cap) W.ses cs) (hi : i < n) (hs0 : (W.se i).st = 2) :
  Calls Tryd.prog 77 #[.agg #[r, .slice (some ⟨g, 0, none⟩) n cap], .int .i64 (i : Nat), .agg #[.int .i64 2, .string key, .string val]] w (DidR w B g cap n ((W.put i ⟨0, (W.se i).sav, (W.se i).pre, [], []⟩, okA))) := by
 obtain ⟨Ar, cr, A1, z1, A2, z2, A3, z3, A4, z4, rfl, hse, hpre⟩ := did_pre hB hn hr hs hi
 have HP := Lib.hid (hpre ⟨2, key, val⟩)
 have g1 : (i : Int) < (n : Int) := by omega
 have g2 : (0 : Int) ≤ (i : Int) := by omega
 have HN := Lib.hid hn
 have HI := Lib.hid hi
 obtain ⟨R, hR⟩ : ∃ R, (W.put i ⟨0, (W.se i).sav, (W.se i).pre, [], []⟩, okA) = R := ⟨_, rfl⟩
 rw [hR]
 obtain ⟨t, ht⟩ : ∃ t, W.se i = t := ⟨_, rfl⟩
 rw [ht] at hse HP hR hs0
 have HS := Lib.hid hse
 have HR := Lib.hid hR
 clear hpre hse ht hR hn hi hr hs hB
 go_enter Tryd.func77, Tryd.ntmps77
 go_upto_region 1 with fail
 generalize hw4 : (((World.alloc _ _).alloc _).alloc _).alloc _ = w4
 obtain ⟨hz4, f1, y0, y1, y2, y3, y4, hm⟩ := HP.out w4 hw4
 rw [hs0] at y0 hm
 have HM := Lib.hid hm
 clear hw4 hm HP
 go_upto_region 3 with fail
 clear f1 y0 y1 y2 y3 y4
 generalize (World.alloc _ _).alloc _ = w6 at HM ⊢
 have s0 := HM.out.se.cell_ 0 _ rfl
 have s1 := HM.out.se.cell_ 1 _ rfl
 have s3 := HM.out.se.cell_ 3 _ rfl
 have s4 := HM.out.se.cell_ 4 _ rfl
 have r0 := HM.out.wo.cell_ 0 _ rfl
 have r1 := HM.out.wo.cell_ 1 _ rfl
 have t0 := HM.out.st.cell_ 0 _ rfl
 have fs := HM.out.se.frozen
 go_upto_region 65 with fail
 have HM1 := Lib.hid ((((HM.out.setS rfl 1 (.slice A3 t.sav.length z3) rfl).setS rfl 0 (.int .i64 0) rfl).setS rfl 3 (.slice none 0 0) rfl).setS rfl 4 (.slice none 0 0) rfl)
 clear s0 s1 s3 s4 r0 r1 t0 fs HM
 generalize World.setCell _ _ _ = w7 at HM1 ⊢
 have r0 := HM1.out.wo.cell_ 0 _ rfl
 have r1 := HM1.out.wo.cell_ 1 _ rfl
 have s0 := HM1.out.se.cell_ 0 _ rfl
 have s1 := HM1.out.se.cell_ 1 _ rfl
 have s2 := HM1.out.se.cell_ 2 _ rfl
 have s3 := HM1.out.se.cell_ 3 _ rfl
 have s4 := HM1.out.se.cell_ 4 _ rfl
 obtain ⟨_, _, _, _, _, c0, c1, c2, c3, c4, fr⟩ := HM1.out.cells5 HN.out HI.out
 have fr0 := fr (i * 5)
 have ST := Lib.hid (HS.out.at_ HM1.out.bel)
 go_upto_region 66 with fail
 obtain ⟨cs', dn⟩ := HM1.out.put5 rfl HN.out (i := i) (by rw [HN.out]; exact HI.out) (s' := ⟨0, t.sav, t.pre, [], []⟩) ST.out.p3 ST.out.p2 (OPL.nil_ _ _) (OPL.nil_ _ _) ⟨by simp, by simp⟩
 clear r0 r1 s0 s1 s2 s3 s4 c0 c1 c2 c3 c4 fr fr0 ST
 have DN := Lib.hid dn
 clear dn
 generalize World.setCell _ _ _ = w9 at DN ⊢
 refine region_segs [2, 3] (by kernel_rfl) ?_
 have DN := Lib.hid (DN.out.keep (Below.refl _ _).drew)
 generalize w9.drew = w9 at DN ⊢
 have r0 := DN.out.wo.cell_ 0 _ rfl
 have r1 := DN.out.wo.cell_ 1 _ rfl
 have k0 := DN.out.ok.cell_ 0 _ rfl
 have k1 := DN.out.ok.cell_ 1 _ rfl
 have k2 := DN.out.ok.cell_ 2 _ rfl
 have u0 := DN.out.rw_.cell_ 0 _ rfl
 have u1 := DN.out.rw_.cell_ 1 _ rfl
 have v0 := DN.out.ra.cell_ 0 _ rfl
 have v1 := DN.out.ra.cell_ 1 _ rfl
 have v2 := DN.out.ra.cell_ 2 _ rfl
 have ff := DN.out.rw_.frozen
 have fg := DN.out.ra.frozen
 refine anyB_seg [0] 3 rfl (by kernel_rfl) (by kernel_rfl) (by kernel_rfl) (fun _ _ d _ _ h => by cases d <;> exact h) ?_
 simp only [pickOps, List.getElem?_toArray, List.getElem?_cons_zero]
 go_wp2_with fail
 refine ⟨rfl, by rfl, ?_⟩
 obtain ⟨E1, E2, E3, E4, E5⟩ := DN.out.toQ.ends rfl (.slice Ar W.rows.length cr) (.slice (some ⟨g, 0, none⟩) n cap) (.int .i64 1) (.string ⟨#[]⟩) (.int .i64 0)
 have q0 := E4.cell_ 0 _ rfl
 have q1 := E4.cell_ 1 _ rfl
 have p0 := E5.cell_ 0 _ rfl
 have p1 := E5.cell_ 1 _ rfl
 have p2 := E5.cell_ 2 _ rfl
 have FIN := Lib.hid (And.intro E1 (And.intro E2 E3))
 clear E1 E2 E3 E4 E5
 refine anyB_two (i := 1) (j := 2) (by kernel_rfl) rfl rfl (fun K hK => ?_) (fun K hK => ?_)
 ·go_simp
  refine hK.out _ _ (fun _ => (Below.refl _ _)) ?_
  clear hK K
  refine anyB_one (i := 2) (by kernel_rfl) rfl (fun K hK => ?_)
  go_simp
  refine hK.out _ _ (fun h => absurd (by decide) h) ?_
  clear hK K
  refine anyB_one (i := 3) (by kernel_rfl) rfl (fun K hK => ?_)
  go_simp
  refine hK.out _ _ (fun h => absurd (by decide) h) ?_
  clear hK K
  refine anyB_done (by kernel_rfl) ?_ _
  clear u0 u1 v0 v1 v2 ff fg r0 r1 k0 k1 k2
  generalize World.setCell _ _ _ = w10 at FIN q0 q1 p0 p1 p2 ⊢
  go_wp2_with fail
  refine bodyPost_ret (v := .tuple #[.agg #[.slice Ar W.rows.length cr, .slice (some ⟨g, 0, none⟩) n cap], .agg #[.int .i64 1, .string ⟨#[]⟩, .int .i64 0]]) ?_ rfl ⟨_, cs', by rw [← HR.out]; rfl, by rw [← HR.out]; exact FIN.out.2.1, by rw [← HR.out]; exact FIN.out.2.2, FIN.out.1⟩
  simp [results, Tryd.results77, go_sem, q0, q1, p0, p1, p2]
 ·go_simp
  refine hK.out _ _ (fun h => absurd (by decide) h) ?_
  clear hK K
  refine anyB_seg [1] 1 rfl (by kernel_rfl) (by kernel_rfl) (by kernel_rfl) (fun _ _ d _ _ h => by cases d <;> exact h) ?_
  simp only [pickOps, List.getElem?_toArray, List.getElem?_cons_zero, List.getElem?_cons_succ]
  go_wp2_with fail
  refine ⟨rfl, by rfl, ?_⟩
  refine anyB_one (i := 3) (by kernel_rfl) rfl (fun K hK => ?_)
  go_simp
  refine hK.out _ _ (fun h => absurd (by decide) h) ?_
  clear hK K
  refine anyB_done (by kernel_rfl) ?_ _
  clear u0 u1 v0 v1 v2 ff fg r0 r1 k0 k1 k2
  generalize World.setCell _ _ _ = w10 at FIN q0 q1 p0 p1 p2 ⊢
  go_wp2_with fail
  refine bodyPost_ret (v := .tuple #[.agg #[.slice Ar W.rows.length cr, .slice (some ⟨g, 0, none⟩) n cap], .agg #[.int .i64 1, .string ⟨#[]⟩, .int .i64 0]]) ?_ rfl ⟨_, cs', by rw [← HR.out]; rfl, by rw [← HR.out]; exact FIN.out.2.1, by rw [← HR.out]; exact FIN.out.2.2, FIN.out.1⟩
  simp [results, Tryd.results77, go_sem, q0, q1, p0, p1, p2]
set_option maxHeartbeats 8000000 in
set_option maxRecDepth 100000 in
theorem refdid_back1 (w : World) (B : Nat) (r : Value) (g cap n : Nat) (W : Wo) (cs : List Value) (i : Nat) (key val : ByteArray) (hB : B ≤ w.heap.size) (hn : W.ses.length = n) (hr : OPL w B r W.rows) (hs : OSL w B (.slice (some ⟨g, 0, none⟩) n cap) W.ses cs) (hi : i < n) (hs0 : (W.se i).st = 1) :
  Calls Tryd.prog 77 #[.agg #[r, .slice (some ⟨g, 0, none⟩) n cap], .int .i64 (i : Nat), .agg #[.int .i64 3, .string key, .string val]] w (DidR w B g cap n ((W.put i ⟨0, (W.se i).sav, (W.se i).pre, [], []⟩, okA))) := by
 obtain ⟨Ar, cr, A1, z1, A2, z2, A3, z3, A4, z4, rfl, hse, hpre⟩ := did_pre hB hn hr hs hi
 have HP := Lib.hid (hpre ⟨3, key, val⟩)
 have g1 : (i : Int) < (n : Int) := by omega
 have g2 : (0 : Int) ≤ (i : Int) := by omega
 have HN := Lib.hid hn
 have HI := Lib.hid hi
 obtain ⟨R, hR⟩ : ∃ R, (W.put i ⟨0, (W.se i).sav, (W.se i).pre, [], []⟩, okA) = R := ⟨_, rfl⟩
 rw [hR]
 obtain ⟨t, ht⟩ : ∃ t, W.se i = t := ⟨_, rfl⟩
 rw [ht] at hse HP hR hs0
 have HS := Lib.hid hse
 have HR := Lib.hid hR
 clear hpre hse ht hR hn hi hr hs hB
 go_enter Tryd.func77, Tryd.ntmps77
 go_upto_region 1 with fail
 generalize hw4 : (((World.alloc _ _).alloc _).alloc _).alloc _ = w4
 obtain ⟨hz4, f1, y0, y1, y2, y3, y4, hm⟩ := HP.out w4 hw4
 rw [hs0] at y0 hm
 have HM := Lib.hid hm
 clear hw4 hm HP
 go_upto_region 3 with fail
 clear f1 y0 y1 y2 y3 y4
 generalize (World.alloc _ _).alloc _ = w6 at HM ⊢
 have s0 := HM.out.se.cell_ 0 _ rfl
 have s1 := HM.out.se.cell_ 1 _ rfl
 have s3 := HM.out.se.cell_ 3 _ rfl
 have s4 := HM.out.se.cell_ 4 _ rfl
 have r0 := HM.out.wo.cell_ 0 _ rfl
 have r1 := HM.out.wo.cell_ 1 _ rfl
 have t0 := HM.out.st.cell_ 0 _ rfl
 have fs := HM.out.se.frozen
 go_upto_region 65 with fail
 have HM1 := Lib.hid ((((HM.out.setS rfl 1 (.slice A3 t.sav.length z3) rfl).setS rfl 0 (.int .i64 0) rfl).setS rfl 3 (.slice none 0 0) rfl).setS rfl 4 (.slice none 0 0) rfl)
 clear s0 s1 s3 s4 r0 r1 t0 fs HM
 generalize World.setCell _ _ _ = w7 at HM1 ⊢
 have r0 := HM1.out.wo.cell_ 0 _ rfl
 have r1 := HM1.out.wo.cell_ 1 _ rfl
 have s0 := HM1.out.se.cell_ 0 _ rfl
 have s1 := HM1.out.se.cell_ 1 _ rfl
 have s2 := HM1.out.se.cell_ 2 _ rfl
 have s3 := HM1.out.se.cell_ 3 _ rfl
 have s4 := HM1.out.se.cell_ 4 _ rfl
 obtain ⟨_, _, _, _, _, c0, c1, c2, c3, c4, fr⟩ := HM1.out.cells5 HN.out HI.out
 have fr0 := fr (i * 5)
 have ST := Lib.hid (HS.out.at_ HM1.out.bel)
 go_upto_region 66 with fail
 obtain ⟨cs', dn⟩ := HM1.out.put5 rfl HN.out (i := i) (by rw [HN.out]; exact HI.out) (s' := ⟨0, t.sav, t.pre, [], []⟩) ST.out.p3 ST.out.p2 (OPL.nil_ _ _) (OPL.nil_ _ _) ⟨by simp, by simp⟩
 clear r0 r1 s0 s1 s2 s3 s4 c0 c1 c2 c3 c4 fr fr0 ST
 have DN := Lib.hid dn
 clear dn
 generalize World.setCell _ _ _ = w9 at DN ⊢
 refine region_segs [2, 3] (by kernel_rfl) ?_
 have DN := Lib.hid (DN.out.keep (Below.refl _ _).drew)
 generalize w9.drew = w9 at DN ⊢
 have r0 := DN.out.wo.cell_ 0 _ rfl
 have r1 := DN.out.wo.cell_ 1 _ rfl
 have k0 := DN.out.ok.cell_ 0 _ rfl
 have k1 := DN.out.ok.cell_ 1 _ rfl
 have k2 := DN.out.ok.cell_ 2 _ rfl
 have u0 := DN.out.rw_.cell_ 0 _ rfl
 have u1 := DN.out.rw_.cell_ 1 _ rfl
 have v0 := DN.out.ra.cell_ 0 _ rfl
 have v1 := DN.out.ra.cell_ 1 _ rfl
 have v2 := DN.out.ra.cell_ 2 _ rfl
 have ff := DN.out.rw_.frozen
 have fg := DN.out.ra.frozen
 refine anyB_seg [0] 3 rfl (by kernel_rfl) (by kernel_rfl) (by kernel_rfl) (fun _ _ d _ _ h => by cases d <;> exact h) ?_
 simp only [pickOps, List.getElem?_toArray, List.getElem?_cons_zero]
 go_wp2_with fail
 refine ⟨rfl, by rfl, ?_⟩
 obtain ⟨E1, E2, E3, E4, E5⟩ := DN.out.toQ.ends rfl (.slice Ar W.rows.length cr) (.slice (some ⟨g, 0, none⟩) n cap) (.int .i64 1) (.string ⟨#[]⟩) (.int .i64 0)
 have q0 := E4.cell_ 0 _ rfl
 have q1 := E4.cell_ 1 _ rfl
 have p0 := E5.cell_ 0 _ rfl
 have p1 := E5.cell_ 1 _ rfl
 have p2 := E5.cell_ 2 _ rfl
 have FIN := Lib.hid (And.intro E1 (And.intro E2 E3))
 clear E1 E2 E3 E4 E5
 refine anyB_two (i := 1) (j := 2) (by kernel_rfl) rfl rfl (fun K hK => ?_) (fun K hK => ?_)
 ·go_simp
  refine hK.out _ _ (fun _ => (Below.refl _ _)) ?_
  clear hK K
  refine anyB_one (i := 2) (by kernel_rfl) rfl (fun K hK => ?_)
  go_simp
  refine hK.out _ _ (fun h => absurd (by decide) h) ?_
  clear hK K
  refine anyB_one (i := 3) (by kernel_rfl) rfl (fun K hK => ?_)
  go_simp
  refine hK.out _ _ (fun h => absurd (by decide) h) ?_
  clear hK K
  refine anyB_done (by kernel_rfl) ?_ _
  clear u0 u1 v0 v1 v2 ff fg r0 r1 k0 k1 k2
  generalize World.setCell _ _ _ = w10 at FIN q0 q1 p0 p1 p2 ⊢
  go_wp2_with fail
  refine bodyPost_ret (v := .tuple #[.agg #[.slice Ar W.rows.length cr, .slice (some ⟨g, 0, none⟩) n cap], .agg #[.int .i64 1, .string ⟨#[]⟩, .int .i64 0]]) ?_ rfl ⟨_, cs', by rw [← HR.out]; rfl, by rw [← HR.out]; exact FIN.out.2.1, by rw [← HR.out]; exact FIN.out.2.2, FIN.out.1⟩
  simp [results, Tryd.results77, go_sem, q0, q1, p0, p1, p2]
 ·go_simp
  refine hK.out _ _ (fun h => absurd (by decide) h) ?_
  clear hK K
  refine anyB_seg [1] 1 rfl (by kernel_rfl) (by kernel_rfl) (by kernel_rfl) (fun _ _ d _ _ h => by cases d <;> exact h) ?_
  simp only [pickOps, List.getElem?_toArray, List.getElem?_cons_zero, List.getElem?_cons_succ]
  go_wp2_with fail
  refine ⟨rfl, by rfl, ?_⟩
  refine anyB_one (i := 3) (by kernel_rfl) rfl (fun K hK => ?_)
  go_simp
  refine hK.out _ _ (fun h => absurd (by decide) h) ?_
  clear hK K
  refine anyB_done (by kernel_rfl) ?_ _
  clear u0 u1 v0 v1 v2 ff fg r0 r1 k0 k1 k2
  generalize World.setCell _ _ _ = w10 at FIN q0 q1 p0 p1 p2 ⊢
  go_wp2_with fail
  refine bodyPost_ret (v := .tuple #[.agg #[.slice Ar W.rows.length cr, .slice (some ⟨g, 0, none⟩) n cap], .agg #[.int .i64 1, .string ⟨#[]⟩, .int .i64 0]]) ?_ rfl ⟨_, cs', by rw [← HR.out]; rfl, by rw [← HR.out]; exact FIN.out.2.1, by rw [← HR.out]; exact FIN.out.2.2, FIN.out.1⟩
  simp [results, Tryd.results77, go_sem, q0, q1, p0, p1, p2]
set_option maxHeartbeats 8000000 in
set_option maxRecDepth 100000 in
theorem refdid_back2 (w : World) (B : Nat) (r : Value) (g cap n : Nat) (W : Wo) (cs : List Value) (i : Nat) (key val : ByteArray) (hB : B ≤ w.heap.size) (hn : W.ses.length = n) (hr : OPL w B r W.rows) (hs : OSL w B (.slice (some ⟨g, 0, none⟩) n cap) W.ses cs) (hi : i < n) (hs0 : (W.se i).st = 2) :
  Calls Tryd.prog 77 #[.agg #[r, .slice (some ⟨g, 0, none⟩) n cap], .int .i64 (i : Nat), .agg #[.int .i64 3, .string key, .string val]] w (DidR w B g cap n ((W.put i ⟨0, (W.se i).sav, (W.se i).pre, [], []⟩, okA))) := by
 obtain ⟨Ar, cr, A1, z1, A2, z2, A3, z3, A4, z4, rfl, hse, hpre⟩ := did_pre hB hn hr hs hi
 have HP := Lib.hid (hpre ⟨3, key, val⟩)
 have g1 : (i : Int) < (n : Int) := by omega
 have g2 : (0 : Int) ≤ (i : Int) := by omega
 have HN := Lib.hid hn
 have HI := Lib.hid hi
 obtain ⟨R, hR⟩ : ∃ R, (W.put i ⟨0, (W.se i).sav, (W.se i).pre, [], []⟩, okA) = R := ⟨_, rfl⟩
 rw [hR]
 obtain ⟨t, ht⟩ : ∃ t, W.se i = t := ⟨_, rfl⟩
 rw [ht] at hse HP hR hs0
 have HS := Lib.hid hse
 have HR := Lib.hid hR
 clear hpre hse ht hR hn hi hr hs hB
 go_enter Tryd.func77, Tryd.ntmps77
 go_upto_region 1 with fail
 generalize hw4 : (((World.alloc _ _).alloc _).alloc _).alloc _ = w4
 obtain ⟨hz4, f1, y0, y1, y2, y3, y4, hm⟩ := HP.out w4 hw4
 rw [hs0] at y0 hm
 have HM := Lib.hid hm
 clear hw4 hm HP
 go_upto_region 3 with fail
 clear f1 y0 y1 y2 y3 y4
 generalize (World.alloc _ _).alloc _ = w6 at HM ⊢
 have s0 := HM.out.se.cell_ 0 _ rfl
 have s1 := HM.out.se.cell_ 1 _ rfl
 have s3 := HM.out.se.cell_ 3 _ rfl
 have s4 := HM.out.se.cell_ 4 _ rfl
 have r0 := HM.out.wo.cell_ 0 _ rfl
 have r1 := HM.out.wo.cell_ 1 _ rfl
 have t0 := HM.out.st.cell_ 0 _ rfl
 have fs := HM.out.se.frozen
 go_upto_region 65 with fail
 have HM1 := Lib.hid ((((HM.out.setS rfl 1 (.slice A3 t.sav.length z3) rfl).setS rfl 0 (.int .i64 0) rfl).setS rfl 3 (.slice none 0 0) rfl).setS rfl 4 (.slice none 0 0) rfl)
 clear s0 s1 s3 s4 r0 r1 t0 fs HM
 generalize World.setCell _ _ _ = w7 at HM1 ⊢
 have r0 := HM1.out.wo.cell_ 0 _ rfl
 have r1 := HM1.out.wo.cell_ 1 _ rfl
 have s0 := HM1.out.se.cell_ 0 _ rfl
 have s1 := HM1.out.se.cell_ 1 _ rfl
 have s2 := HM1.out.se.cell_ 2 _ rfl
 have s3 := HM1.out.se.cell_ 3 _ rfl
 have s4 := HM1.out.se.cell_ 4 _ rfl
 obtain ⟨_, _, _, _, _, c0, c1, c2, c3, c4, fr⟩ := HM1.out.cells5 HN.out HI.out
 have fr0 := fr (i * 5)
 have ST := Lib.hid (HS.out.at_ HM1.out.bel)
 go_upto_region 66 with fail
 obtain ⟨cs', dn⟩ := HM1.out.put5 rfl HN.out (i := i) (by rw [HN.out]; exact HI.out) (s' := ⟨0, t.sav, t.pre, [], []⟩) ST.out.p3 ST.out.p2 (OPL.nil_ _ _) (OPL.nil_ _ _) ⟨by simp, by simp⟩
 clear r0 r1 s0 s1 s2 s3 s4 c0 c1 c2 c3 c4 fr fr0 ST
 have DN := Lib.hid dn
 clear dn
 generalize World.setCell _ _ _ = w9 at DN ⊢
 refine region_segs [2, 3] (by kernel_rfl) ?_
 have DN := Lib.hid (DN.out.keep (Below.refl _ _).drew)
 generalize w9.drew = w9 at DN ⊢
 have r0 := DN.out.wo.cell_ 0 _ rfl
 have r1 := DN.out.wo.cell_ 1 _ rfl
 have k0 := DN.out.ok.cell_ 0 _ rfl
 have k1 := DN.out.ok.cell_ 1 _ rfl
 have k2 := DN.out.ok.cell_ 2 _ rfl
 have u0 := DN.out.rw_.cell_ 0 _ rfl
 have u1 := DN.out.rw_.cell_ 1 _ rfl
 have v0 := DN.out.ra.cell_ 0 _ rfl
 have v1 := DN.out.ra.cell_ 1 _ rfl
 have v2 := DN.out.ra.cell_ 2 _ rfl
 have ff := DN.out.rw_.frozen
 have fg := DN.out.ra.frozen
 refine anyB_seg [0] 3 rfl (by kernel_rfl) (by kernel_rfl) (by kernel_rfl) (fun _ _ d _ _ h => by cases d <;> exact h) ?_
 simp only [pickOps, List.getElem?_toArray, List.getElem?_cons_zero]
 go_wp2_with fail
 refine ⟨rfl, by rfl, ?_⟩
 obtain ⟨E1, E2, E3, E4, E5⟩ := DN.out.toQ.ends rfl (.slice Ar W.rows.length cr) (.slice (some ⟨g, 0, none⟩) n cap) (.int .i64 1) (.string ⟨#[]⟩) (.int .i64 0)
 have q0 := E4.cell_ 0 _ rfl
 have q1 := E4.cell_ 1 _ rfl
 have p0 := E5.cell_ 0 _ rfl
 have p1 := E5.cell_ 1 _ rfl
 have p2 := E5.cell_ 2 _ rfl
 have FIN := Lib.hid (And.intro E1 (And.intro E2 E3))
 clear E1 E2 E3 E4 E5
 refine anyB_two (i := 1) (j := 2) (by kernel_rfl) rfl rfl (fun K hK => ?_) (fun K hK => ?_)
 ·go_simp
  refine hK.out _ _ (fun _ => (Below.refl _ _)) ?_
  clear hK K
  refine anyB_one (i := 2) (by kernel_rfl) rfl (fun K hK => ?_)
  go_simp
  refine hK.out _ _ (fun h => absurd (by decide) h) ?_
  clear hK K
  refine anyB_one (i := 3) (by kernel_rfl) rfl (fun K hK => ?_)
  go_simp
  refine hK.out _ _ (fun h => absurd (by decide) h) ?_
  clear hK K
  refine anyB_done (by kernel_rfl) ?_ _
  clear u0 u1 v0 v1 v2 ff fg r0 r1 k0 k1 k2
  generalize World.setCell _ _ _ = w10 at FIN q0 q1 p0 p1 p2 ⊢
  go_wp2_with fail
  refine bodyPost_ret (v := .tuple #[.agg #[.slice Ar W.rows.length cr, .slice (some ⟨g, 0, none⟩) n cap], .agg #[.int .i64 1, .string ⟨#[]⟩, .int .i64 0]]) ?_ rfl ⟨_, cs', by rw [← HR.out]; rfl, by rw [← HR.out]; exact FIN.out.2.1, by rw [← HR.out]; exact FIN.out.2.2, FIN.out.1⟩
  simp [results, Tryd.results77, go_sem, q0, q1, p0, p1, p2]
 ·go_simp
  refine hK.out _ _ (fun h => absurd (by decide) h) ?_
  clear hK K
  refine anyB_seg [1] 1 rfl (by kernel_rfl) (by kernel_rfl) (by kernel_rfl) (fun _ _ d _ _ h => by cases d <;> exact h) ?_
  simp only [pickOps, List.getElem?_toArray, List.getElem?_cons_zero, List.getElem?_cons_succ]
  go_wp2_with fail
  refine ⟨rfl, by rfl, ?_⟩
  refine anyB_one (i := 3) (by kernel_rfl) rfl (fun K hK => ?_)
  go_simp
  refine hK.out _ _ (fun h => absurd (by decide) h) ?_
  clear hK K
  refine anyB_done (by kernel_rfl) ?_ _
  clear u0 u1 v0 v1 v2 ff fg r0 r1 k0 k1 k2
  generalize World.setCell _ _ _ = w10 at FIN q0 q1 p0 p1 p2 ⊢
  go_wp2_with fail
  refine bodyPost_ret (v := .tuple #[.agg #[.slice Ar W.rows.length cr, .slice (some ⟨g, 0, none⟩) n cap], .agg #[.int .i64 1, .string ⟨#[]⟩, .int .i64 0]]) ?_ rfl ⟨_, cs', by rw [← HR.out]; rfl, by rw [← HR.out]; exact FIN.out.2.1, by rw [← HR.out]; exact FIN.out.2.2, FIN.out.1⟩
  simp [results, Tryd.results77, go_sem, q0, q1, p0, p1, p2]
set_option maxHeartbeats 8000000 in
set_option maxRecDepth 100000 in
theorem refdid_commit (w : World) (B : Nat) (r : Value) (g cap n : Nat) (W : Wo) (cs : List Value) (i : Nat) (key val : ByteArray) (hB : B ≤ w.heap.size) (hn : W.ses.length = n) (hr : OPL w B r W.rows) (hs : OSL w B (.slice (some ⟨g, 0, none⟩) n cap) W.ses cs) (hi : i < n) (hs0 : (W.se i).st = 1) (hl : W.rows.length ≤ 1000) (hw : (W.se i).wri.length ≤ 1000) :
  Calls Tryd.prog 77 #[.agg #[r, .slice (some ⟨g, 0, none⟩) n cap], .int .i64 (i : Nat), .agg #[.int .i64 2, .string key, .string val]] w (DidR w B g cap n (((⟨plusAll W.rows (W.se i).wri, W.ses.set i ⟨0, (W.se i).set, (W.se i).pre, [], []⟩⟩, okA) : Wo × An))) := by
 obtain ⟨Ar, cr, A1, z1, A2, z2, A3, z3, A4, z4, rfl, hse, hpre⟩ := did_pre hB hn hr hs hi
 have HP := Lib.hid (hpre ⟨2, key, val⟩)
 have g1 : (i : Int) < (n : Int) := by omega
 have g2 : (0 : Int) ≤ (i : Int) := by omega
 have HN := Lib.hid hn
 have HI := Lib.hid hi
 obtain ⟨R, hR⟩ : ∃ R, ((⟨plusAll W.rows (W.se i).wri, W.ses.set i ⟨0, (W.se i).set, (W.se i).pre, [], []⟩⟩, okA) : Wo × An) = R := ⟨_, rfl⟩
 rw [hR]
 obtain ⟨t, ht⟩ : ∃ t, W.se i = t := ⟨_, rfl⟩
 rw [ht] at hse HP hR hs0 hw
 have HL := Lib.hid hl
 obtain ⟨nw, hnw⟩ : ∃ nw, t.wri.length = nw := ⟨_, rfl⟩
 rw [hnw] at hw hse HP
 have HNW := Lib.hid hnw
 clear hnw
 have HS := Lib.hid hse
 have HR := Lib.hid hR
 clear hpre hse ht hR hn hi hr hs hB
 go_enter Tryd.func77, Tryd.ntmps77
 go_upto_region 1 with fail
 generalize hw4 : (((World.alloc _ _).alloc _).alloc _).alloc _ = w4
 obtain ⟨hz4, f1, y0, y1, y2, y3, y4, hm⟩ := HP.out w4 hw4
 rw [hs0] at y0 hm
 have HM := Lib.hid hm
 clear hw4 hm HP
 go_upto_region 3 with fail
 clear f1 y0 y1 y2 y3 y4
 generalize (World.alloc _ _).alloc _ = w6 at HM ⊢
 have s0 := HM.out.se.cell_ 0 _ rfl
 have s4 := HM.out.se.cell_ 4 _ rfl
 have r0 := HM.out.wo.cell_ 0 _ rfl
 have r1 := HM.out.wo.cell_ 1 _ rfl
 have t0 := HM.out.st.cell_ 0 _ rfl
 have fs := HM.out.se.frozen
 go_upto_region 18 with fail
 clear s0 s4 r0 r1 t0 fs
 go_loopw [11] (fun k wx => ∃ (m : Nat) (Am : Option Addr) (cm : Nat), m ≤ nw ∧ k = .int .i64 m ∧ (plusAll W.rows (t.wri.take m)).length ≤ 1000 + m ∧ DidM w wx w.heap.size B g cap n (.slice Am (plusAll W.rows (t.wri.take m)).length cm) (plusAll W.rows (t.wri.take m)) W.ses cs ⟨2, key, val⟩ (.int .i64 1) (.slice A1 t.set.length z1) (.slice A2 t.pre.length z2) (.slice A3 t.sav.length z3) (.slice A4 nw z4)) (fun k _ => nw - (intOf k).toNat)
 case atStart => exact ⟨0, Ar, cr, Nat.zero_le _, rfl, HL.out, HM.out⟩
 case round =>
  obtain ⟨m, Am, cm, hm, rfl, hlen, HM1⟩ := hrel
  have HM1 := Lib.hid HM1
  by_cases hlt : m < nw
  ·have hml : m < t.wri.length := by rw [HNW.out]; exact hlt
   have g3 : (m : Int) < (nw : Int) := by omega
   have g4 : (0 : Int) ≤ (m : Int) := by omega
   have ST := HS.out.at_ HM1.out.bel
   obtain ⟨A4', z4', e4, hz4, r4, f4⟩ := ST.p4.pl
   injection e4 with e4 e5 e6
   subst e4 e6
   obtain ⟨ad4, hA4, _, y0, y1⟩ := pair_at r4 hml
   subst hA4
   have hks := f4.2 t.wri[m] (List.getElem_mem _)
   have hat : plusAll W.rows (t.wri.take (m + 1)) = plusP (plusAll W.rows (t.wri.take m)) t.wri[m].k t.wri[m].v := by
    unfold plusAll
    rw [List.take_succ_eq_append_getElem hml, List.foldl_append]
    rfl
   obtain ⟨p, hp⟩ : ∃ p, t.wri[m] = p := ⟨_, rfl⟩
   rw [hp] at y0 y1 hks hat
   obtain ⟨pk, pv⟩ := p
   simp only at y0 y1 hks hat
   have hpl := plusP_len1 (plusAll W.rows (t.wri.take m)) pk pv
   have HF := Lib.hid (show Fits (plusAll W.rows (t.wri.take (m + 1))) by
    rw [hat]
    refine ⟨by omega, fun p hp => ?_⟩
    rcases plF_in pk pv _ p hp with rfl | hp
    ·exact hks
    ·exact HM1.out.rows.fits.2 p hp)
   have HLN := Lib.hid (show (plusAll W.rows (t.wri.take (m + 1))).length ≤ 1000 + (m + 1) by rw [hat]; omega)
   have HAT := Lib.hid hat
   have HPL := Lib.hid (fun (u : World) (hb : Below wr.heap.size wr u) => (HM1.out.keep hb).rows.pl)
   obtain ⟨OM, hOM⟩ : ∃ OM, plusAll W.rows (t.wri.take m) = OM := ⟨_, rfl⟩
   rw [hOM] at HM1 HAT HPL hlen
   clear hp hat hks hpl r4 f4 ST hml e5 hz4 hOM
   have r0 := HM1.out.wo.cell_ 0 _ rfl
   have s4 := HM1.out.se.cell_ 4 _ rfl
   go_upto_region 20 with fail
   refine region_segs [16] (by kernel_rfl) ?_
   have HM2 := Lib.hid (HM1.out.keep (Below.refl _ _).drew)
   have y0 : wr.drew.cell? _ = _ := y0
   have y1 : wr.drew.cell? _ = _ := y1
   clear r0 s4
   have r0 := HM2.out.wo.cell_ 0 _ rfl
   have s4 := HM2.out.se.cell_ 4 _ rfl
   refine anyB_seg [0, 1, 2, 3, 4, 5, 6, 7, 8, 9, 10, 11, 12, 13] 3 rfl (by kernel_rfl) (by kernel_rfl) (by kernel_rfl) (fun _ _ d _ _ h => by cases d <;> exact h) ?_
   simp only [pickOps, List.getElem?_toArray, List.getElem?_cons_zero, List.getElem?_cons_succ]
   go_wp2_with fail
   refine ⟨rfl, by rfl, ?_⟩
   have hb := (Below.refl wr.heap.size wr).drew
   generalize wr.drew = w7 at HM2 y0 y1 r0 s4 hb ⊢
   clear y0 y1 r0 s4
   refine anyB_one (i := 14) (by kernel_rfl) rfl (fun K hK => ?_)
   go_simp
   refine (refplus_any w7 _ OM pk pv (HPL.out _ hb)).mono ?_
   rintro e w8 ⟨a, rfl, oa, b⟩
   refine hK.out _ _ (fun _ => b) ?_
   clear hK K
   have HM3 := Lib.hid (HM2.out.keep b)
   have OA := Lib.hid (show OPL w8 B a (plusAll W.rows (t.wri.take (m + 1))) by
    have h := (OPL.mk (by rw [← HAT.out] at oa; exact oa) HF.out : OPL w8 w7.heap.size a (plusAll W.rows (t.wri.take (m + 1)))).base (B' := B) (Nat.le_trans HM2.out.hB HM2.out.bel.size)
    exact h)
   clear oa b hb HM1 HM2 HPL HAT
   obtain ⟨F, k5, rfl⟩ := OA.out.form
   have r0 := HM3.out.wo.cell_ 0 _ rfl
   have fs := HM3.out.wo.frozen
   refine anyB_seg [15] 1 rfl (by kernel_rfl) (by kernel_rfl) (by kernel_rfl) (fun _ _ d _ _ h => by cases d <;> exact h) ?_
   simp only [pickOps, List.getElem?_toArray, List.getElem?_cons_zero, List.getElem?_cons_succ]
   go_wp2_with fail
   refine ⟨rfl, by rfl, ?_⟩
   refine anyB_one (i := 16) (by kernel_rfl) rfl (fun K hK => ?_)
   go_simp
   refine hK.out _ _ (fun h => absurd (by decide) h) ?_
   clear hK K
   refine anyB_done (by kernel_rfl) ?_ _
   have HM4 := Lib.hid (HM3.out.setR rfl OA.out)
   clear r0 fs HM3 OA
   generalize World.setCell _ _ _ = w9 at HM4 ⊢
   go_wp2_with fail
   go_roundw
   case rel => exact ⟨m + 1, F, k5, by omega, by go_num, HLN.out, HM4.out⟩
   case measure => simp [intOf]; omega
  ·obtain rfl : m = nw := by omega
   have htk : t.wri.take m = t.wri := List.take_of_length_le (by rw [HNW.out]; exact Nat.le_refl _)
   rw [htk] at HM1 hlen
   have g3 : (m : Int) ≤ (m : Int) := Int.le_refl _
   obtain ⟨OM, hOM⟩ : ∃ OM, plusAll W.rows t.wri = OM := ⟨_, rfl⟩
   rw [hOM] at HM1 HR hlen
   clear htk hOM HM
   have s0 := HM1.out.se.cell_ 0 _ rfl
   have s3 := HM1.out.se.cell_ 3 _ rfl
   have s4 := HM1.out.se.cell_ 4 _ rfl
   have fs := HM1.out.se.frozen
   go_upto_region 65 with fail
   have HM5 := Lib.hid (((HM1.out.setS rfl 0 (.int .i64 0) rfl).setS rfl 3 (.slice none 0 0) rfl).setS rfl 4 (.slice none 0 0) rfl)
   clear s0 s3 s4 fs HM1
   generalize World.setCell _ _ _ = w7 at HM5 ⊢
   have r0 := HM5.out.wo.cell_ 0 _ rfl
   have r1 := HM5.out.wo.cell_ 1 _ rfl
   have s0 := HM5.out.se.cell_ 0 _ rfl
   have s1 := HM5.out.se.cell_ 1 _ rfl
   have s2 := HM5.out.se.cell_ 2 _ rfl
   have s3 := HM5.out.se.cell_ 3 _ rfl
   have s4 := HM5.out.se.cell_ 4 _ rfl
   obtain ⟨_, _, _, _, _, c0, c1, c2, c3, c4, fr⟩ := HM5.out.cells5 HN.out HI.out
   have fr0 := fr (i * 5)
   have ST := Lib.hid (HS.out.at_ HM5.out.bel)
   go_upto_region 66 with fail
   obtain ⟨cs', dn⟩ := HM5.out.put5 rfl HN.out (i := i) (by rw [HN.out]; exact HI.out) (s' := ⟨0, t.set, t.pre, [], []⟩) ST.out.p1 ST.out.p2 (OPL.nil_ _ _) (OPL.nil_ _ _) ⟨by simp, by simp⟩
   clear r0 r1 s0 s1 s2 s3 s4 c0 c1 c2 c3 c4 fr fr0 ST
   have DN := Lib.hid dn
   clear dn
   generalize World.setCell _ _ _ = w9 at DN ⊢
   refine region_segs [2, 3] (by kernel_rfl) ?_
   have DN := Lib.hid (DN.out.keep (Below.refl _ _).drew)
   generalize w9.drew = w9 at DN ⊢
   have r0 := DN.out.wo.cell_ 0 _ rfl
   have r1 := DN.out.wo.cell_ 1 _ rfl
   have k0 := DN.out.ok.cell_ 0 _ rfl
   have k1 := DN.out.ok.cell_ 1 _ rfl
   have k2 := DN.out.ok.cell_ 2 _ rfl
   have u0 := DN.out.rw_.cell_ 0 _ rfl
   have u1 := DN.out.rw_.cell_ 1 _ rfl
   have v0 := DN.out.ra.cell_ 0 _ rfl
   have v1 := DN.out.ra.cell_ 1 _ rfl
   have v2 := DN.out.ra.cell_ 2 _ rfl
   have ff := DN.out.rw_.frozen
   have fg := DN.out.ra.frozen
   refine anyB_seg [0] 3 rfl (by kernel_rfl) (by kernel_rfl) (by kernel_rfl) (fun _ _ d _ _ h => by cases d <;> exact h) ?_
   simp only [pickOps, List.getElem?_toArray, List.getElem?_cons_zero]
   go_wp2_with fail
   refine ⟨rfl, by rfl, ?_⟩
   obtain ⟨E1, E2, E3, E4, E5⟩ := DN.out.toQ.ends rfl (.slice Am OM.length cm) (.slice (some ⟨g, 0, none⟩) n cap) (.int .i64 1) (.string ⟨#[]⟩) (.int .i64 0)
   have q0 := E4.cell_ 0 _ rfl
   have q1 := E4.cell_ 1 _ rfl
   have p0 := E5.cell_ 0 _ rfl
   have p1 := E5.cell_ 1 _ rfl
   have p2 := E5.cell_ 2 _ rfl
   have FIN := Lib.hid (And.intro E1 (And.intro E2 E3))
   clear E1 E2 E3 E4 E5
   refine anyB_two (i := 1) (j := 2) (by kernel_rfl) rfl rfl (fun K hK => ?_) (fun K hK => ?_)
   ·go_simp
    refine hK.out _ _ (fun _ => (Below.refl _ _)) ?_
    clear hK K
    refine anyB_one (i := 2) (by kernel_rfl) rfl (fun K hK => ?_)
    go_simp
    refine hK.out _ _ (fun h => absurd (by decide) h) ?_
    clear hK K
    refine anyB_one (i := 3) (by kernel_rfl) rfl (fun K hK => ?_)
    go_simp
    refine hK.out _ _ (fun h => absurd (by decide) h) ?_
    clear hK K
    refine anyB_done (by kernel_rfl) ?_ _
    clear u0 u1 v0 v1 v2 ff fg r0 r1 k0 k1 k2
    generalize World.setCell _ _ _ = w10 at FIN q0 q1 p0 p1 p2 ⊢
    go_wp2_with fail
    refine bodyPost_ret (v := .tuple #[.agg #[.slice Am OM.length cm, .slice (some ⟨g, 0, none⟩) n cap], .agg #[.int .i64 1, .string ⟨#[]⟩, .int .i64 0]]) ?_ rfl ⟨_, cs', by rw [← HR.out]; rfl, by rw [← HR.out]; exact FIN.out.2.1, by rw [← HR.out]; exact FIN.out.2.2, FIN.out.1⟩
    simp [results, Tryd.results77, go_sem, q0, q1, p0, p1, p2]
   ·go_simp
    refine hK.out _ _ (fun h => absurd (by decide) h) ?_
    clear hK K
    refine anyB_seg [1] 1 rfl (by kernel_rfl) (by kernel_rfl) (by kernel_rfl) (fun _ _ d _ _ h => by cases d <;> exact h) ?_
    simp only [pickOps, List.getElem?_toArray, List.getElem?_cons_zero, List.getElem?_cons_succ]
    go_wp2_with fail
    refine ⟨rfl, by rfl, ?_⟩
    refine anyB_one (i := 3) (by kernel_rfl) rfl (fun K hK => ?_)
    go_simp
    refine hK.out _ _ (fun h => absurd (by decide) h) ?_
    clear hK K
    refine anyB_done (by kernel_rfl) ?_ _
    clear u0 u1 v0 v1 v2 ff fg r0 r1 k0 k1 k2
    generalize World.setCell _ _ _ = w10 at FIN q0 q1 p0 p1 p2 ⊢
    go_wp2_with fail
    refine bodyPost_ret (v := .tuple #[.agg #[.slice Am OM.length cm, .slice (some ⟨g, 0, none⟩) n cap], .agg #[.int .i64 1, .string ⟨#[]⟩, .int .i64 0]]) ?_ rfl ⟨_, cs', by rw [← HR.out]; rfl, by rw [← HR.out]; exact FIN.out.2.1, by rw [← HR.out]; exact FIN.out.2.2, FIN.out.1⟩
    simp [results, Tryd.results77, go_sem, q0, q1, p0, p1, p2]
end Go.Proofs.YtjbnfigpflambabDoor
