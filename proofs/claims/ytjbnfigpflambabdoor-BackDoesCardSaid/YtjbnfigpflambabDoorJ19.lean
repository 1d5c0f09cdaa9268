/- The reference's did at Read; an Exec of what is not prepared. The reference's did at Put: held, full. The reference's did at Put, in a transaction. -/
import Derived.Test.YtjbnfigpflambabDoorJ14
import Derived.Test.YtjbnfigpflambabDoorJ16
/- The reference's did at Read; an Exec of what is not prepared. -/
namespace Go.Proofs.YtjbnfigpflambabDoor
open Go.ChangeShapes Go.WideShapes Go.ChangeAt Go.RowKit
set_option maxHeartbeats 8000000 in
set_option maxRecDepth 100000 in
theorem refdid_read (w : World) (B : Nat) (r : Value) (g cap n : Nat) (W : Wo) (cs : List Value) (i : Nat) (key val : ByteArray) (hB : B ≤ w.heap.size) (hn : W.ses.length = n) (hr : OPL w B r W.rows) (hs : OSL w B (.slice (some ⟨g, 0, none⟩) n cap) W.ses cs) (hi : i < n) (hs0 : (W.se i).st ≠ 2) :
  Calls Tryd.prog 77 #[.agg #[r, .slice (some ⟨g, 0, none⟩) n cap], .int .i64 (i : Nat), .agg #[.int .i64 7, .string key, .string val]] w (DidR w B g cap n (readW W i key)) := by
 obtain ⟨Ar, cr, A1, z1, A2, z2, A3, z3, A4, z4, rfl, hse, hpre⟩ := did_pre hB hn hr hs hi
 have HP := Lib.hid (hpre ⟨7, key, val⟩)
 have g1 : (i : Int) < (n : Int) := by omega
 have g2 : (0 : Int) ≤ (i : Int) := by omega
 have HN := Lib.hid hn
 have HI := Lib.hid hi
 obtain ⟨R, hR⟩ : ∃ R, readW W i key = R := ⟨_, rfl⟩
 rw [hR]
 obtain ⟨t, ht⟩ : ∃ t, W.se i = t := ⟨_, rfl⟩
 have hR : (W, foundA (match atP (W.se i).wri key with | some v => some v | none => atP W.rows key)) = R := hR
 rw [ht] at hse HP hR hs0
 have HS := Lib.hid hse
 have HR := Lib.hid hR
 clear hpre hse ht hR hn hi hr hs hB
 go_enter Tryd.func77, Tryd.ntmps77
 go_upto_region 1 with fail
 generalize hw4 : (((World.alloc _ _).alloc _).alloc _).alloc _ = w4
 obtain ⟨hz4, f1, y0, y1, y2, y3, y4, hm⟩ := HP.out w4 hw4
 have HM := Lib.hid hm
 clear hw4 hm HP
 go_upto_region 3 with fail
 clear f1 y0 y1 y2 y3 y4
 generalize (World.alloc _ _).alloc _ = w6 at HM ⊢
 have e2 : (t.st == 2) = false := by simpa using hs0
 have e2' : ¬ t.st = 2 := hs0
 have s0 := HM.out.se.cell_ 0 _ rfl
 have s4 := HM.out.se.cell_ 4 _ rfl
 have r0 := HM.out.wo.cell_ 0 _ rfl
 have r1 := HM.out.wo.cell_ 1 _ rfl
 have t0 := HM.out.st.cell_ 0 _ rfl
 have t1 := HM.out.st.cell_ 1 _ rfl
 go_wp2_with fail
 refine (refat_val w6 _ t.wri key (HS.out.at_ HM.out.bel).p4.pl).mono ?_
 rintro e w7 ⟨rfl, b⟩
 have HM1 := Lib.hid (HM.out.keep b)
 clear s0 s4 r0 r1 t0 t1 b HM
 obtain ⟨a1, ha1⟩ : ∃ a, (atP t.wri key).getD ⟨#[]⟩ = a := ⟨_, rfl⟩
 obtain ⟨b1, hb1⟩ : ∃ b, hasK t.wri key = b := ⟨_, rfl⟩
 rw [ha1, hb1]
 have HA1 := Lib.hid ha1
 have HB1 := Lib.hid hb1
 clear ha1 hb1
 have r0 := HM1.out.wo.cell_ 0 _ rfl
 have r1 := HM1.out.wo.cell_ 1 _ rfl
 have t1 := HM1.out.st.cell_ 1 _ rfl
 cases b1 with
 | true =>
  have HX := Lib.hid (show R = (W, ⟨2, a1, 0⟩) by rw [← HR.out]; exact congrArg (Prod.mk W) (at_here HB1.out HA1.out))
  clear t1 e2 e2'
  go_upto_region 39 with fail
  clear r0 r1
  refine region_segs [4, 5] (by kernel_rfl) ?_
  have DN := Lib.hid (HM1.out.keep (Below.refl _ _).drew)
  generalize w7.drew = w8 at DN ⊢
  have r0 := DN.out.wo.cell_ 0 _ rfl
  have r1 := DN.out.wo.cell_ 1 _ rfl
  refine anyB_seg [0, 1, 2] 3 rfl (by kernel_rfl) (by kernel_rfl) (by kernel_rfl) (fun _ _ d _ _ h => by cases d <;> exact h) ?_
  simp only [pickOps, List.getElem?_toArray, List.getElem?_cons_zero, List.getElem?_cons_succ]
  go_wp2_with fail
  refine ⟨rfl, by rfl, ?_⟩
  clear r0 r1
  have hf := reffound_any w8 a1 true
  simp only [if_true] at hf
  refine anyB_one (i := 3) (by kernel_rfl) rfl (fun K hK => ?_)
  go_simp
  refine hf.mono ?_
  rintro e w9 ⟨rfl, b⟩
  refine hK.out _ _ (fun _ => b) ?_
  clear hK K
  have DN := Lib.hid (DN.out.keep b).toN
  clear b hf
  have u0 := DN.out.rw_.cell_ 0 _ rfl
  have u1 := DN.out.rw_.cell_ 1 _ rfl
  have v0 := DN.out.ra.cell_ 0 _ rfl
  have v1 := DN.out.ra.cell_ 1 _ rfl
  have v2 := DN.out.ra.cell_ 2 _ rfl
  have ff := DN.out.rw_.frozen
  have fg := DN.out.ra.frozen
  obtain ⟨E1, E2, E3, E4, E5⟩ := DN.out.toQ.ends rfl (.slice Ar W.rows.length cr) (.slice (some ⟨g, 0, none⟩) n cap) (.int .i64 2) (.string a1) (.int .i64 0)
  have q0 := E4.cell_ 0 _ rfl
  have q1 := E4.cell_ 1 _ rfl
  have p0 := E5.cell_ 0 _ rfl
  have p1 := E5.cell_ 1 _ rfl
  have p2 := E5.cell_ 2 _ rfl
  have FIN := Lib.hid (And.intro E1 (And.intro E2 E3))
  clear E1 E2 E3 E4 E5
  refine anyB_one (i := 4) (by kernel_rfl) rfl (fun K hK => ?_)
  go_simp
  refine hK.out _ _ (fun h => absurd (by decide) h) ?_
  clear hK K
  refine anyB_one (i := 5) (by kernel_rfl) rfl (fun K hK => ?_)
  go_simp
  refine hK.out _ _ (fun h => absurd (by decide) h) ?_
  clear hK K
  refine anyB_done (by kernel_rfl) ?_ _
  clear u0 u1 v0 v1 v2 ff fg
  generalize World.setCell _ _ _ = w10 at FIN q0 q1 p0 p1 p2 ⊢
  go_wp2_with fail
  refine bodyPost_ret (v := .tuple #[.agg #[.slice Ar W.rows.length cr, .slice (some ⟨g, 0, none⟩) n cap], .agg #[.int .i64 2, .string a1, .int .i64 0]]) ?_ rfl ⟨_, cs, by rw [HX.out]; rfl, by rw [HX.out]; exact FIN.out.2.1, by rw [HX.out]; exact FIN.out.2.2, FIN.out.1⟩
  simp [results, Tryd.results77, go_sem, q0, q1, p0, p1, p2]
 | false =>
  go_wp2_with fail
  refine (refat_val w7 _ W.rows key HM1.out.rows.pl).mono ?_
  rintro e w8 ⟨rfl, b⟩
  have HM2 := Lib.hid (HM1.out.keep b)
  clear r0 r1 t1 b HM1 HA1
  obtain ⟨a2, ha2⟩ : ∃ a, (atP W.rows key).getD ⟨#[]⟩ = a := ⟨_, rfl⟩
  obtain ⟨b2, hb2⟩ : ∃ b, hasK W.rows key = b := ⟨_, rfl⟩
  rw [ha2, hb2]
  have HA2 := Lib.hid ha2
  have HB2 := Lib.hid hb2
  clear ha2 hb2
  cases b2 with
  | true =>
   have HX := Lib.hid (show R = (W, ⟨2, a2, 0⟩) by rw [← HR.out]; exact congrArg (Prod.mk W) (at_there HB1.out HB2.out HA2.out))
   go_upto_region 39 with fail
   refine region_segs [4, 5] (by kernel_rfl) ?_
   have DN := Lib.hid (HM2.out.keep (Below.refl _ _).drew)
   generalize w8.drew = w8 at DN ⊢
   have r0 := DN.out.wo.cell_ 0 _ rfl
   have r1 := DN.out.wo.cell_ 1 _ rfl
   refine anyB_seg [0, 1, 2] 3 rfl (by kernel_rfl) (by kernel_rfl) (by kernel_rfl) (fun _ _ d _ _ h => by cases d <;> exact h) ?_
   simp only [pickOps, List.getElem?_toArray, List.getElem?_cons_zero, List.getElem?_cons_succ]
   go_wp2_with fail
   refine ⟨rfl, by rfl, ?_⟩
   clear r0 r1
   have hf := reffound_any w8 a2 true
   simp only [if_true] at hf
   refine anyB_one (i := 3) (by kernel_rfl) rfl (fun K hK => ?_)
   go_simp
   refine hf.mono ?_
   rintro e w9 ⟨rfl, b⟩
   refine hK.out _ _ (fun _ => b) ?_
   clear hK K
   have DN := Lib.hid (DN.out.keep b).toN
   clear b hf
   have u0 := DN.out.rw_.cell_ 0 _ rfl
   have u1 := DN.out.rw_.cell_ 1 _ rfl
   have v0 := DN.out.ra.cell_ 0 _ rfl
   have v1 := DN.out.ra.cell_ 1 _ rfl
   have v2 := DN.out.ra.cell_ 2 _ rfl
   have ff := DN.out.rw_.frozen
   have fg := DN.out.ra.frozen
   obtain ⟨E1, E2, E3, E4, E5⟩ := DN.out.toQ.ends rfl (.slice Ar W.rows.length cr) (.slice (some ⟨g, 0, none⟩) n cap) (.int .i64 2) (.string a2) (.int .i64 0)
   have q0 := E4.cell_ 0 _ rfl
   have q1 := E4.cell_ 1 _ rfl
   have p0 := E5.cell_ 0 _ rfl
   have p1 := E5.cell_ 1 _ rfl
   have p2 := E5.cell_ 2 _ rfl
   have FIN := Lib.hid (And.intro E1 (And.intro E2 E3))
   clear E1 E2 E3 E4 E5
   refine anyB_one (i := 4) (by kernel_rfl) rfl (fun K hK => ?_)
   go_simp
   refine hK.out _ _ (fun h => absurd (by decide) h) ?_
   clear hK K
   refine anyB_one (i := 5) (by kernel_rfl) rfl (fun K hK => ?_)
   go_simp
   refine hK.out _ _ (fun h => absurd (by decide) h) ?_
   clear hK K
   refine anyB_done (by kernel_rfl) ?_ _
   clear u0 u1 v0 v1 v2 ff fg
   generalize World.setCell _ _ _ = w10 at FIN q0 q1 p0 p1 p2 ⊢
   go_wp2_with fail
   refine bodyPost_ret (v := .tuple #[.agg #[.slice Ar W.rows.length cr, .slice (some ⟨g, 0, none⟩) n cap], .agg #[.int .i64 2, .string a2, .int .i64 0]]) ?_ rfl ⟨_, cs, by rw [HX.out]; rfl, by rw [HX.out]; exact FIN.out.2.1, by rw [HX.out]; exact FIN.out.2.2, FIN.out.1⟩
   simp [results, Tryd.results77, go_sem, q0, q1, p0, p1, p2]
  | false =>
   have HX := Lib.hid (show R = (W, ⟨3, ⟨#[]⟩, 0⟩) by rw [← HR.out]; exact congrArg (Prod.mk W) (at_nowhere HB1.out HB2.out))
   go_upto_region 39 with fail
   refine region_segs [4, 5] (by kernel_rfl) ?_
   have DN := Lib.hid (HM2.out.keep (Below.refl _ _).drew)
   generalize w8.drew = w8 at DN ⊢
   have r0 := DN.out.wo.cell_ 0 _ rfl
   have r1 := DN.out.wo.cell_ 1 _ rfl
   refine anyB_seg [0, 1, 2] 3 rfl (by kernel_rfl) (by kernel_rfl) (by kernel_rfl) (fun _ _ d _ _ h => by cases d <;> exact h) ?_
   simp only [pickOps, List.getElem?_toArray, List.getElem?_cons_zero, List.getElem?_cons_succ]
   go_wp2_with fail
   refine ⟨rfl, by rfl, ?_⟩
   clear r0 r1
   have hf := reffound_any w8 a2 false
   simp only [Bool.false_eq_true, if_false] at hf
   refine anyB_one (i := 3) (by kernel_rfl) rfl (fun K hK => ?_)
   go_simp
   refine hf.mono ?_
   rintro e w9 ⟨rfl, b⟩
   refine hK.out _ _ (fun _ => b) ?_
   clear hK K
   have DN := Lib.hid (DN.out.keep b).toN
   clear b hf
   have u0 := DN.out.rw_.cell_ 0 _ rfl
   have u1 := DN.out.rw_.cell_ 1 _ rfl
   have v0 := DN.out.ra.cell_ 0 _ rfl
   have v1 := DN.out.ra.cell_ 1 _ rfl
   have v2 := DN.out.ra.cell_ 2 _ rfl
   have ff := DN.out.rw_.frozen
   have fg := DN.out.ra.frozen
   obtain ⟨E1, E2, E3, E4, E5⟩ := DN.out.toQ.ends rfl (.slice Ar W.rows.length cr) (.slice (some ⟨g, 0, none⟩) n cap) (.int .i64 3) (.string ⟨#[]⟩) (.int .i64 0)
   have q0 := E4.cell_ 0 _ rfl
   have q1 := E4.cell_ 1 _ rfl
   have p0 := E5.cell_ 0 _ rfl
   have p1 := E5.cell_ 1 _ rfl
   have p2 := E5.cell_ 2 _ rfl
   have FIN := Lib.hid (And.intro E1 (And.intro E2 E3))
   clear E1 E2 E3 E4 E5
   refine anyB_one (i := 4) (by kernel_rfl) rfl (fun K hK => ?_)
   go_simp
   refine hK.out _ _ (fun h => absurd (by decide) h) ?_
   clear hK K
   refine anyB_one (i := 5) (by kernel_rfl) rfl (fun K hK => ?_)
   go_simp
   refine hK.out _ _ (fun h => absurd (by decide) h) ?_
   clear hK K
   refine anyB_done (by kernel_rfl) ?_ _
   clear u0 u1 v0 v1 v2 ff fg
   generalize World.setCell _ _ _ = w10 at FIN q0 q1 p0 p1 p2 ⊢
   go_wp2_with fail
   refine bodyPost_ret (v := .tuple #[.agg #[.slice Ar W.rows.length cr, .slice (some ⟨g, 0, none⟩) n cap], .agg #[.int .i64 3, .string ⟨#[]⟩, .int .i64 0]]) ?_ rfl ⟨_, cs, by rw [HX.out]; rfl, by rw [HX.out]; exact FIN.out.2.1, by rw [HX.out]; exact FIN.out.2.2, FIN.out.1⟩
   simp [results, Tryd.results77, go_sem, q0, q1, p0, p1, p2]
set_option maxHeartbeats 8000000 in
set_option maxRecDepth 100000 in
theorem refdid_notprep (w : World) (B : Nat) (r : Value) (g cap n : Nat) (W : Wo) (cs : List Value) (i : Nat) (key val : ByteArray) (hB : B ≤ w.heap.size) (hn : W.ses.length = n) (hr : OPL w B r W.rows) (hs : OSL w B (.slice (some ⟨g, 0, none⟩) n cap) W.ses cs) (hi : i < n) (hs0 : (W.se i).st ≠ 2) (hc : hasK (W.se i).pre key = false) :
  Calls Tryd.prog 77 #[.agg #[r, .slice (some ⟨g, 0, none⟩) n cap], .int .i64 (i : Nat), .agg #[.int .i64 8, .string key, .string val]] w (DidR w B g cap n ((W, noA tNotPrep))) := by
 obtain ⟨Ar, cr, A1, z1, A2, z2, A3, z3, A4, z4, rfl, hse, hpre⟩ := did_pre hB hn hr hs hi
 have HP := Lib.hid (hpre ⟨8, key, val⟩)
 have g1 : (i : Int) < (n : Int) := by omega
 have g2 : (0 : Int) ≤ (i : Int) := by omega
 have HN := Lib.hid hn
 have HI := Lib.hid hi
 obtain ⟨R, hR⟩ : ∃ R, (W, noA tNotPrep) = R := ⟨_, rfl⟩
 rw [hR]
 obtain ⟨t, ht⟩ : ∃ t, W.se i = t := ⟨_, rfl⟩
 rw [ht] at hse HP hs0 hc
 have HS := Lib.hid hse
 have HR := Lib.hid hR
 clear hpre hse ht hR hn hi hr hs hB
 go_enter Tryd.func77, Tryd.ntmps77
 go_upto_region 1 with fail
 generalize hw4 : (((World.alloc _ _).alloc _).alloc _).alloc _ = w4
 obtain ⟨hz4, f1, y0, y1, y2, y3, y4, hm⟩ := HP.out w4 hw4
 have HM := Lib.hid hm
 clear hw4 hm HP
 go_upto_region 3 with fail
 clear f1 y0 y1 y2 y3 y4
 generalize (World.alloc _ _).alloc _ = w6 at HM ⊢
 have e2 : (t.st == 2) = false := by simpa using hs0
 have e2' : ¬ t.st = 2 := hs0
 have s0 := HM.out.se.cell_ 0 _ rfl
 have s2 := HM.out.se.cell_ 2 _ rfl
 have r0 := HM.out.wo.cell_ 0 _ rfl
 have r1 := HM.out.wo.cell_ 1 _ rfl
 have t0 := HM.out.st.cell_ 0 _ rfl
 have t1 := HM.out.st.cell_ 1 _ rfl
 go_wp2_with fail
 refine (refat_any _ _ t.pre key ((HS.out.at_ HM.out.bel).p2.pl)).mono ?_
 rintro e w7 ⟨xv, rfl, b⟩
 have HM1 := Lib.hid (HM.out.keep b)
 clear s0 s2 r0 r1 t0 t1 b HM
 rw [hc]
 have r0 := HM1.out.wo.cell_ 0 _ rfl
 have r1 := HM1.out.wo.cell_ 1 _ rfl
 go_upto_region 43 with fail
 clear r0 r1
 refine region_segs [2, 3] (by kernel_rfl) ?_
 have DN := Lib.hid (HM1.out.keep (Below.refl _ _).drew)
 generalize w7.drew = w8 at DN ⊢
 have r0 := DN.out.wo.cell_ 0 _ rfl
 have r1 := DN.out.wo.cell_ 1 _ rfl
 refine anyB_seg [0] 3 rfl (by kernel_rfl) (by kernel_rfl) (by kernel_rfl) (fun _ _ d _ _ h => by cases d <;> exact h) ?_
 simp only [pickOps, List.getElem?_toArray, List.getElem?_cons_zero]
 go_wp2_with fail
 refine ⟨rfl, by rfl, ?_⟩
 clear r0 r1
 refine anyB_one (i := 1) (by kernel_rfl) rfl (fun K hK => ?_)
 go_simp
 refine (refno_any _ tNotPrep).mono ?_
 rintro e w9 ⟨rfl, b⟩
 refine hK.out _ _ (fun _ => b) ?_
 clear hK K
 have DN := Lib.hid (DN.out.keep b).toN
 clear b
 have u0 := DN.out.rw_.cell_ 0 _ rfl
 have u1 := DN.out.rw_.cell_ 1 _ rfl
 have v0 := DN.out.ra.cell_ 0 _ rfl
 have v1 := DN.out.ra.cell_ 1 _ rfl
 have v2 := DN.out.ra.cell_ 2 _ rfl
 have ff := DN.out.rw_.frozen
 have fg := DN.out.ra.frozen
 obtain ⟨E1, E2, E3, E4, E5⟩ := DN.out.toQ.ends rfl (.slice Ar W.rows.length cr) (.slice (some ⟨g, 0, none⟩) n cap) (.int .i64 4) (.string tNotPrep) (.int .i64 0)
 have q0 := E4.cell_ 0 _ rfl
 have q1 := E4.cell_ 1 _ rfl
 have p0 := E5.cell_ 0 _ rfl
 have p1 := E5.cell_ 1 _ rfl
 have p2 := E5.cell_ 2 _ rfl
 have FIN := Lib.hid (And.intro E1 (And.intro E2 E3))
 clear E1 E2 E3 E4 E5
 refine anyB_one (i := 2) (by kernel_rfl) rfl (fun K hK => ?_)
 go_simp
 refine hK.out _ _ (fun h => absurd (by decide) h) ?_
 clear hK K
 refine anyB_one (i := 3) (by kernel_rfl) rfl (fun K hK => ?_)
 go_simp
 refine hK.out _ _ (fun h => absurd (by decide) h) ?_
 clear hK K
 refine anyB_done (by kernel_rfl) ?_ _
 clear u0 u1 v0 v1 v2 ff fg
 generalize World.setCell _ _ _ = w10 at FIN q0 q1 p0 p1 p2 ⊢
 go_wp2_with fail
 refine bodyPost_ret (v := .tuple #[.agg #[.slice Ar W.rows.length cr, .slice (some ⟨g, 0, none⟩) n cap], .agg #[.int .i64 4, .string tNotPrep, .int .i64 0]]) ?_ rfl ⟨_, cs, by rw [← HR.out]; rfl, by rw [← HR.out]; exact FIN.out.2.1, by rw [← HR.out]; exact FIN.out.2.2, FIN.out.1⟩
 simp [results, Tryd.results77, go_sem, q0, q1, p0, p1, p2]
end Go.Proofs.YtjbnfigpflambabDoor
/- The reference's did at Put: held, full. -/
namespace Go.Proofs.YtjbnfigpflambabDoor
open Go.ChangeShapes Go.WideShapes Go.ChangeAt Go.RowKit
set_option maxHeartbeats 8000000 in
set_option maxRecDepth 100000 in
theorem refdid_held (w : World) (B : Nat) (r : Value) (g cap n : Nat) (W : Wo) (cs : List Value) (i : Nat) (key val : ByteArray) (hB : B ≤ w.heap.size) (hn : W.ses.length = n) (hr : OPL w B r W.rows) (hs : OSL w B (.slice (some ⟨g, 0, none⟩) n cap) W.ses cs) (hi : i < n) (hs0 : (W.se i).st ≠ 2) (hh : heldB W.ses i key = true) (hG : Good W) :
  Calls Tryd.prog 77 #[.agg #[r, .slice (some ⟨g, 0, none⟩) n cap], .int .i64 (i : Nat), .agg #[.int .i64 10, .string key, .string val]] w (DidR w B g cap n ((W, noA tHeld))) := by
 obtain ⟨Ar, cr, A1, z1, A2, z2, A3, z3, A4, z4, rfl, hse, hpre⟩ := did_pre hB hn hr hs hi
 have HP := Lib.hid (hpre ⟨10, key, val⟩)
 have g1 : (i : Int) < (n : Int) := by omega
 have g2 : (0 : Int) ≤ (i : Int) := by omega
 have HN := Lib.hid hn
 have HI := Lib.hid hi
 obtain ⟨R, hR⟩ : ∃ R, (W, noA tHeld) = R := ⟨_, rfl⟩
 rw [hR]
 obtain ⟨t, ht⟩ : ∃ t, W.se i = t := ⟨_, rfl⟩
 rw [ht] at hse HP hs0
 have hf8 := hG.few
 have HRA := Lib.hid (fun (u : World) (rr ss : Value) (h : WL u u.heap.size rr ss W) => refrows_any u rr ss W h hf8 hG.rows100 hG.wri100)
 have H8 := Lib.hid (show W.ses.length ≤ 1000 by omega)
 have hi1 : i ≤ 1000 := by omega
 have HH := Lib.hid hh
 clear hG hf8 hh
 have HS := Lib.hid hse
 have HR := Lib.hid hR
 clear hpre hse ht hR hn hi hr hs hB
 go_enter Tryd.func77, Tryd.ntmps77
 go_upto_region 1 with fail
 generalize hw4 : (((World.alloc _ _).alloc _).alloc _).alloc _ = w4
 obtain ⟨hz4, f1, y0, y1, y2, y3, y4, hm⟩ := HP.out w4 hw4
 have HM := Lib.hid hm
 clear hw4 hm HP
 go_upto_region 3 with fail
 clear f1 y0 y1 y2 y3 y4
 generalize (World.alloc _ _).alloc _ = w6 at HM ⊢
 have e2 : (t.st == 2) = false := by simpa using hs0
 have e2' : ¬ t.st = 2 := hs0
 have s0 := HM.out.se.cell_ 0 _ rfl
 have r0 := HM.out.wo.cell_ 0 _ rfl
 have r1 := HM.out.wo.cell_ 1 _ rfl
 have t0 := HM.out.st.cell_ 0 _ rfl
 have t1 := HM.out.st.cell_ 1 _ rfl
 go_wp2_with fail
 refine (refheld_any w6 Ar _ cr _ W.ses i key (HM.out.wl H8.out).ses hi1).mono ?_
 rintro e w7 ⟨rfl, b⟩
 rw [HH.out]
 have HM1 := Lib.hid (HM.out.keep b)
 clear s0 r0 r1 t0 t1 b HM
 have r0 := HM1.out.wo.cell_ 0 _ rfl
 have r1 := HM1.out.wo.cell_ 1 _ rfl
 go_upto_region 58 with fail
 clear r0 r1
 refine region_segs [2, 3] (by kernel_rfl) ?_
 have DN := Lib.hid (HM1.out.keep (Below.refl _ _).drew)
 generalize w7.drew = w8 at DN ⊢
 have r0 := DN.out.wo.cell_ 0 _ rfl
 have r1 := DN.out.wo.cell_ 1 _ rfl
 refine anyB_seg [0] 3 rfl (by kernel_rfl) (by kernel_rfl) (by kernel_rfl) (fun _ _ d _ _ h => by cases d <;> exact h) ?_
 simp only [pickOps, List.getElem?_toArray, List.getElem?_cons_zero]
 go_wp2_with fail
 refine ⟨rfl, by rfl, ?_⟩
 clear r0 r1
 refine anyB_one (i := 1) (by kernel_rfl) rfl (fun K hK => ?_)
 go_simp
 refine (refno_any _ tHeld).mono ?_
 rintro e w9 ⟨rfl, b⟩
 refine hK.out _ _ (fun _ => b) ?_
 clear hK K
 have DN := Lib.hid (DN.out.keep b).toN
 clear b
 have u0 := DN.out.rw_.cell_ 0 _ rfl
 have u1 := DN.out.rw_.cell_ 1 _ rfl
 have v0 := DN.out.ra.cell_ 0 _ rfl
 have v1 := DN.out.ra.cell_ 1 _ rfl
 have v2 := DN.out.ra.cell_ 2 _ rfl
 have ff := DN.out.rw_.frozen
 have fg := DN.out.ra.frozen
 obtain ⟨E1, E2, E3, E4, E5⟩ := DN.out.toQ.ends rfl (.slice Ar W.rows.length cr) (.slice (some ⟨g, 0, none⟩) n cap) (.int .i64 4) (.string tHeld) (.int .i64 0)
 have q0 := E4.cell_ 0 _ rfl
 have q1 := E4.cell_ 1 _ rfl
 have p0 := E5.cell_ 0 _ rfl
 have p1 := E5.cell_ 1 _ rfl
 have p2 := E5.cell_ 2 _ rfl
 have FIN := Lib.hid (And.intro E1 (And.intro E2 E3))
 clear E1 E2 E3 E4 E5
 refine anyB_one (i := 2) (by kernel_rfl) rfl (fun K hK => ?_)
 go_simp
 refine hK.out _ _ (fun h => absurd (by decide) h) ?_
 clear hK K
 refine anyB_one (i := 3) (by kernel_rfl) rfl (fun K hK => ?_)
 go_simp
 refine hK.out _ _ (fun h => absurd (by decide) h) ?_
 clear hK K
 refine anyB_done (by kernel_rfl) ?_ _
 clear u0 u1 v0 v1 v2 ff fg
 generalize World.setCell _ _ _ = w10 at FIN q0 q1 p0 p1 p2 ⊢
 go_wp2_with fail
 refine bodyPost_ret (v := .tuple #[.agg #[.slice Ar W.rows.length cr, .slice (some ⟨g, 0, none⟩) n cap], .agg #[.int .i64 4, .string tHeld, .int .i64 0]]) ?_ rfl ⟨_, cs, by rw [← HR.out]; rfl, by rw [← HR.out]; exact FIN.out.2.1, by rw [← HR.out]; exact FIN.out.2.2, FIN.out.1⟩
 simp [results, Tryd.results77, go_sem, q0, q1, p0, p1, p2]
set_option maxHeartbeats 8000000 in
set_option maxRecDepth 100000 in
theorem refdid_putfull (w : World) (B : Nat) (r : Value) (g cap n : Nat) (W : Wo) (cs : List Value) (i : Nat) (key val : ByteArray) (hB : B ≤ w.heap.size) (hn : W.ses.length = n) (hr : OPL w B r W.rows) (hs : OSL w B (.slice (some ⟨g, 0, none⟩) n cap) W.ses cs) (hi : i < n) (hs0 : (W.se i).st ≠ 2) (hh : heldB W.ses i key = false) (hc : hasK (allR W) key = false) (hl : 100 ≤ (allR W).length) (hG : Good W) :
  Calls Tryd.prog 77 #[.agg #[r, .slice (some ⟨g, 0, none⟩) n cap], .int .i64 (i : Nat), .agg #[.int .i64 10, .string key, .string val]] w (DidR w B g cap n ((W, noA tFull))) := by
 obtain ⟨Ar, cr, A1, z1, A2, z2, A3, z3, A4, z4, rfl, hse, hpre⟩ := did_pre hB hn hr hs hi
 have HP := Lib.hid (hpre ⟨10, key, val⟩)
 have g1 : (i : Int) < (n : Int) := by omega
 have g2 : (0 : Int) ≤ (i : Int) := by omega
 have HN := Lib.hid hn
 have HI := Lib.hid hi
 obtain ⟨R, hR⟩ : ∃ R, (W, noA tFull) = R := ⟨_, rfl⟩
 rw [hR]
 obtain ⟨t, ht⟩ : ∃ t, W.se i = t := ⟨_, rfl⟩
 rw [ht] at hse HP hs0
 have hf8 := hG.few
 have HRA := Lib.hid (fun (u : World) (rr ss : Value) (h : WL u u.heap.size rr ss W) => refrows_any u rr ss W h hf8 hG.rows100 hG.wri100)
 have H8 := Lib.hid (show W.ses.length ≤ 1000 by omega)
 have hi1 : i ≤ 1000 := by omega
 have HH := Lib.hid hh
 clear hG hf8 hh
 have HS := Lib.hid hse
 have HR := Lib.hid hR
 clear hpre hse ht hR hn hi hr hs hB
 go_enter Tryd.func77, Tryd.ntmps77
 go_upto_region 1 with fail
 generalize hw4 : (((World.alloc _ _).alloc _).alloc _).alloc _ = w4
 obtain ⟨hz4, f1, y0, y1, y2, y3, y4, hm⟩ := HP.out w4 hw4
 have HM := Lib.hid hm
 clear hw4 hm HP
 go_upto_region 3 with fail
 clear f1 y0 y1 y2 y3 y4
 generalize (World.alloc _ _).alloc _ = w6 at HM ⊢
 have e2 : (t.st == 2) = false := by simpa using hs0
 have e2' : ¬ t.st = 2 := hs0
 have s0 := HM.out.se.cell_ 0 _ rfl
 have r0 := HM.out.wo.cell_ 0 _ rfl
 have r1 := HM.out.wo.cell_ 1 _ rfl
 have t0 := HM.out.st.cell_ 0 _ rfl
 have t1 := HM.out.st.cell_ 1 _ rfl
 go_wp2_with fail
 refine (refheld_any w6 Ar _ cr _ W.ses i key (HM.out.wl H8.out).ses hi1).mono ?_
 rintro e w7 ⟨rfl, b⟩
 rw [HH.out]
 have HM1 := Lib.hid (HM.out.keep b)
 clear s0 r0 r1 t0 t1 b HM
 have r0 := HM1.out.wo.cell_ 0 _ rfl
 have r1 := HM1.out.wo.cell_ 1 _ rfl
 have t1 := HM1.out.st.cell_ 1 _ rfl
 go_upto_region 59 with fail
 clear r0 r1 t1
 refine region_segs [] (by kernel_rfl) ?_
 have HM2 := Lib.hid (HM1.out.keep (Below.refl _ _).drew)
 generalize w7.drew = w8 at HM2 ⊢
 have r0 := HM2.out.wo.cell_ 0 _ rfl
 have r1 := HM2.out.wo.cell_ 1 _ rfl
 have t1 := HM2.out.st.cell_ 1 _ rfl
 refine anyB_seg [0, 2, 3] 7 rfl (by kernel_rfl) (by kernel_rfl) (by kernel_rfl) (fun _ _ d _ _ h => by cases d <;> exact h) ?_
 simp only [pickOps, List.getElem?_toArray, List.getElem?_cons_zero, List.getElem?_cons_succ]
 go_wp2_with fail
 refine ⟨rfl, by rfl, ?_⟩
 clear r0 r1 t1
 refine anyB_one (i := 1) (by kernel_rfl) rfl (fun K hK => ?_)
 go_simp
 refine (HRA.out w8 _ _ (HM2.out.wl H8.out)).mono ?_
 rintro e w9 ⟨va, rfl, oa, b⟩
 refine hK.out _ _ (fun _ => b) ?_
 clear hK K
 have HM3 := Lib.hid (HM2.out.keep b)
 have OA := Lib.hid oa.pl
 clear b oa HM1 HM2
 refine anyB_one (i := 4) (by kernel_rfl) rfl (fun K hK => ?_)
 go_simp
 refine (refat_any w9 _ (allR W) key OA.out).mono ?_
 rintro e w10 ⟨xv, rfl, b⟩
 refine hK.out _ _ (fun _ => b) ?_
 clear hK K
 have HM4 := Lib.hid (HM3.out.keep b)
 clear b OA HM3
 refine anyB_seg [5, 6, 7, 8, 9] 0 rfl (by kernel_rfl) (by kernel_rfl) (by kernel_rfl) (fun _ _ d _ _ h => by cases d <;> exact h) ?_
 simp only [pickOps, List.getElem?_toArray, List.getElem?_cons_zero, List.getElem?_cons_succ]
 go_wp2_with fail
 refine ⟨rfl, by rfl, ?_⟩
 refine anyB_done (by kernel_rfl) ?_ _
 rw [hc]
 have r0 := HM4.out.wo.cell_ 0 _ rfl
 have r1 := HM4.out.wo.cell_ 1 _ rfl
 go_wp2_with fail
 refine (HRA.out w10 _ _ (HM4.out.wl H8.out)).mono ?_
 rintro e w11 ⟨va2, rfl, oa, b⟩
 have HM5 := Lib.hid (HM4.out.keep b)
 obtain ⟨Fa, ka, rfl⟩ := oa.form
 clear b oa r0 r1 HM4
 have g6 : (100 : Int) ≤ ((allR W).length : Int) := by omega
 have g6' : ¬ ((allR W).length : Int) < 100 := by omega
 go_upto_region 61 with fail
 clear g6 g6'
 refine region_segs [2, 3] (by kernel_rfl) ?_
 have DN := Lib.hid (HM5.out.keep (Below.refl _ _).drew)
 generalize w11.drew = w8 at DN ⊢
 have r0 := DN.out.wo.cell_ 0 _ rfl
 have r1 := DN.out.wo.cell_ 1 _ rfl
 refine anyB_seg [0] 3 rfl (by kernel_rfl) (by kernel_rfl) (by kernel_rfl) (fun _ _ d _ _ h => by cases d <;> exact h) ?_
 simp only [pickOps, List.getElem?_toArray, List.getElem?_cons_zero]
 go_wp2_with fail
 refine ⟨rfl, by rfl, ?_⟩
 clear r0 r1
 refine anyB_one (i := 1) (by kernel_rfl) rfl (fun K hK => ?_)
 go_simp
 refine (refno_any _ tFull).mono ?_
 rintro e w9 ⟨rfl, b⟩
 refine hK.out _ _ (fun _ => b) ?_
 clear hK K
 have DN := Lib.hid (DN.out.keep b).toN
 clear b
 have u0 := DN.out.rw_.cell_ 0 _ rfl
 have u1 := DN.out.rw_.cell_ 1 _ rfl
 have v0 := DN.out.ra.cell_ 0 _ rfl
 have v1 := DN.out.ra.cell_ 1 _ rfl
 have v2 := DN.out.ra.cell_ 2 _ rfl
 have ff := DN.out.rw_.frozen
 have fg := DN.out.ra.frozen
 obtain ⟨E1, E2, E3, E4, E5⟩ := DN.out.toQ.ends rfl (.slice Ar W.rows.length cr) (.slice (some ⟨g, 0, none⟩) n cap) (.int .i64 4) (.string tFull) (.int .i64 0)
 have q0 := E4.cell_ 0 _ rfl
 have q1 := E4.cell_ 1 _ rfl
 have p0 := E5.cell_ 0 _ rfl
 have p1 := E5.cell_ 1 _ rfl
 have p2 := E5.cell_ 2 _ rfl
 have FIN := Lib.hid (And.intro E1 (And.intro E2 E3))
 clear E1 E2 E3 E4 E5
 refine anyB_one (i := 2) (by kernel_rfl) rfl (fun K hK => ?_)
 go_simp
 refine hK.out _ _ (fun h => absurd (by decide) h) ?_
 clear hK K
 refine anyB_one (i := 3) (by kernel_rfl) rfl (fun K hK => ?_)
 go_simp
 refine hK.out _ _ (fun h => absurd (by decide) h) ?_
 clear hK K
 refine anyB_done (by kernel_rfl) ?_ _
 clear u0 u1 v0 v1 v2 ff fg
 generalize World.setCell _ _ _ = w10 at FIN q0 q1 p0 p1 p2 ⊢
 go_wp2_with fail
 refine bodyPost_ret (v := .tuple #[.agg #[.slice Ar W.rows.length cr, .slice (some ⟨g, 0, none⟩) n cap], .agg #[.int .i64 4, .string tFull, .int .i64 0]]) ?_ rfl ⟨_, cs, by rw [← HR.out]; rfl, by rw [← HR.out]; exact FIN.out.2.1, by rw [← HR.out]; exact FIN.out.2.2, FIN.out.1⟩
 simp [results, Tryd.results77, go_sem, q0, q1, p0, p1, p2]
end Go.Proofs.YtjbnfigpflambabDoor
/- The reference's did at Put, in a transaction. -/
namespace Go.Proofs.YtjbnfigpflambabDoor
open Go.ChangeShapes Go.WideShapes Go.ChangeAt Go.RowKit
set_option maxHeartbeats 8000000 in
set_option maxRecDepth 100000 in
theorem refdid_puttx (w : World) (B : Nat) (r : Value) (g cap n : Nat) (W : Wo) (cs : List Value) (i : Nat) (key val : ByteArray) (hB : B ≤ w.heap.size) (hn : W.ses.length = n) (hr : OPL w B r W.rows) (hs : OSL w B (.slice (some ⟨g, 0, none⟩) n cap) W.ses cs) (hi : i < n) (hs0 : (W.se i).st = 1) (hh : heldB W.ses i key = false) (hc : hasK (allR W) key = false → (allR W).length < 100) (hk : key.size ≤ maxLen) (hv : val.size ≤ maxLen) (hw : (W.se i).wri.length ≤ 1000) (hG : Good W) :
  Calls Tryd.prog 77 #[.agg #[r, .slice (some ⟨g, 0, none⟩) n cap], .int .i64 (i : Nat), .agg #[.int .i64 10, .string key, .string val]] w (DidR w B g cap n ((W.put i ⟨1, (W.se i).set, (W.se i).pre, (W.se i).sav, plusP (W.se i).wri key val⟩, okA))) := by
 obtain ⟨Ar, cr, A1, z1, A2, z2, A3, z3, A4, z4, rfl, hse, hpre⟩ := did_pre hB hn hr hs hi
 have HP := Lib.hid (hpre ⟨10, key, val⟩)
 have g1 : (i : Int) < (n : Int) := by omega
 have g2 : (0 : Int) ≤ (i : Int) := by omega
 have HN := Lib.hid hn
 have HI := Lib.hid hi
 obtain ⟨R, hR⟩ : ∃ R, (W.put i ⟨1, (W.se i).set, (W.se i).pre, (W.se i).sav, plusP (W.se i).wri key val⟩, okA) = R := ⟨_, rfl⟩
 rw [hR]
 obtain ⟨t, ht⟩ : ∃ t, W.se i = t := ⟨_, rfl⟩
 rw [ht] at hse HP hR hs0 hw
 have hf8 := hG.few
 have HRA := Lib.hid (fun (u : World) (rr ss : Value) (h : WL u u.heap.size rr ss W) => refrows_any u rr ss W h hf8 hG.rows100 hG.wri100)
 have H8 := Lib.hid (show W.ses.length ≤ 1000 by omega)
 have hi1 : i ≤ 1000 := by omega
 have HH := Lib.hid hh
 have HF := Lib.hid (plus_fits hse.p4.fits.2 hk hv hw)
 clear hk hv hw
 clear hG hf8 hh
 have HS := Lib.hid hse
 have HR := Lib.hid hR
 clear hpre hse ht hR hn hi hr hs hB
 go_enter Tryd.func77, Tryd.ntmps77
 go_upto_region 1 with fail
 generalize hw4 : (((World.alloc _ _).alloc _).alloc _).alloc _ = w4
 obtain ⟨hz4, f1, y0, y1, y2, y3, y4, hm⟩ := HP.out w4 hw4
 rw [hs0] at y0 hm
 have HM := Lib.hid hm
 clear hw4 hm HP
 go_upto_region 3 with fail
 clear f1 y0 y1 y2 y3 y4
 generalize (World.alloc _ _).alloc _ = w6 at HM ⊢
 have s0 := HM.out.se.cell_ 0 _ rfl
 have r0 := HM.out.wo.cell_ 0 _ rfl
 have r1 := HM.out.wo.cell_ 1 _ rfl
 have t0 := HM.out.st.cell_ 0 _ rfl
 have t1 := HM.out.st.cell_ 1 _ rfl
 go_wp2_with fail
 refine (refheld_any w6 Ar _ cr _ W.ses i key (HM.out.wl H8.out).ses hi1).mono ?_
 rintro e w7 ⟨rfl, b⟩
 rw [HH.out]
 have HM1 := Lib.hid (HM.out.keep b)
 clear s0 r0 r1 t0 t1 b HM
 have r0 := HM1.out.wo.cell_ 0 _ rfl
 have r1 := HM1.out.wo.cell_ 1 _ rfl
 have t1 := HM1.out.st.cell_ 1 _ rfl
 go_upto_region 59 with fail
 clear r0 r1 t1
 refine region_segs [] (by kernel_rfl) ?_
 have HM2 := Lib.hid (HM1.out.keep (Below.refl _ _).drew)
 generalize w7.drew = w8 at HM2 ⊢
 have r0 := HM2.out.wo.cell_ 0 _ rfl
 have r1 := HM2.out.wo.cell_ 1 _ rfl
 have t1 := HM2.out.st.cell_ 1 _ rfl
 refine anyB_seg [0, 2, 3] 7 rfl (by kernel_rfl) (by kernel_rfl) (by kernel_rfl) (fun _ _ d _ _ h => by cases d <;> exact h) ?_
 simp only [pickOps, List.getElem?_toArray, List.getElem?_cons_zero, List.getElem?_cons_succ]
 go_wp2_with fail
 refine ⟨rfl, by rfl, ?_⟩
 clear r0 r1 t1
 refine anyB_one (i := 1) (by kernel_rfl) rfl (fun K hK => ?_)
 go_simp
 refine (HRA.out w8 _ _ (HM2.out.wl H8.out)).mono ?_
 rintro e w9 ⟨va, rfl, oa, b⟩
 refine hK.out _ _ (fun _ => b) ?_
 clear hK K
 have HM3 := Lib.hid (HM2.out.keep b)
 have OA := Lib.hid oa.pl
 clear b oa HM1 HM2
 refine anyB_one (i := 4) (by kernel_rfl) rfl (fun K hK => ?_)
 go_simp
 refine (refat_any w9 _ (allR W) key OA.out).mono ?_
 rintro e w10 ⟨xv, rfl, b⟩
 refine hK.out _ _ (fun _ => b) ?_
 clear hK K
 have HM4 := Lib.hid (HM3.out.keep b)
 clear b OA HM3
 refine anyB_seg [5, 6, 7, 8, 9] 0 rfl (by kernel_rfl) (by kernel_rfl) (by kernel_rfl) (fun _ _ d _ _ h => by cases d <;> exact h) ?_
 simp only [pickOps, List.getElem?_toArray, List.getElem?_cons_zero, List.getElem?_cons_succ]
 go_wp2_with fail
 refine ⟨rfl, by rfl, ?_⟩
 refine anyB_done (by kernel_rfl) ?_ _
 obtain ⟨b0, hb0⟩ : ∃ b, hasK (allR W) key = b := ⟨_, rfl⟩
 rw [hb0] at hc ⊢
 clear hb0
 cases b0 with
 | true =>
  clear hc
  have HMX := HM4
  clear HM4
  have s0 := HMX.out.se.cell_ 0 _ rfl
  have s4 := HMX.out.se.cell_ 4 _ rfl
  have t1 := HMX.out.st.cell_ 1 _ rfl
  have t2 := HMX.out.st.cell_ 2 _ rfl
  go_wp2_with fail
  refine (refplus_any _ _ t.wri key val ((HS.out.at_ HMX.out.bel).p4.pl)).mono ?_
  rintro e w12 ⟨a, rfl, oa, b⟩
  have HM6 := Lib.hid (HMX.out.keep b)
  have OA := Lib.hid ((OPL.mk oa HF.out).base (B' := B) (Nat.le_trans HMX.out.hB HMX.out.bel.size))
  clear oa b s0 s4 t1 t2 HMX
  obtain ⟨F, k, rfl⟩ := OA.out.form
  have s4 := HM6.out.se.cell_ 4 _ rfl
  have fs := HM6.out.se.frozen
  go_upto_region 65 with fail
  have kp : Keeps 66 w12 (w12.setCell ⟨w.heap.size + 4, 4, none⟩ (.slice F (plusP t.wri key val).length k)) := Keeps.set_ (p := ⟨w.heap.size + 4, 4, none⟩) HM6.out.se (by decide) _
  have OB := Lib.hid (OA.out.keeps kp)
  have HM7 := Lib.hid (HM6.out.setS rfl 4 (.slice F (plusP t.wri key val).length k) rfl)
  clear s4 fs HM6 OA kp
  generalize World.setCell _ _ _ = w13 at HM7 OB ⊢
  have r0 := HM7.out.wo.cell_ 0 _ rfl
  have r1 := HM7.out.wo.cell_ 1 _ rfl
  have s0 := HM7.out.se.cell_ 0 _ rfl
  have s1 := HM7.out.se.cell_ 1 _ rfl
  have s2 := HM7.out.se.cell_ 2 _ rfl
  have s3 := HM7.out.se.cell_ 3 _ rfl
  have s4 := HM7.out.se.cell_ 4 _ rfl
  obtain ⟨_, _, _, _, _, c0, c1, c2, c3, c4, fr⟩ := HM7.out.cells5 HN.out HI.out
  have fr0 := fr (i * 5)
  have ST := Lib.hid (HS.out.at_ HM7.out.bel)
  go_upto_region 66 with fail
  obtain ⟨cs', dn⟩ := HM7.out.put5 rfl HN.out (i := i) (by rw [HN.out]; exact HI.out) (s' := ⟨1, t.set, t.pre, t.sav, plusP t.wri key val⟩) ST.out.p1 ST.out.p2 ST.out.p3 OB.out ⟨by simp, by simp⟩
  clear r0 r1 s0 s1 s2 s3 s4 c0 c1 c2 c3 c4 fr fr0 ST
  have DN := Lib.hid dn
  clear dn
  generalize World.setCell _ _ _ = w9 at DN ⊢
  refine region_segs [2, 3] (by kernel_rfl) ?_
  have DN := Lib.hid (DN.out.keep (Below.refl _ _).drew)
  generalize w9.drew = w9 at DN ⊢
  have r0 := DN.out.wo.cell_ 0 _ rfl
  have r1 := DN.out.wo.cell_ 1 _ rfl
  have k0 := DN.out.ok.cell_ 0 _ rfl
  have k1 := DN.out.ok.cell_ 1 _ rfl
  have k2 := DN.out.ok.cell_ 2 _ rfl
  have u0 := DN.out.rw_.cell_ 0 _ rfl
  have u1 := DN.out.rw_.cell_ 1 _ rfl
  have v0 := DN.out.ra.cell_ 0 _ rfl
  have v1 := DN.out.ra.cell_ 1 _ rfl
  have v2 := DN.out.ra.cell_ 2 _ rfl
  have ff := DN.out.rw_.frozen
  have fg := DN.out.ra.frozen
  refine anyB_seg [0] 3 rfl (by kernel_rfl) (by kernel_rfl) (by kernel_rfl) (fun _ _ d _ _ h => by cases d <;> exact h) ?_
  simp only [pickOps, List.getElem?_toArray, List.getElem?_cons_zero]
  go_wp2_with fail
  refine ⟨rfl, by rfl, ?_⟩
  obtain ⟨E1, E2, E3, E4, E5⟩ := DN.out.toQ.ends rfl (.slice Ar W.rows.length cr) (.slice (some ⟨g, 0, none⟩) n cap) (.int .i64 1) (.string ⟨#[]⟩) (.int .i64 0)
  have q0 := E4.cell_ 0 _ rfl
  have q1 := E4.cell_ 1 _ rfl
  have p0 := E5.cell_ 0 _ rfl
  have p1 := E5.cell_ 1 _ rfl
  have p2 := E5.cell_ 2 _ rfl
  have FIN := Lib.hid (And.intro E1 (And.intro E2 E3))
  clear E1 E2 E3 E4 E5
  refine anyB_two (i := 1) (j := 2) (by kernel_rfl) rfl rfl (fun K hK => ?_) (fun K hK => ?_)
  ·go_simp
   refine hK.out _ _ (fun _ => (Below.refl _ _)) ?_
   clear hK K
   refine anyB_one (i := 2) (by kernel_rfl) rfl (fun K hK => ?_)
   go_simp
   refine hK.out _ _ (fun h => absurd (by decide) h) ?_
   clear hK K
   refine anyB_one (i := 3) (by kernel_rfl) rfl (fun K hK => ?_)
   go_simp
   refine hK.out _ _ (fun h => absurd (by decide) h) ?_
   clear hK K
   refine anyB_done (by kernel_rfl) ?_ _
   clear u0 u1 v0 v1 v2 ff fg r0 r1 k0 k1 k2
   generalize World.setCell _ _ _ = w10 at FIN q0 q1 p0 p1 p2 ⊢
   go_wp2_with fail
   refine bodyPost_ret (v := .tuple #[.agg #[.slice Ar W.rows.length cr, .slice (some ⟨g, 0, none⟩) n cap], .agg #[.int .i64 1, .string ⟨#[]⟩, .int .i64 0]]) ?_ rfl ⟨_, cs', by rw [← HR.out]; rfl, by rw [← HR.out]; exact FIN.out.2.1, by rw [← HR.out]; exact FIN.out.2.2, FIN.out.1⟩
   simp [results, Tryd.results77, go_sem, q0, q1, p0, p1, p2]
  ·go_simp
   refine hK.out _ _ (fun h => absurd (by decide) h) ?_
   clear hK K
   refine anyB_seg [1] 1 rfl (by kernel_rfl) (by kernel_rfl) (by kernel_rfl) (fun _ _ d _ _ h => by cases d <;> exact h) ?_
   simp only [pickOps, List.getElem?_toArray, List.getElem?_cons_zero, List.getElem?_cons_succ]
   go_wp2_with fail
   refine ⟨rfl, by rfl, ?_⟩
   refine anyB_one (i := 3) (by kernel_rfl) rfl (fun K hK => ?_)
   go_simp
   refine hK.out _ _ (fun h => absurd (by decide) h) ?_
   clear hK K
   refine anyB_done (by kernel_rfl) ?_ _
   clear u0 u1 v0 v1 v2 ff fg r0 r1 k0 k1 k2
   generalize World.setCell _ _ _ = w10 at FIN q0 q1 p0 p1 p2 ⊢
   go_wp2_with fail
   refine bodyPost_ret (v := .tuple #[.agg #[.slice Ar W.rows.length cr, .slice (some ⟨g, 0, none⟩) n cap], .agg #[.int .i64 1, .string ⟨#[]⟩, .int .i64 0]]) ?_ rfl ⟨_, cs', by rw [← HR.out]; rfl, by rw [← HR.out]; exact FIN.out.2.1, by rw [← HR.out]; exact FIN.out.2.2, FIN.out.1⟩
   simp [results, Tryd.results77, go_sem, q0, q1, p0, p1, p2]
 | false =>
  have g6 : ¬ (100 : Int) ≤ ((allR W).length : Int) := by have := hc rfl; omega
  have g6' : ((allR W).length : Int) < 100 := by have := hc rfl; omega
  clear hc
  have r0 := HM4.out.wo.cell_ 0 _ rfl
  have r1 := HM4.out.wo.cell_ 1 _ rfl
  go_wp2_with fail
  refine (HRA.out w10 _ _ (HM4.out.wl H8.out)).mono ?_
  rintro e w11 ⟨va2, rfl, oa, b⟩
  have HM5 := Lib.hid (HM4.out.keep b)
  obtain ⟨Fa, ka, rfl⟩ := oa.form
  clear b oa r0 r1 HM4
  have HMX := HM5
  clear HM5
  have s0 := HMX.out.se.cell_ 0 _ rfl
  have s4 := HMX.out.se.cell_ 4 _ rfl
  have t1 := HMX.out.st.cell_ 1 _ rfl
  have t2 := HMX.out.st.cell_ 2 _ rfl
  go_wp2_with fail
  refine (refplus_any _ _ t.wri key val ((HS.out.at_ HMX.out.bel).p4.pl)).mono ?_
  rintro e w12 ⟨a, rfl, oa, b⟩
  have HM6 := Lib.hid (HMX.out.keep b)
  have OA := Lib.hid ((OPL.mk oa HF.out).base (B' := B) (Nat.le_trans HMX.out.hB HMX.out.bel.size))
  clear oa b s0 s4 t1 t2 HMX
  obtain ⟨F, k, rfl⟩ := OA.out.form
  have s4 := HM6.out.se.cell_ 4 _ rfl
  have fs := HM6.out.se.frozen
  go_upto_region 65 with fail
  have kp : Keeps 66 w12 (w12.setCell ⟨w.heap.size + 4, 4, none⟩ (.slice F (plusP t.wri key val).length k)) := Keeps.set_ (p := ⟨w.heap.size + 4, 4, none⟩) HM6.out.se (by decide) _
  have OB := Lib.hid (OA.out.keeps kp)
  have HM7 := Lib.hid (HM6.out.setS rfl 4 (.slice F (plusP t.wri key val).length k) rfl)
  clear s4 fs HM6 OA kp
  generalize World.setCell _ _ _ = w13 at HM7 OB ⊢
  have r0 := HM7.out.wo.cell_ 0 _ rfl
  have r1 := HM7.out.wo.cell_ 1 _ rfl
  have s0 := HM7.out.se.cell_ 0 _ rfl
  have s1 := HM7.out.se.cell_ 1 _ rfl
  have s2 := HM7.out.se.cell_ 2 _ rfl
  have s3 := HM7.out.se.cell_ 3 _ rfl
  have s4 := HM7.out.se.cell_ 4 _ rfl
  obtain ⟨_, _, _, _, _, c0, c1, c2, c3, c4, fr⟩ := HM7.out.cells5 HN.out HI.out
  have fr0 := fr (i * 5)
  have ST := Lib.hid (HS.out.at_ HM7.out.bel)
  go_upto_region 66 with fail
  obtain ⟨cs', dn⟩ := HM7.out.put5 rfl HN.out (i := i) (by rw [HN.out]; exact HI.out) (s' := ⟨1, t.set, t.pre, t.sav, plusP t.wri key val⟩) ST.out.p1 ST.out.p2 ST.out.p3 OB.out ⟨by simp, by simp⟩
  clear r0 r1 s0 s1 s2 s3 s4 c0 c1 c2 c3 c4 fr fr0 ST
  have DN := Lib.hid dn
  clear dn
  generalize World.setCell _ _ _ = w9 at DN ⊢
  refine region_segs [2, 3] (by kernel_rfl) ?_
  have DN := Lib.hid (DN.out.keep (Below.refl _ _).drew)
  generalize w9.drew = w9 at DN ⊢
  have r0 := DN.out.wo.cell_ 0 _ rfl
  have r1 := DN.out.wo.cell_ 1 _ rfl
  have k0 := DN.out.ok.cell_ 0 _ rfl
  have k1 := DN.out.ok.cell_ 1 _ rfl
  have k2 := DN.out.ok.cell_ 2 _ rfl
  have u0 := DN.out.rw_.cell_ 0 _ rfl
  have u1 := DN.out.rw_.cell_ 1 _ rfl
  have v0 := DN.out.ra.cell_ 0 _ rfl
  have v1 := DN.out.ra.cell_ 1 _ rfl
  have v2 := DN.out.ra.cell_ 2 _ rfl
  have ff := DN.out.rw_.frozen
  have fg := DN.out.ra.frozen
  refine anyB_seg [0] 3 rfl (by kernel_rfl) (by kernel_rfl) (by kernel_rfl) (fun _ _ d _ _ h => by cases d <;> exact h) ?_
  simp only [pickOps, List.getElem?_toArray, List.getElem?_cons_zero]
  go_wp2_with fail
  refine ⟨rfl, by rfl, ?_⟩
  obtain ⟨E1, E2, E3, E4, E5⟩ := DN.out.toQ.ends rfl (.slice Ar W.rows.length cr) (.slice (some ⟨g, 0, none⟩) n cap) (.int .i64 1) (.string ⟨#[]⟩) (.int .i64 0)
  have q0 := E4.cell_ 0 _ rfl
  have q1 := E4.cell_ 1 _ rfl
  have p0 := E5.cell_ 0 _ rfl
  have p1 := E5.cell_ 1 _ rfl
  have p2 := E5.cell_ 2 _ rfl
  have FIN := Lib.hid (And.intro E1 (And.intro E2 E3))
  clear E1 E2 E3 E4 E5
  refine anyB_two (i := 1) (j := 2) (by kernel_rfl) rfl rfl (fun K hK => ?_) (fun K hK => ?_)
  ·go_simp
   refine hK.out _ _ (fun _ => (Below.refl _ _)) ?_
   clear hK K
   refine anyB_one (i := 2) (by kernel_rfl) rfl (fun K hK => ?_)
   go_simp
   refine hK.out _ _ (fun h => absurd (by decide) h) ?_
   clear hK K
   refine anyB_one (i := 3) (by kernel_rfl) rfl (fun K hK => ?_)
   go_simp
   refine hK.out _ _ (fun h => absurd (by decide) h) ?_
   clear hK K
   refine anyB_done (by kernel_rfl) ?_ _
   clear u0 u1 v0 v1 v2 ff fg r0 r1 k0 k1 k2
   generalize World.setCell _ _ _ = w10 at FIN q0 q1 p0 p1 p2 ⊢
   go_wp2_with fail
   refine bodyPost_ret (v := .tuple #[.agg #[.slice Ar W.rows.length cr, .slice (some ⟨g, 0, none⟩) n cap], .agg #[.int .i64 1, .string ⟨#[]⟩, .int .i64 0]]) ?_ rfl ⟨_, cs', by rw [← HR.out]; rfl, by rw [← HR.out]; exact FIN.out.2.1, by rw [← HR.out]; exact FIN.out.2.2, FIN.out.1⟩
   simp [results, Tryd.results77, go_sem, q0, q1, p0, p1, p2]
  ·go_simp
   refine hK.out _ _ (fun h => absurd (by decide) h) ?_
   clear hK K
   refine anyB_seg [1] 1 rfl (by kernel_rfl) (by kernel_rfl) (by kernel_rfl) (fun _ _ d _ _ h => by cases d <;> exact h) ?_
   simp only [pickOps, List.getElem?_toArray, List.getElem?_cons_zero, List.getElem?_cons_succ]
   go_wp2_with fail
   refine ⟨rfl, by rfl, ?_⟩
   refine anyB_one (i := 3) (by kernel_rfl) rfl (fun K hK => ?_)
   go_simp
   refine hK.out _ _ (fun h => absurd (by decide) h) ?_
   clear hK K
   refine anyB_done (by kernel_rfl) ?_ _
   clear u0 u1 v0 v1 v2 ff fg r0 r1 k0 k1 k2
   generalize World.setCell _ _ _ = w10 at FIN q0 q1 p0 p1 p2 ⊢
   go_wp2_with fail
   refine bodyPost_ret (v := .tuple #[.agg #[.slice Ar W.rows.length cr, .slice (some ⟨g, 0, none⟩) n cap], .agg #[.int .i64 1, .string ⟨#[]⟩, .int .i64 0]]) ?_ rfl ⟨_, cs', by rw [← HR.out]; rfl, by rw [← HR.out]; exact FIN.out.2.1, by rw [← HR.out]; exact FIN.out.2.2, FIN.out.1⟩
   simp [results, Tryd.results77, go_sem, q0, q1, p0, p1, p2]
end Go.Proofs.YtjbnfigpflambabDoor
