/- The reference's did: the ways that leave with an error ahead of any change. The reference's did at Get. -/
import Derived.Test.YtjbnfigpflambabDoorJ05
/- The reference's did: the ways that leave with an error ahead of any change. -/
namespace Go.Proofs.YtjbnfigpflambabDoor
open Go.ChangeShapes Go.WideShapes Go.ChangeAt Go.RowKit
set_option maxHeartbeats 8000000 in
set_option maxRecDepth 100000 in
theorem refdid_begun (w : World) (A : Option Addr) (n c : Nat) (Ar : Option Addr) (nr cr : Nat) (ss : List Se) (i : Nat) (key val : ByteArray) (hn : ss.length = n) (h : SL w w.heap.size (.slice A n c) ss) (hi : i < n) (hs0 : (ss.getD i Se.new).st ≠ 2) (hs1 : (ss.getD i Se.new).st ≠ 0) :
  Calls Tryd.prog 77 #[.agg #[.slice Ar nr cr, .slice A n c], .int .i64 (i : Nat), .agg #[.int .i64 1, .string key, .string val]] w fun e w' =>
   e = .returned (.tuple #[.agg #[.slice Ar nr cr, .slice A n c], .agg #[.int .i64 4, .string tBegun, .int .i64 0]]) ∧ Below w.heap.size w w' := by
 have hil : i < ss.length := by omega
 have hgd : ss.getD i Se.new = ss[i] := getD_at hil Se.new
 obtain ⟨A', c', e, hc, hz, hs⟩ := h
 injection e with e1 e2 e3
 subst e1 e3
 obtain ⟨ad, hA, hAB, hse⟩ := hs (by omega)
 subst hA
 have y := hse i hil
 rw [hgd] at hs0 hs1
 obtain ⟨t, ht⟩ : ∃ t, ss[i] = t := ⟨_, rfl⟩
 rw [ht] at y hs0 hs1
 obtain ⟨x0, ⟨v1, x1, p1⟩, ⟨v2, x2, p2⟩, ⟨v3, x3, p3⟩, ⟨v4, x4, p4⟩, -, -⟩ := y
 obtain ⟨A1, z1, rfl⟩ := p1.form
 obtain ⟨A2, z2, rfl⟩ := p2.form
 obtain ⟨A3, z3, rfl⟩ := p3.form
 obtain ⟨A4, z4, rfl⟩ := p4.form
 have g1 : (i : Int) < (n : Int) := by omega
 have g2 : (0 : Int) ≤ (i : Int) := by omega
 clear hs hse hgd hz hc ht p1 p2 p3 p4 e2
 go_enter Tryd.func77, Tryd.ntmps77
 go_upto_region 1 with fail
 obtain ⟨w4, hw4⟩ : ∃ w4, w4 = ((((w.alloc (.cells #[.slice Ar nr cr, .slice (some ad) n c] 31)).alloc (.cells #[.int .i64 1, .string key, .string val] 23)).alloc (.cells #[.slice none 0 0, .slice none 0 0] 31)).alloc (.cells #[.int .i64 0, .string ⟨#[]⟩, .int .i64 0] 48)) := ⟨_, rfl⟩
 obtain ⟨d1, d2, d3, d4, d5, d6⟩ := did_boxes w _ _ ⟨1, key, val⟩ w4 hw4
 have d4 : Blk w4 (w.heap.size + 1) 23 #[.int .i64 1, .string key, .string val] := d4
 rw [← hw4]
 have hlb : (ad.add (i * 5)).block < w.heap.size := by rw [block_of_add]; exact hAB
 have y0 := (d1.cell hlb).trans x0
 have y1 := (d1.cell (by exact hlb)).trans x1
 have y2 := (d1.cell (by exact hlb)).trans x2
 have y3 := (d1.cell (by exact hlb)).trans x3
 have y4 := (d1.cell (by exact hlb)).trans x4
 have f1 := d3.cell_ 1 _ rfl
 have D1 := Lib.hid d1
 have D3 := Lib.hid d3
 have D4 := Lib.hid d4
 have D5 := Lib.hid d5
 have D6 := Lib.hid d6
 have D2 := Lib.hid d2
 clear x0 x1 x2 x3 x4 hw4 d1 d2 d3 d4 d5 d6 hlb
 go_upto_region 2 with fail
 have bb := boxed w4 (.cells #[.int .i64 t.st, .slice A1 t.set.length z1, .slice A2 t.pre.length z2, .slice A3 t.sav.length z3, .slice A4 t.wri.length z4] 58)
 have S5 := Blk.new w4 58 #[.int .i64 t.st, .slice A1 t.set.length z1, .slice A2 t.pre.length z2, .slice A3 t.sav.length z3, .slice A4 t.wri.length z4]
 have bb2 := boxed2 w4 (.cells #[.int .i64 t.st, .slice A1 t.set.length z1, .slice A2 t.pre.length z2, .slice A3 t.sav.length z3, .slice A4 t.wri.length z4] 58) (.cells #[.int .i64 1, .string ⟨#[]⟩, .int .i64 0] 48)
 clear y0 y1 y2 y3 y4 f1
 go_upto_region 3 with fail
 have s0 := (S5.alloc (.cells #[.int .i64 1, .string ⟨#[]⟩, .int .i64 0] 48)).cell_ 0 _ rfl
 have r0 := (D3.out.keep bb2).cell_ 0 _ rfl
 have r1 := (D3.out.keep bb2).cell_ 1 _ rfl
 have t0 := (D4.out.keep bb2).cell_ 0 _ rfl
 have R2 := Lib.hid (D5.out.keep bb2)
 have R3 := Lib.hid (D6.out.keep bb2)
 have BB := Lib.hid (below_step D1.out (Nat.le_refl _) bb2)
 have e2 : (t.st == 2) = false := by simpa using hs0
 have e2' : ¬ t.st = 2 := hs0
 have e0 : (t.st == 0) = false := by simpa using hs1
 have e0' : ¬ t.st = 0 := hs1
 clear bb bb2 S5
 generalize (w4.alloc _).alloc _ = w6 at s0 r0 r1 t0 R2 R3 BB ⊢
 go_upto_region 9 with fail
 refine region_segs [2, 3] (by kernel_rfl) ?_
 refine anyB_seg [0] 3 rfl (by kernel_rfl) (by kernel_rfl) (by kernel_rfl) (fun _ _ d _ _ h => by cases d <;> exact h) ?_
 simp only [pickOps, List.getElem?_toArray, List.getElem?_cons_zero]
 go_wp2_with fail
 refine ⟨rfl, by rfl, ?_⟩
 have R2 := Lib.hid (R2.out.keep (Below.refl _ _).drew)
 have R3 := Lib.hid (R3.out.keep (Below.refl _ _).drew)
 have BB := Lib.hid BB.out.drew
 clear s0 r0 r1 t0
 generalize w6.drew = w7 at R2 R3 BB ⊢
 refine anyB_one (i := 1) (by kernel_rfl) rfl (fun K hK => ?_)
 go_simp
 refine (refno_any w7 tBegun).mono ?_
 rintro e w8 ⟨rfl, b⟩
 refine hK.out _ _ (fun _ => b) ?_
 clear hK K
 have b8 := below_step BB.out (Nat.le_refl _) b
 have R8 := R2.out.keep b
 have T8 := R3.out.keep b
 have u0 := R8.cell_ 0 _ rfl
 have u1 := R8.cell_ 1 _ rfl
 have v0 := T8.cell_ 0 _ rfl
 have v1 := T8.cell_ 1 _ rfl
 have v2 := T8.cell_ 2 _ rfl
 have ff := R8.frozen
 have fg := T8.frozen
 have n23 : w.heap.size + 3 ≠ w.heap.size + 2 := by omega
 have FIN := Lib.hid (((((b8.setCell (p := ⟨w.heap.size + 2, 0, none⟩) (by show w.heap.size ≤ w.heap.size + 2; omega) (.slice Ar nr cr)).setCell (p := ⟨w.heap.size + 2, 1, none⟩) (by show w.heap.size ≤ w.heap.size + 2; omega) (.slice (some ad) n c)).setCell (p := ⟨w.heap.size + 3, 0, none⟩) (by show w.heap.size ≤ w.heap.size + 3; omega) (.int .i64 4)).setCell (p := ⟨w.heap.size + 3, 1, none⟩) (by show w.heap.size ≤ w.heap.size + 3; omega) (.string tBegun)).setCell (p := ⟨w.heap.size + 3, 2, none⟩) (by show w.heap.size ≤ w.heap.size + 3; omega) (.int .i64 0))
 have hb2 := ((((R8.set_ 0 (.slice Ar nr cr)).set_ 1 (.slice (some ad) n c)).far (p := ⟨w.heap.size + 3, 0, none⟩) n23.symm (.int .i64 4)).far (p := ⟨w.heap.size + 3, 1, none⟩) n23.symm (.string tBegun)).far (p := ⟨w.heap.size + 3, 2, none⟩) n23.symm (.int .i64 0)
 have hb3 := ((((T8.far (p := ⟨w.heap.size + 2, 0, none⟩) n23 (.slice Ar nr cr)).far (p := ⟨w.heap.size + 2, 1, none⟩) n23 (.slice (some ad) n c)).set_ 0 (.int .i64 4)).set_ 1 (.string tBegun)).set_ 2 (.int .i64 0)
 have q0 := hb2.cell_ 0 _ rfl
 have q1 := hb2.cell_ 1 _ rfl
 have p0 := hb3.cell_ 0 _ rfl
 have p1 := hb3.cell_ 1 _ rfl
 have p2 := hb3.cell_ 2 _ rfl
 clear hb2 hb3 R8 T8 b b8
 refine anyB_one (i := 2) (by kernel_rfl) rfl (fun K hK => ?_)
 go_simp
 refine hK.out _ _ (fun h => absurd (by decide) h) ?_
 clear hK K
 refine anyB_one (i := 3) (by kernel_rfl) rfl (fun K hK => ?_)
 go_simp
 refine hK.out _ _ (fun h => absurd (by decide) h) ?_
 clear hK K
 refine anyB_done (by kernel_rfl) ?_ _
 clear u0 u1 v0 v1 v2 ff fg
 generalize World.setCell _ _ _ = w9 at FIN q0 q1 p0 p1 p2 ⊢
 go_wp2_with fail
 refine bodyPost_ret (v := .tuple #[.agg #[.slice Ar nr cr, .slice (some ad) n c], .agg #[.int .i64 4, .string tBegun, .int .i64 0]]) ?_ rfl ⟨rfl, FIN.out⟩
 simp [results, Tryd.results77, go_sem, q0, q1, p0, p1, p2]
set_option maxHeartbeats 8000000 in
set_option maxRecDepth 100000 in
theorem refdid_notx2 (w : World) (A : Option Addr) (n c : Nat) (Ar : Option Addr) (nr cr : Nat) (ss : List Se) (i : Nat) (key val : ByteArray) (hn : ss.length = n) (h : SL w w.heap.size (.slice A n c) ss) (hi : i < n) (hs0 : (ss.getD i Se.new).st = 0) :
  Calls Tryd.prog 77 #[.agg #[.slice Ar nr cr, .slice A n c], .int .i64 (i : Nat), .agg #[.int .i64 2, .string key, .string val]] w fun e w' =>
   e = .returned (.tuple #[.agg #[.slice Ar nr cr, .slice A n c], .agg #[.int .i64 4, .string tNoTx, .int .i64 0]]) ∧ Below w.heap.size w w' := by
 have hil : i < ss.length := by omega
 have hgd : ss.getD i Se.new = ss[i] := getD_at hil Se.new
 obtain ⟨A', c', e, hc, hz, hs⟩ := h
 injection e with e1 e2 e3
 subst e1 e3
 obtain ⟨ad, hA, hAB, hse⟩ := hs (by omega)
 subst hA
 have y := hse i hil
 rw [hgd] at hs0
 obtain ⟨t, ht⟩ : ∃ t, ss[i] = t := ⟨_, rfl⟩
 rw [ht] at y hs0
 obtain ⟨x0, ⟨v1, x1, p1⟩, ⟨v2, x2, p2⟩, ⟨v3, x3, p3⟩, ⟨v4, x4, p4⟩, -, -⟩ := y
 obtain ⟨A1, z1, rfl⟩ := p1.form
 obtain ⟨A2, z2, rfl⟩ := p2.form
 obtain ⟨A3, z3, rfl⟩ := p3.form
 obtain ⟨A4, z4, rfl⟩ := p4.form
 have g1 : (i : Int) < (n : Int) := by omega
 have g2 : (0 : Int) ≤ (i : Int) := by omega
 clear hs hse hgd hz hc ht p1 p2 p3 p4 e2
 rw [hs0] at x0
 clear hs0
 go_enter Tryd.func77, Tryd.ntmps77
 go_upto_region 1 with fail
 obtain ⟨w4, hw4⟩ : ∃ w4, w4 = ((((w.alloc (.cells #[.slice Ar nr cr, .slice (some ad) n c] 31)).alloc (.cells #[.int .i64 2, .string key, .string val] 23)).alloc (.cells #[.slice none 0 0, .slice none 0 0] 31)).alloc (.cells #[.int .i64 0, .string ⟨#[]⟩, .int .i64 0] 48)) := ⟨_, rfl⟩
 obtain ⟨d1, d2, d3, d4, d5, d6⟩ := did_boxes w _ _ ⟨2, key, val⟩ w4 hw4
 have d4 : Blk w4 (w.heap.size + 1) 23 #[.int .i64 2, .string key, .string val] := d4
 rw [← hw4]
 have hlb : (ad.add (i * 5)).block < w.heap.size := by rw [block_of_add]; exact hAB
 have y0 := (d1.cell hlb).trans x0
 have y1 := (d1.cell (by exact hlb)).trans x1
 have y2 := (d1.cell (by exact hlb)).trans x2
 have y3 := (d1.cell (by exact hlb)).trans x3
 have y4 := (d1.cell (by exact hlb)).trans x4
 have f1 := d3.cell_ 1 _ rfl
 have D1 := Lib.hid d1
 have D3 := Lib.hid d3
 have D4 := Lib.hid d4
 have D5 := Lib.hid d5
 have D6 := Lib.hid d6
 have D2 := Lib.hid d2
 clear x0 x1 x2 x3 x4 hw4 d1 d2 d3 d4 d5 d6 hlb
 go_upto_region 2 with fail
 have bb := boxed w4 (.cells #[.int .i64 0, .slice A1 t.set.length z1, .slice A2 t.pre.length z2, .slice A3 t.sav.length z3, .slice A4 t.wri.length z4] 58)
 have S5 := Blk.new w4 58 #[.int .i64 0, .slice A1 t.set.length z1, .slice A2 t.pre.length z2, .slice A3 t.sav.length z3, .slice A4 t.wri.length z4]
 have bb2 := boxed2 w4 (.cells #[.int .i64 0, .slice A1 t.set.length z1, .slice A2 t.pre.length z2, .slice A3 t.sav.length z3, .slice A4 t.wri.length z4] 58) (.cells #[.int .i64 1, .string ⟨#[]⟩, .int .i64 0] 48)
 clear y0 y1 y2 y3 y4 f1
 go_upto_region 3 with fail
 have s0 := (S5.alloc (.cells #[.int .i64 1, .string ⟨#[]⟩, .int .i64 0] 48)).cell_ 0 _ rfl
 have r0 := (D3.out.keep bb2).cell_ 0 _ rfl
 have r1 := (D3.out.keep bb2).cell_ 1 _ rfl
 have t0 := (D4.out.keep bb2).cell_ 0 _ rfl
 have R2 := Lib.hid (D5.out.keep bb2)
 have R3 := Lib.hid (D6.out.keep bb2)
 have BB := Lib.hid (below_step D1.out (Nat.le_refl _) bb2)
 clear bb bb2 S5
 generalize (w4.alloc _).alloc _ = w6 at s0 r0 r1 t0 R2 R3 BB ⊢
 go_upto_region 15 with fail
 refine region_segs [2, 3] (by kernel_rfl) ?_
 refine anyB_seg [0] 3 rfl (by kernel_rfl) (by kernel_rfl) (by kernel_rfl) (fun _ _ d _ _ h => by cases d <;> exact h) ?_
 simp only [pickOps, List.getElem?_toArray, List.getElem?_cons_zero]
 go_wp2_with fail
 refine ⟨rfl, by rfl, ?_⟩
 have R2 := Lib.hid (R2.out.keep (Below.refl _ _).drew)
 have R3 := Lib.hid (R3.out.keep (Below.refl _ _).drew)
 have BB := Lib.hid BB.out.drew
 clear s0 r0 r1 t0
 generalize w6.drew = w7 at R2 R3 BB ⊢
 refine anyB_one (i := 1) (by kernel_rfl) rfl (fun K hK => ?_)
 go_simp
 refine (refno_any w7 tNoTx).mono ?_
 rintro e w8 ⟨rfl, b⟩
 refine hK.out _ _ (fun _ => b) ?_
 clear hK K
 have b8 := below_step BB.out (Nat.le_refl _) b
 have R8 := R2.out.keep b
 have T8 := R3.out.keep b
 have u0 := R8.cell_ 0 _ rfl
 have u1 := R8.cell_ 1 _ rfl
 have v0 := T8.cell_ 0 _ rfl
 have v1 := T8.cell_ 1 _ rfl
 have v2 := T8.cell_ 2 _ rfl
 have ff := R8.frozen
 have fg := T8.frozen
 have n23 : w.heap.size + 3 ≠ w.heap.size + 2 := by omega
 have FIN := Lib.hid (((((b8.setCell (p := ⟨w.heap.size + 2, 0, none⟩) (by show w.heap.size ≤ w.heap.size + 2; omega) (.slice Ar nr cr)).setCell (p := ⟨w.heap.size + 2, 1, none⟩) (by show w.heap.size ≤ w.heap.size + 2; omega) (.slice (some ad) n c)).setCell (p := ⟨w.heap.size + 3, 0, none⟩) (by show w.heap.size ≤ w.heap.size + 3; omega) (.int .i64 4)).setCell (p := ⟨w.heap.size + 3, 1, none⟩) (by show w.heap.size ≤ w.heap.size + 3; omega) (.string tNoTx)).setCell (p := ⟨w.heap.size + 3, 2, none⟩) (by show w.heap.size ≤ w.heap.size + 3; omega) (.int .i64 0))
 have hb2 := ((((R8.set_ 0 (.slice Ar nr cr)).set_ 1 (.slice (some ad) n c)).far (p := ⟨w.heap.size + 3, 0, none⟩) n23.symm (.int .i64 4)).far (p := ⟨w.heap.size + 3, 1, none⟩) n23.symm (.string tNoTx)).far (p := ⟨w.heap.size + 3, 2, none⟩) n23.symm (.int .i64 0)
 have hb3 := ((((T8.far (p := ⟨w.heap.size + 2, 0, none⟩) n23 (.slice Ar nr cr)).far (p := ⟨w.heap.size + 2, 1, none⟩) n23 (.slice (some ad) n c)).set_ 0 (.int .i64 4)).set_ 1 (.string tNoTx)).set_ 2 (.int .i64 0)
 have q0 := hb2.cell_ 0 _ rfl
 have q1 := hb2.cell_ 1 _ rfl
 have p0 := hb3.cell_ 0 _ rfl
 have p1 := hb3.cell_ 1 _ rfl
 have p2 := hb3.cell_ 2 _ rfl
 clear hb2 hb3 R8 T8 b b8
 refine anyB_one (i := 2) (by kernel_rfl) rfl (fun K hK => ?_)
 go_simp
 refine hK.out _ _ (fun h => absurd (by decide) h) ?_
 clear hK K
 refine anyB_one (i := 3) (by kernel_rfl) rfl (fun K hK => ?_)
 go_simp
 refine hK.out _ _ (fun h => absurd (by decide) h) ?_
 clear hK K
 refine anyB_done (by kernel_rfl) ?_ _
 clear u0 u1 v0 v1 v2 ff fg
 generalize World.setCell _ _ _ = w9 at FIN q0 q1 p0 p1 p2 ⊢
 go_wp2_with fail
 refine bodyPost_ret (v := .tuple #[.agg #[.slice Ar nr cr, .slice (some ad) n c], .agg #[.int .i64 4, .string tNoTx, .int .i64 0]]) ?_ rfl ⟨rfl, FIN.out⟩
 simp [results, Tryd.results77, go_sem, q0, q1, p0, p1, p2]
set_option maxHeartbeats 8000000 in
set_option maxRecDepth 100000 in
theorem refdid_notx3 (w : World) (A : Option Addr) (n c : Nat) (Ar : Option Addr) (nr cr : Nat) (ss : List Se) (i : Nat) (key val : ByteArray) (hn : ss.length = n) (h : SL w w.heap.size (.slice A n c) ss) (hi : i < n) (hs0 : (ss.getD i Se.new).st = 0) :
  Calls Tryd.prog 77 #[.agg #[.slice Ar nr cr, .slice A n c], .int .i64 (i : Nat), .agg #[.int .i64 3, .string key, .string val]] w fun e w' =>
   e = .returned (.tuple #[.agg #[.slice Ar nr cr, .slice A n c], .agg #[.int .i64 4, .string tNoTx, .int .i64 0]]) ∧ Below w.heap.size w w' := by
 have hil : i < ss.length := by omega
 have hgd : ss.getD i Se.new = ss[i] := getD_at hil Se.new
 obtain ⟨A', c', e, hc, hz, hs⟩ := h
 injection e with e1 e2 e3
 subst e1 e3
 obtain ⟨ad, hA, hAB, hse⟩ := hs (by omega)
 subst hA
 have y := hse i hil
 rw [hgd] at hs0
 obtain ⟨t, ht⟩ : ∃ t, ss[i] = t := ⟨_, rfl⟩
 rw [ht] at y hs0
 obtain ⟨x0, ⟨v1, x1, p1⟩, ⟨v2, x2, p2⟩, ⟨v3, x3, p3⟩, ⟨v4, x4, p4⟩, -, -⟩ := y
 obtain ⟨A1, z1, rfl⟩ := p1.form
 obtain ⟨A2, z2, rfl⟩ := p2.form
 obtain ⟨A3, z3, rfl⟩ := p3.form
 obtain ⟨A4, z4, rfl⟩ := p4.form
 have g1 : (i : Int) < (n : Int) := by omega
 have g2 : (0 : Int) ≤ (i : Int) := by omega
 clear hs hse hgd hz hc ht p1 p2 p3 p4 e2
 rw [hs0] at x0
 clear hs0
 go_enter Tryd.func77, Tryd.ntmps77
 go_upto_region 1 with fail
 obtain ⟨w4, hw4⟩ : ∃ w4, w4 = ((((w.alloc (.cells #[.slice Ar nr cr, .slice (some ad) n c] 31)).alloc (.cells #[.int .i64 3, .string key, .string val] 23)).alloc (.cells #[.slice none 0 0, .slice none 0 0] 31)).alloc (.cells #[.int .i64 0, .string ⟨#[]⟩, .int .i64 0] 48)) := ⟨_, rfl⟩
 obtain ⟨d1, d2, d3, d4, d5, d6⟩ := did_boxes w _ _ ⟨3, key, val⟩ w4 hw4
 have d4 : Blk w4 (w.heap.size + 1) 23 #[.int .i64 3, .string key, .string val] := d4
 rw [← hw4]
 have hlb : (ad.add (i * 5)).block < w.heap.size := by rw [block_of_add]; exact hAB
 have y0 := (d1.cell hlb).trans x0
 have y1 := (d1.cell (by exact hlb)).trans x1
 have y2 := (d1.cell (by exact hlb)).trans x2
 have y3 := (d1.cell (by exact hlb)).trans x3
 have y4 := (d1.cell (by exact hlb)).trans x4
 have f1 := d3.cell_ 1 _ rfl
 have D1 := Lib.hid d1
 have D3 := Lib.hid d3
 have D4 := Lib.hid d4
 have D5 := Lib.hid d5
 have D6 := Lib.hid d6
 have D2 := Lib.hid d2
 clear x0 x1 x2 x3 x4 hw4 d1 d2 d3 d4 d5 d6 hlb
 go_upto_region 2 with fail
 have bb := boxed w4 (.cells #[.int .i64 0, .slice A1 t.set.length z1, .slice A2 t.pre.length z2, .slice A3 t.sav.length z3, .slice A4 t.wri.length z4] 58)
 have S5 := Blk.new w4 58 #[.int .i64 0, .slice A1 t.set.length z1, .slice A2 t.pre.length z2, .slice A3 t.sav.length z3, .slice A4 t.wri.length z4]
 have bb2 := boxed2 w4 (.cells #[.int .i64 0, .slice A1 t.set.length z1, .slice A2 t.pre.length z2, .slice A3 t.sav.length z3, .slice A4 t.wri.length z4] 58) (.cells #[.int .i64 1, .string ⟨#[]⟩, .int .i64 0] 48)
 clear y0 y1 y2 y3 y4 f1
 go_upto_region 3 with fail
 have s0 := (S5.alloc (.cells #[.int .i64 1, .string ⟨#[]⟩, .int .i64 0] 48)).cell_ 0 _ rfl
 have r0 := (D3.out.keep bb2).cell_ 0 _ rfl
 have r1 := (D3.out.keep bb2).cell_ 1 _ rfl
 have t0 := (D4.out.keep bb2).cell_ 0 _ rfl
 have R2 := Lib.hid (D5.out.keep bb2)
 have R3 := Lib.hid (D6.out.keep bb2)
 have BB := Lib.hid (below_step D1.out (Nat.le_refl _) bb2)
 clear bb bb2 S5
 generalize (w4.alloc _).alloc _ = w6 at s0 r0 r1 t0 R2 R3 BB ⊢
 go_upto_region 15 with fail
 refine region_segs [2, 3] (by kernel_rfl) ?_
 refine anyB_seg [0] 3 rfl (by kernel_rfl) (by kernel_rfl) (by kernel_rfl) (fun _ _ d _ _ h => by cases d <;> exact h) ?_
 simp only [pickOps, List.getElem?_toArray, List.getElem?_cons_zero]
 go_wp2_with fail
 refine ⟨rfl, by rfl, ?_⟩
 have R2 := Lib.hid (R2.out.keep (Below.refl _ _).drew)
 have R3 := Lib.hid (R3.out.keep (Below.refl _ _).drew)
 have BB := Lib.hid BB.out.drew
 clear s0 r0 r1 t0
 generalize w6.drew = w7 at R2 R3 BB ⊢
 refine anyB_one (i := 1) (by kernel_rfl) rfl (fun K hK => ?_)
 go_simp
 refine (refno_any w7 tNoTx).mono ?_
 rintro e w8 ⟨rfl, b⟩
 refine hK.out _ _ (fun _ => b) ?_
 clear hK K
 have b8 := below_step BB.out (Nat.le_refl _) b
 have R8 := R2.out.keep b
 have T8 := R3.out.keep b
 have u0 := R8.cell_ 0 _ rfl
 have u1 := R8.cell_ 1 _ rfl
 have v0 := T8.cell_ 0 _ rfl
 have v1 := T8.cell_ 1 _ rfl
 have v2 := T8.cell_ 2 _ rfl
 have ff := R8.frozen
 have fg := T8.frozen
 have n23 : w.heap.size + 3 ≠ w.heap.size + 2 := by omega
 have FIN := Lib.hid (((((b8.setCell (p := ⟨w.heap.size + 2, 0, none⟩) (by show w.heap.size ≤ w.heap.size + 2; omega) (.slice Ar nr cr)).setCell (p := ⟨w.heap.size + 2, 1, none⟩) (by show w.heap.size ≤ w.heap.size + 2; omega) (.slice (some ad) n c)).setCell (p := ⟨w.heap.size + 3, 0, none⟩) (by show w.heap.size ≤ w.heap.size + 3; omega) (.int .i64 4)).setCell (p := ⟨w.heap.size + 3, 1, none⟩) (by show w.heap.size ≤ w.heap.size + 3; omega) (.string tNoTx)).setCell (p := ⟨w.heap.size + 3, 2, none⟩) (by show w.heap.size ≤ w.heap.size + 3; omega) (.int .i64 0))
 have hb2 := ((((R8.set_ 0 (.slice Ar nr cr)).set_ 1 (.slice (some ad) n c)).far (p := ⟨w.heap.size + 3, 0, none⟩) n23.symm (.int .i64 4)).far (p := ⟨w.heap.size + 3, 1, none⟩) n23.symm (.string tNoTx)).far (p := ⟨w.heap.size + 3, 2, none⟩) n23.symm (.int .i64 0)
 have hb3 := ((((T8.far (p := ⟨w.heap.size + 2, 0, none⟩) n23 (.slice Ar nr cr)).far (p := ⟨w.heap.size + 2, 1, none⟩) n23 (.slice (some ad) n c)).set_ 0 (.int .i64 4)).set_ 1 (.string tNoTx)).set_ 2 (.int .i64 0)
 have q0 := hb2.cell_ 0 _ rfl
 have q1 := hb2.cell_ 1 _ rfl
 have p0 := hb3.cell_ 0 _ rfl
 have p1 := hb3.cell_ 1 _ rfl
 have p2 := hb3.cell_ 2 _ rfl
 clear hb2 hb3 R8 T8 b b8
 refine anyB_one (i := 2) (by kernel_rfl) rfl (fun K hK => ?_)
 go_simp
 refine hK.out _ _ (fun h => absurd (by decide) h) ?_
 clear hK K
 refine anyB_one (i := 3) (by kernel_rfl) rfl (fun K hK => ?_)
 go_simp
 refine hK.out _ _ (fun h => absurd (by decide) h) ?_
 clear hK K
 refine anyB_done (by kernel_rfl) ?_ _
 clear u0 u1 v0 v1 v2 ff fg
 generalize World.setCell _ _ _ = w9 at FIN q0 q1 p0 p1 p2 ⊢
 go_wp2_with fail
 refine bodyPost_ret (v := .tuple #[.agg #[.slice Ar nr cr, .slice (some ad) n c], .agg #[.int .i64 4, .string tNoTx, .int .i64 0]]) ?_ rfl ⟨rfl, FIN.out⟩
 simp [results, Tryd.results77, go_sem, q0, q1, p0, p1, p2]
set_option maxHeartbeats 8000000 in
set_option maxRecDepth 100000 in
theorem refdid_notin (w : World) (A : Option Addr) (n c : Nat) (Ar : Option Addr) (nr cr : Nat) (ss : List Se) (i : Nat) (key val : ByteArray) (hn : ss.length = n) (h : SL w w.heap.size (.slice A n c) ss) (hi : i < n) (hs0 : (ss.getD i Se.new).st ≠ 2) (hs1 : (ss.getD i Se.new).st ≠ 0) :
  Calls Tryd.prog 77 #[.agg #[.slice Ar nr cr, .slice A n c], .int .i64 (i : Nat), .agg #[.int .i64 4, .string key, .string val]] w fun e w' =>
   e = .returned (.tuple #[.agg #[.slice Ar nr cr, .slice A n c], .agg #[.int .i64 4, .string tNotIn, .int .i64 0]]) ∧ Below w.heap.size w w' := by
 have hil : i < ss.length := by omega
 have hgd : ss.getD i Se.new = ss[i] := getD_at hil Se.new
 obtain ⟨A', c', e, hc, hz, hs⟩ := h
 injection e with e1 e2 e3
 subst e1 e3
 obtain ⟨ad, hA, hAB, hse⟩ := hs (by omega)
 subst hA
 have y := hse i hil
 rw [hgd] at hs0 hs1
 obtain ⟨t, ht⟩ : ∃ t, ss[i] = t := ⟨_, rfl⟩
 rw [ht] at y hs0 hs1
 obtain ⟨x0, ⟨v1, x1, p1⟩, ⟨v2, x2, p2⟩, ⟨v3, x3, p3⟩, ⟨v4, x4, p4⟩, -, -⟩ := y
 obtain ⟨A1, z1, rfl⟩ := p1.form
 obtain ⟨A2, z2, rfl⟩ := p2.form
 obtain ⟨A3, z3, rfl⟩ := p3.form
 obtain ⟨A4, z4, rfl⟩ := p4.form
 have g1 : (i : Int) < (n : Int) := by omega
 have g2 : (0 : Int) ≤ (i : Int) := by omega
 clear hs hse hgd hz hc ht p1 p2 p3 p4 e2
 go_enter Tryd.func77, Tryd.ntmps77
 go_upto_region 1 with fail
 obtain ⟨w4, hw4⟩ : ∃ w4, w4 = ((((w.alloc (.cells #[.slice Ar nr cr, .slice (some ad) n c] 31)).alloc (.cells #[.int .i64 4, .string key, .string val] 23)).alloc (.cells #[.slice none 0 0, .slice none 0 0] 31)).alloc (.cells #[.int .i64 0, .string ⟨#[]⟩, .int .i64 0] 48)) := ⟨_, rfl⟩
 obtain ⟨d1, d2, d3, d4, d5, d6⟩ := did_boxes w _ _ ⟨4, key, val⟩ w4 hw4
 have d4 : Blk w4 (w.heap.size + 1) 23 #[.int .i64 4, .string key, .string val] := d4
 rw [← hw4]
 have hlb : (ad.add (i * 5)).block < w.heap.size := by rw [block_of_add]; exact hAB
 have y0 := (d1.cell hlb).trans x0
 have y1 := (d1.cell (by exact hlb)).trans x1
 have y2 := (d1.cell (by exact hlb)).trans x2
 have y3 := (d1.cell (by exact hlb)).trans x3
 have y4 := (d1.cell (by exact hlb)).trans x4
 have f1 := d3.cell_ 1 _ rfl
 have D1 := Lib.hid d1
 have D3 := Lib.hid d3
 have D4 := Lib.hid d4
 have D5 := Lib.hid d5
 have D6 := Lib.hid d6
 have D2 := Lib.hid d2
 clear x0 x1 x2 x3 x4 hw4 d1 d2 d3 d4 d5 d6 hlb
 go_upto_region 2 with fail
 have bb := boxed w4 (.cells #[.int .i64 t.st, .slice A1 t.set.length z1, .slice A2 t.pre.length z2, .slice A3 t.sav.length z3, .slice A4 t.wri.length z4] 58)
 have S5 := Blk.new w4 58 #[.int .i64 t.st, .slice A1 t.set.length z1, .slice A2 t.pre.length z2, .slice A3 t.sav.length z3, .slice A4 t.wri.length z4]
 have bb2 := boxed2 w4 (.cells #[.int .i64 t.st, .slice A1 t.set.length z1, .slice A2 t.pre.length z2, .slice A3 t.sav.length z3, .slice A4 t.wri.length z4] 58) (.cells #[.int .i64 1, .string ⟨#[]⟩, .int .i64 0] 48)
 clear y0 y1 y2 y3 y4 f1
 go_upto_region 3 with fail
 have s0 := (S5.alloc (.cells #[.int .i64 1, .string ⟨#[]⟩, .int .i64 0] 48)).cell_ 0 _ rfl
 have r0 := (D3.out.keep bb2).cell_ 0 _ rfl
 have r1 := (D3.out.keep bb2).cell_ 1 _ rfl
 have t0 := (D4.out.keep bb2).cell_ 0 _ rfl
 have R2 := Lib.hid (D5.out.keep bb2)
 have R3 := Lib.hid (D6.out.keep bb2)
 have BB := Lib.hid (below_step D1.out (Nat.le_refl _) bb2)
 have e2 : (t.st == 2) = false := by simpa using hs0
 have e2' : ¬ t.st = 2 := hs0
 have e0 : (t.st == 0) = false := by simpa using hs1
 have e0' : ¬ t.st = 0 := hs1
 clear bb bb2 S5
 generalize (w4.alloc _).alloc _ = w6 at s0 r0 r1 t0 R2 R3 BB ⊢
 go_upto_region 27 with fail
 refine region_segs [2, 3] (by kernel_rfl) ?_
 refine anyB_seg [0] 3 rfl (by kernel_rfl) (by kernel_rfl) (by kernel_rfl) (fun _ _ d _ _ h => by cases d <;> exact h) ?_
 simp only [pickOps, List.getElem?_toArray, List.getElem?_cons_zero]
 go_wp2_with fail
 refine ⟨rfl, by rfl, ?_⟩
 have R2 := Lib.hid (R2.out.keep (Below.refl _ _).drew)
 have R3 := Lib.hid (R3.out.keep (Below.refl _ _).drew)
 have BB := Lib.hid BB.out.drew
 clear s0 r0 r1 t0
 generalize w6.drew = w7 at R2 R3 BB ⊢
 refine anyB_one (i := 1) (by kernel_rfl) rfl (fun K hK => ?_)
 go_simp
 refine (refno_any w7 tNotIn).mono ?_
 rintro e w8 ⟨rfl, b⟩
 refine hK.out _ _ (fun _ => b) ?_
 clear hK K
 have b8 := below_step BB.out (Nat.le_refl _) b
 have R8 := R2.out.keep b
 have T8 := R3.out.keep b
 have u0 := R8.cell_ 0 _ rfl
 have u1 := R8.cell_ 1 _ rfl
 have v0 := T8.cell_ 0 _ rfl
 have v1 := T8.cell_ 1 _ rfl
 have v2 := T8.cell_ 2 _ rfl
 have ff := R8.frozen
 have fg := T8.frozen
 have n23 : w.heap.size + 3 ≠ w.heap.size + 2 := by omega
 have FIN := Lib.hid (((((b8.setCell (p := ⟨w.heap.size + 2, 0, none⟩) (by show w.heap.size ≤ w.heap.size + 2; omega) (.slice Ar nr cr)).setCell (p := ⟨w.heap.size + 2, 1, none⟩) (by show w.heap.size ≤ w.heap.size + 2; omega) (.slice (some ad) n c)).setCell (p := ⟨w.heap.size + 3, 0, none⟩) (by show w.heap.size ≤ w.heap.size + 3; omega) (.int .i64 4)).setCell (p := ⟨w.heap.size + 3, 1, none⟩) (by show w.heap.size ≤ w.heap.size + 3; omega) (.string tNotIn)).setCell (p := ⟨w.heap.size + 3, 2, none⟩) (by show w.heap.size ≤ w.heap.size + 3; omega) (.int .i64 0))
 have hb2 := ((((R8.set_ 0 (.slice Ar nr cr)).set_ 1 (.slice (some ad) n c)).far (p := ⟨w.heap.size + 3, 0, none⟩) n23.symm (.int .i64 4)).far (p := ⟨w.heap.size + 3, 1, none⟩) n23.symm (.string tNotIn)).far (p := ⟨w.heap.size + 3, 2, none⟩) n23.symm (.int .i64 0)
 have hb3 := ((((T8.far (p := ⟨w.heap.size + 2, 0, none⟩) n23 (.slice Ar nr cr)).far (p := ⟨w.heap.size + 2, 1, none⟩) n23 (.slice (some ad) n c)).set_ 0 (.int .i64 4)).set_ 1 (.string tNotIn)).set_ 2 (.int .i64 0)
 have q0 := hb2.cell_ 0 _ rfl
 have q1 := hb2.cell_ 1 _ rfl
 have p0 := hb3.cell_ 0 _ rfl
 have p1 := hb3.cell_ 1 _ rfl
 have p2 := hb3.cell_ 2 _ rfl
 clear hb2 hb3 R8 T8 b b8
 refine anyB_one (i := 2) (by kernel_rfl) rfl (fun K hK => ?_)
 go_simp
 refine hK.out _ _ (fun h => absurd (by decide) h) ?_
 clear hK K
 refine anyB_one (i := 3) (by kernel_rfl) rfl (fun K hK => ?_)
 go_simp
 refine hK.out _ _ (fun h => absurd (by decide) h) ?_
 clear hK K
 refine anyB_done (by kernel_rfl) ?_ _
 clear u0 u1 v0 v1 v2 ff fg
 generalize World.setCell _ _ _ = w9 at FIN q0 q1 p0 p1 p2 ⊢
 go_wp2_with fail
 refine bodyPost_ret (v := .tuple #[.agg #[.slice Ar nr cr, .slice (some ad) n c], .agg #[.int .i64 4, .string tNotIn, .int .i64 0]]) ?_ rfl ⟨rfl, FIN.out⟩
 simp [results, Tryd.results77, go_sem, q0, q1, p0, p1, p2]
set_option maxHeartbeats 8000000 in
set_option maxRecDepth 100000 in
theorem refdid_asked (w : World) (A : Option Addr) (n c : Nat) (Ar : Option Addr) (nr cr : Nat) (ss : List Se) (i : Nat) (key val : ByteArray) (hn : ss.length = n) (h : SL w w.heap.size (.slice A n c) ss) (hi : i < n) (hs0 : (ss.getD i Se.new).st ≠ 2) :
  Calls Tryd.prog 77 #[.agg #[.slice Ar nr cr, .slice A n c], .int .i64 (i : Nat), .agg #[.int .i64 5, .string key, .string val]] w fun e w' =>
   e = .returned (.tuple #[.agg #[.slice Ar nr cr, .slice A n c], .agg #[.int .i64 4, .string tAsked, .int .i64 0]]) ∧ Below w.heap.size w w' := by
 have hil : i < ss.length := by omega
 have hgd : ss.getD i Se.new = ss[i] := getD_at hil Se.new
 obtain ⟨A', c', e, hc, hz, hs⟩ := h
 injection e with e1 e2 e3
 subst e1 e3
 obtain ⟨ad, hA, hAB, hse⟩ := hs (by omega)
 subst hA
 have y := hse i hil
 rw [hgd] at hs0
 obtain ⟨t, ht⟩ : ∃ t, ss[i] = t := ⟨_, rfl⟩
 rw [ht] at y hs0
 obtain ⟨x0, ⟨v1, x1, p1⟩, ⟨v2, x2, p2⟩, ⟨v3, x3, p3⟩, ⟨v4, x4, p4⟩, -, -⟩ := y
 obtain ⟨A1, z1, rfl⟩ := p1.form
 obtain ⟨A2, z2, rfl⟩ := p2.form
 obtain ⟨A3, z3, rfl⟩ := p3.form
 obtain ⟨A4, z4, rfl⟩ := p4.form
 have g1 : (i : Int) < (n : Int) := by omega
 have g2 : (0 : Int) ≤ (i : Int) := by omega
 clear hs hse hgd hz hc ht p1 p2 p3 p4 e2
 go_enter Tryd.func77, Tryd.ntmps77
 go_upto_region 1 with fail
 obtain ⟨w4, hw4⟩ : ∃ w4, w4 = ((((w.alloc (.cells #[.slice Ar nr cr, .slice (some ad) n c] 31)).alloc (.cells #[.int .i64 5, .string key, .string val] 23)).alloc (.cells #[.slice none 0 0, .slice none 0 0] 31)).alloc (.cells #[.int .i64 0, .string ⟨#[]⟩, .int .i64 0] 48)) := ⟨_, rfl⟩
 obtain ⟨d1, d2, d3, d4, d5, d6⟩ := did_boxes w _ _ ⟨5, key, val⟩ w4 hw4
 have d4 : Blk w4 (w.heap.size + 1) 23 #[.int .i64 5, .string key, .string val] := d4
 rw [← hw4]
 have hlb : (ad.add (i * 5)).block < w.heap.size := by rw [block_of_add]; exact hAB
 have y0 := (d1.cell hlb).trans x0
 have y1 := (d1.cell (by exact hlb)).trans x1
 have y2 := (d1.cell (by exact hlb)).trans x2
 have y3 := (d1.cell (by exact hlb)).trans x3
 have y4 := (d1.cell (by exact hlb)).trans x4
 have f1 := d3.cell_ 1 _ rfl
 have D1 := Lib.hid d1
 have D3 := Lib.hid d3
 have D4 := Lib.hid d4
 have D5 := Lib.hid d5
 have D6 := Lib.hid d6
 have D2 := Lib.hid d2
 clear x0 x1 x2 x3 x4 hw4 d1 d2 d3 d4 d5 d6 hlb
 go_upto_region 2 with fail
 have bb := boxed w4 (.cells #[.int .i64 t.st, .slice A1 t.set.length z1, .slice A2 t.pre.length z2, .slice A3 t.sav.length z3, .slice A4 t.wri.length z4] 58)
 have S5 := Blk.new w4 58 #[.int .i64 t.st, .slice A1 t.set.length z1, .slice A2 t.pre.length z2, .slice A3 t.sav.length z3, .slice A4 t.wri.length z4]
 have bb2 := boxed2 w4 (.cells #[.int .i64 t.st, .slice A1 t.set.length z1, .slice A2 t.pre.length z2, .slice A3 t.sav.length z3, .slice A4 t.wri.length z4] 58) (.cells #[.int .i64 1, .string ⟨#[]⟩, .int .i64 0] 48)
 clear y0 y1 y2 y3 y4 f1
 go_upto_region 3 with fail
 have s0 := (S5.alloc (.cells #[.int .i64 1, .string ⟨#[]⟩, .int .i64 0] 48)).cell_ 0 _ rfl
 have r0 := (D3.out.keep bb2).cell_ 0 _ rfl
 have r1 := (D3.out.keep bb2).cell_ 1 _ rfl
 have t0 := (D4.out.keep bb2).cell_ 0 _ rfl
 have R2 := Lib.hid (D5.out.keep bb2)
 have R3 := Lib.hid (D6.out.keep bb2)
 have BB := Lib.hid (below_step D1.out (Nat.le_refl _) bb2)
 have e2 : (t.st == 2) = false := by simpa using hs0
 have e2' : ¬ t.st = 2 := hs0
 clear bb bb2 S5
 generalize (w4.alloc _).alloc _ = w6 at s0 r0 r1 t0 R2 R3 BB ⊢
 go_upto_region 31 with fail
 refine region_segs [2, 3] (by kernel_rfl) ?_
 refine anyB_seg [0] 3 rfl (by kernel_rfl) (by kernel_rfl) (by kernel_rfl) (fun _ _ d _ _ h => by cases d <;> exact h) ?_
 simp only [pickOps, List.getElem?_toArray, List.getElem?_cons_zero]
 go_wp2_with fail
 refine ⟨rfl, by rfl, ?_⟩
 have R2 := Lib.hid (R2.out.keep (Below.refl _ _).drew)
 have R3 := Lib.hid (R3.out.keep (Below.refl _ _).drew)
 have BB := Lib.hid BB.out.drew
 clear s0 r0 r1 t0
 generalize w6.drew = w7 at R2 R3 BB ⊢
 refine anyB_one (i := 1) (by kernel_rfl) rfl (fun K hK => ?_)
 go_simp
 refine (refno_any w7 tAsked).mono ?_
 rintro e w8 ⟨rfl, b⟩
 refine hK.out _ _ (fun _ => b) ?_
 clear hK K
 have b8 := below_step BB.out (Nat.le_refl _) b
 have R8 := R2.out.keep b
 have T8 := R3.out.keep b
 have u0 := R8.cell_ 0 _ rfl
 have u1 := R8.cell_ 1 _ rfl
 have v0 := T8.cell_ 0 _ rfl
 have v1 := T8.cell_ 1 _ rfl
 have v2 := T8.cell_ 2 _ rfl
 have ff := R8.frozen
 have fg := T8.frozen
 have n23 : w.heap.size + 3 ≠ w.heap.size + 2 := by omega
 have FIN := Lib.hid (((((b8.setCell (p := ⟨w.heap.size + 2, 0, none⟩) (by show w.heap.size ≤ w.heap.size + 2; omega) (.slice Ar nr cr)).setCell (p := ⟨w.heap.size + 2, 1, none⟩) (by show w.heap.size ≤ w.heap.size + 2; omega) (.slice (some ad) n c)).setCell (p := ⟨w.heap.size + 3, 0, none⟩) (by show w.heap.size ≤ w.heap.size + 3; omega) (.int .i64 4)).setCell (p := ⟨w.heap.size + 3, 1, none⟩) (by show w.heap.size ≤ w.heap.size + 3; omega) (.string tAsked)).setCell (p := ⟨w.heap.size + 3, 2, none⟩) (by show w.heap.size ≤ w.heap.size + 3; omega) (.int .i64 0))
 have hb2 := ((((R8.set_ 0 (.slice Ar nr cr)).set_ 1 (.slice (some ad) n c)).far (p := ⟨w.heap.size + 3, 0, none⟩) n23.symm (.int .i64 4)).far (p := ⟨w.heap.size + 3, 1, none⟩) n23.symm (.string tAsked)).far (p := ⟨w.heap.size + 3, 2, none⟩) n23.symm (.int .i64 0)
 have hb3 := ((((T8.far (p := ⟨w.heap.size + 2, 0, none⟩) n23 (.slice Ar nr cr)).far (p := ⟨w.heap.size + 2, 1, none⟩) n23 (.slice (some ad) n c)).set_ 0 (.int .i64 4)).set_ 1 (.string tAsked)).set_ 2 (.int .i64 0)
 have q0 := hb2.cell_ 0 _ rfl
 have q1 := hb2.cell_ 1 _ rfl
 have p0 := hb3.cell_ 0 _ rfl
 have p1 := hb3.cell_ 1 _ rfl
 have p2 := hb3.cell_ 2 _ rfl
 clear hb2 hb3 R8 T8 b b8
 refine anyB_one (i := 2) (by kernel_rfl) rfl (fun K hK => ?_)
 go_simp
 refine hK.out _ _ (fun h => absurd (by decide) h) ?_
 clear hK K
 refine anyB_one (i := 3) (by kernel_rfl) rfl (fun K hK => ?_)
 go_simp
 refine hK.out _ _ (fun h => absurd (by decide) h) ?_
 clear hK K
 refine anyB_done (by kernel_rfl) ?_ _
 clear u0 u1 v0 v1 v2 ff fg
 generalize World.setCell _ _ _ = w9 at FIN q0 q1 p0 p1 p2 ⊢
 go_wp2_with fail
 refine bodyPost_ret (v := .tuple #[.agg #[.slice Ar nr cr, .slice (some ad) n c], .agg #[.int .i64 4, .string tAsked, .int .i64 0]]) ?_ rfl ⟨rfl, FIN.out⟩
 simp [results, Tryd.results77, go_sem, q0, q1, p0, p1, p2]
end Go.Proofs.YtjbnfigpflambabDoor
/- The reference's did at Get. -/
namespace Go.Proofs.YtjbnfigpflambabDoor
open Go.ChangeShapes Go.WideShapes Go.ChangeAt Go.RowKit
set_option maxHeartbeats 8000000 in
set_option maxRecDepth 100000 in
theorem refdid_get (w : World) (A : Option Addr) (n c : Nat) (Ar : Option Addr) (nr cr : Nat) (ss : List Se) (i : Nat) (key val : ByteArray) (hn : ss.length = n) (h : SL w w.heap.size (.slice A n c) ss) (hi : i < n) (hs0 : (ss.getD i Se.new).st ≠ 2) :
  Calls Tryd.prog 77 #[.agg #[.slice Ar nr cr, .slice A n c], .int .i64 (i : Nat), .agg #[.int .i64 6, .string key, .string val]] w fun e w' =>
   e = .returned (.tuple #[.agg #[.slice Ar nr cr, .slice A n c], (if hasK (ss.getD i Se.new).set key = true then .agg #[.int .i64 2, .string ((atP (ss.getD i Se.new).set key).getD ⟨#[]⟩), .int .i64 0] else .agg #[.int .i64 3, .string ⟨#[]⟩, .int .i64 0])]) ∧ Below w.heap.size w w' := by
 have hil : i < ss.length := by omega
 have hgd : ss.getD i Se.new = ss[i] := getD_at hil Se.new
 obtain ⟨A', c', e, hc, hz, hs⟩ := h
 injection e with e1 e2 e3
 subst e1 e3
 obtain ⟨ad, hA, hAB, hse⟩ := hs (by omega)
 subst hA
 have y := hse i hil
 have hgd2 : (ss.getD i Se.new).set = ss[i].set := by rw [hgd]
 rw [hgd2]
 rw [hgd] at hs0
 obtain ⟨t, ht⟩ : ∃ t, ss[i] = t := ⟨_, rfl⟩
 rw [ht] at y hs0
 rw [ht]
 obtain ⟨x0, ⟨v1, x1, p1⟩, ⟨v2, x2, p2⟩, ⟨v3, x3, p3⟩, ⟨v4, x4, p4⟩, -, -⟩ := y
 obtain ⟨A1, z1, rfl⟩ := p1.form
 obtain ⟨A2, z2, rfl⟩ := p2.form
 obtain ⟨A3, z3, rfl⟩ := p3.form
 obtain ⟨A4, z4, rfl⟩ := p4.form
 have g1 : (i : Int) < (n : Int) := by omega
 have g2 : (0 : Int) ≤ (i : Int) := by omega
 have P1 := Lib.hid (fun (u : World) (hb : Below w.heap.size w u) => (p1.below hb).more hb.size)
 clear hs hse hgd hgd2 hz hc ht p1 p2 p3 p4 e2
 go_enter Tryd.func77, Tryd.ntmps77
 go_upto_region 1 with fail
 obtain ⟨w4, hw4⟩ : ∃ w4, w4 = ((((w.alloc (.cells #[.slice Ar nr cr, .slice (some ad) n c] 31)).alloc (.cells #[.int .i64 6, .string key, .string val] 23)).alloc (.cells #[.slice none 0 0, .slice none 0 0] 31)).alloc (.cells #[.int .i64 0, .string ⟨#[]⟩, .int .i64 0] 48)) := ⟨_, rfl⟩
 obtain ⟨d1, d2, d3, d4, d5, d6⟩ := did_boxes w _ _ ⟨6, key, val⟩ w4 hw4
 have d4 : Blk w4 (w.heap.size + 1) 23 #[.int .i64 6, .string key, .string val] := d4
 rw [← hw4]
 have hlb : (ad.add (i * 5)).block < w.heap.size := by rw [block_of_add]; exact hAB
 have y0 := (d1.cell hlb).trans x0
 have y1 := (d1.cell (by exact hlb)).trans x1
 have y2 := (d1.cell (by exact hlb)).trans x2
 have y3 := (d1.cell (by exact hlb)).trans x3
 have y4 := (d1.cell (by exact hlb)).trans x4
 have f1 := d3.cell_ 1 _ rfl
 have D1 := Lib.hid d1
 have D3 := Lib.hid d3
 have D4 := Lib.hid d4
 have D5 := Lib.hid d5
 have D6 := Lib.hid d6
 have D2 := Lib.hid d2
 clear x0 x1 x2 x3 x4 hw4 d1 d2 d3 d4 d5 d6 hlb
 go_upto_region 2 with fail
 have bb := boxed w4 (.cells #[.int .i64 t.st, .slice A1 t.set.length z1, .slice A2 t.pre.length z2, .slice A3 t.sav.length z3, .slice A4 t.wri.length z4] 58)
 have S5 := Blk.new w4 58 #[.int .i64 t.st, .slice A1 t.set.length z1, .slice A2 t.pre.length z2, .slice A3 t.sav.length z3, .slice A4 t.wri.length z4]
 have bb2 := boxed2 w4 (.cells #[.int .i64 t.st, .slice A1 t.set.length z1, .slice A2 t.pre.length z2, .slice A3 t.sav.length z3, .slice A4 t.wri.length z4] 58) (.cells #[.int .i64 1, .string ⟨#[]⟩, .int .i64 0] 48)
 clear y0 y1 y2 y3 y4 f1
 go_upto_region 3 with fail
 have s0 := (S5.alloc (.cells #[.int .i64 1, .string ⟨#[]⟩, .int .i64 0] 48)).cell_ 0 _ rfl
 have r0 := (D3.out.keep bb2).cell_ 0 _ rfl
 have r1 := (D3.out.keep bb2).cell_ 1 _ rfl
 have t0 := (D4.out.keep bb2).cell_ 0 _ rfl
 have R2 := Lib.hid (D5.out.keep bb2)
 have R3 := Lib.hid (D6.out.keep bb2)
 have BB := Lib.hid (below_step D1.out (Nat.le_refl _) bb2)
 have e2 : (t.st == 2) = false := by simpa using hs0
 have e2' : ¬ t.st = 2 := hs0
 have s1 := (S5.alloc (.cells #[.int .i64 1, .string ⟨#[]⟩, .int .i64 0] 48)).cell_ 1 _ rfl
 have t1 := (D4.out.keep bb2).cell_ 1 _ rfl
 clear bb bb2 S5
 generalize (w4.alloc _).alloc _ = w6 at s0 s1 r0 r1 t0 t1 R2 R3 BB ⊢
 have W6 := Lib.hid (D3.out)
 go_wp2_with fail
 refine (refat_val w6 _ t.set key (P1.out _ BB.out)).mono ?_
 rintro e w7 ⟨rfl, b⟩
 obtain ⟨a0, ha0⟩ : ∃ a, (atP t.set key).getD ⟨#[]⟩ = a := ⟨_, rfl⟩
 obtain ⟨b0, hb0⟩ : ∃ b, hasK t.set key = b := ⟨_, rfl⟩
 rw [ha0, hb0]
 have k0 : w7.cell? ⟨w.heap.size, 0, none⟩ = some (.slice Ar nr cr) := (b.cell (World.block_lt_of_cell? _ _ r0)).trans r0
 have k1 : w7.cell? ⟨w.heap.size, 1, none⟩ = some (.slice (some ad) n c) := (b.cell (World.block_lt_of_cell? _ _ r1)).trans r1
 have R2 := Lib.hid (R2.out.keep b)
 have R3 := Lib.hid (R3.out.keep b)
 have BB := Lib.hid (below_step BB.out (Nat.le_refl _) b)
 have HA := Lib.hid ha0
 have HB0 := Lib.hid hb0
 clear s0 s1 r0 r1 t0 t1 b ha0 hb0
 go_upto_region 34 with fail
 refine region_segs [4, 5] (by kernel_rfl) ?_
 refine anyB_seg [0, 1, 2] 3 rfl (by kernel_rfl) (by kernel_rfl) (by kernel_rfl) (fun _ _ d _ _ h => by cases d <;> exact h) ?_
 simp only [pickOps, List.getElem?_toArray, List.getElem?_cons_zero, List.getElem?_cons_succ]
 go_wp2_with fail
 refine ⟨rfl, by rfl, ?_⟩
 have R2 := Lib.hid (R2.out.keep (Below.refl _ _).drew)
 have R3 := Lib.hid (R3.out.keep (Below.refl _ _).drew)
 have BB := Lib.hid BB.out.drew
 clear k0 k1
 generalize w7.drew = w7 at R2 R3 BB ⊢
 cases b0 with
 | true =>
  have hf := reffound_any w7 a0 true
  simp only [if_true] at hf
  refine anyB_one (i := 3) (by kernel_rfl) rfl (fun K hK => ?_)
  go_simp
  refine hf.mono ?_
  rintro e w8 ⟨rfl, b⟩
  refine hK.out _ _ (fun _ => b) ?_
  clear hK K
  have b8 := below_step BB.out (Nat.le_refl _) b
  have R8 := R2.out.keep b
  have T8 := R3.out.keep b
  have u0 := R8.cell_ 0 _ rfl
  have u1 := R8.cell_ 1 _ rfl
  have v0 := T8.cell_ 0 _ rfl
  have v1 := T8.cell_ 1 _ rfl
  have v2 := T8.cell_ 2 _ rfl
  have ff := R8.frozen
  have fg := T8.frozen
  have n23 : w.heap.size + 3 ≠ w.heap.size + 2 := by omega
  have FIN := Lib.hid (((((b8.setCell (p := ⟨w.heap.size + 2, 0, none⟩) (by show w.heap.size ≤ w.heap.size + 2; omega) (.slice Ar nr cr)).setCell (p := ⟨w.heap.size + 2, 1, none⟩) (by show w.heap.size ≤ w.heap.size + 2; omega) (.slice (some ad) n c)).setCell (p := ⟨w.heap.size + 3, 0, none⟩) (by show w.heap.size ≤ w.heap.size + 3; omega) (.int .i64 2)).setCell (p := ⟨w.heap.size + 3, 1, none⟩) (by show w.heap.size ≤ w.heap.size + 3; omega) (.string a0)).setCell (p := ⟨w.heap.size + 3, 2, none⟩) (by show w.heap.size ≤ w.heap.size + 3; omega) (.int .i64 0))
  have hb2 := ((((R8.set_ 0 (.slice Ar nr cr)).set_ 1 (.slice (some ad) n c)).far (p := ⟨w.heap.size + 3, 0, none⟩) n23.symm (.int .i64 2)).far (p := ⟨w.heap.size + 3, 1, none⟩) n23.symm (.string a0)).far (p := ⟨w.heap.size + 3, 2, none⟩) n23.symm (.int .i64 0)
  have hb3 := ((((T8.far (p := ⟨w.heap.size + 2, 0, none⟩) n23 (.slice Ar nr cr)).far (p := ⟨w.heap.size + 2, 1, none⟩) n23 (.slice (some ad) n c)).set_ 0 (.int .i64 2)).set_ 1 (.string a0)).set_ 2 (.int .i64 0)
  have q0 := hb2.cell_ 0 _ rfl
  have q1 := hb2.cell_ 1 _ rfl
  have p0 := hb3.cell_ 0 _ rfl
  have p1 := hb3.cell_ 1 _ rfl
  have p2 := hb3.cell_ 2 _ rfl
  clear hb2 hb3 R8 T8 b b8
  refine anyB_one (i := 4) (by kernel_rfl) rfl (fun K hK => ?_)
  go_simp
  refine hK.out _ _ (fun h => absurd (by decide) h) ?_
  clear hK K
  refine anyB_one (i := 5) (by kernel_rfl) rfl (fun K hK => ?_)
  go_simp
  refine hK.out _ _ (fun h => absurd (by decide) h) ?_
  clear hK K
  refine anyB_done (by kernel_rfl) ?_ _
  clear u0 u1 v0 v1 v2 ff fg
  generalize World.setCell _ _ _ = w9 at FIN q0 q1 p0 p1 p2 ⊢
  have hb9 := HB0.out
  go_wp2_with fail
  refine bodyPost_ret (v := .tuple #[.agg #[.slice Ar nr cr, .slice (some ad) n c], .agg #[.int .i64 2, .string a0, .int .i64 0]]) ?_ rfl ⟨by simp [HA.out], FIN.out⟩
  simp [results, Tryd.results77, go_sem, q0, q1, p0, p1, p2]
 | false =>
  have hf := reffound_any w7 a0 false
  simp only [Bool.false_eq_true, if_false] at hf
  refine anyB_one (i := 3) (by kernel_rfl) rfl (fun K hK => ?_)
  go_simp
  refine hf.mono ?_
  rintro e w8 ⟨rfl, b⟩
  refine hK.out _ _ (fun _ => b) ?_
  clear hK K
  have b8 := below_step BB.out (Nat.le_refl _) b
  have R8 := R2.out.keep b
  have T8 := R3.out.keep b
  have u0 := R8.cell_ 0 _ rfl
  have u1 := R8.cell_ 1 _ rfl
  have v0 := T8.cell_ 0 _ rfl
  have v1 := T8.cell_ 1 _ rfl
  have v2 := T8.cell_ 2 _ rfl
  have ff := R8.frozen
  have fg := T8.frozen
  have n23 : w.heap.size + 3 ≠ w.heap.size + 2 := by omega
  have FIN := Lib.hid (((((b8.setCell (p := ⟨w.heap.size + 2, 0, none⟩) (by show w.heap.size ≤ w.heap.size + 2; omega) (.slice Ar nr cr)).setCell (p := ⟨w.heap.size + 2, 1, none⟩) (by show w.heap.size ≤ w.heap.size + 2; omega) (.slice (some ad) n c)).setCell (p := ⟨w.heap.size + 3, 0, none⟩) (by show w.heap.size ≤ w.heap.size + 3; omega) (.int .i64 3)).setCell (p := ⟨w.heap.size + 3, 1, none⟩) (by show w.heap.size ≤ w.heap.size + 3; omega) (.string ⟨#[]⟩)).setCell (p := ⟨w.heap.size + 3, 2, none⟩) (by show w.heap.size ≤ w.heap.size + 3; omega) (.int .i64 0))
  have hb2 := ((((R8.set_ 0 (.slice Ar nr cr)).set_ 1 (.slice (some ad) n c)).far (p := ⟨w.heap.size + 3, 0, none⟩) n23.symm (.int .i64 3)).far (p := ⟨w.heap.size + 3, 1, none⟩) n23.symm (.string ⟨#[]⟩)).far (p := ⟨w.heap.size + 3, 2, none⟩) n23.symm (.int .i64 0)
  have hb3 := ((((T8.far (p := ⟨w.heap.size + 2, 0, none⟩) n23 (.slice Ar nr cr)).far (p := ⟨w.heap.size + 2, 1, none⟩) n23 (.slice (some ad) n c)).set_ 0 (.int .i64 3)).set_ 1 (.string ⟨#[]⟩)).set_ 2 (.int .i64 0)
  have q0 := hb2.cell_ 0 _ rfl
  have q1 := hb2.cell_ 1 _ rfl
  have p0 := hb3.cell_ 0 _ rfl
  have p1 := hb3.cell_ 1 _ rfl
  have p2 := hb3.cell_ 2 _ rfl
  clear hb2 hb3 R8 T8 b b8
  refine anyB_one (i := 4) (by kernel_rfl) rfl (fun K hK => ?_)
  go_simp
  refine hK.out _ _ (fun h => absurd (by decide) h) ?_
  clear hK K
  refine anyB_one (i := 5) (by kernel_rfl) rfl (fun K hK => ?_)
  go_simp
  refine hK.out _ _ (fun h => absurd (by decide) h) ?_
  clear hK K
  refine anyB_done (by kernel_rfl) ?_ _
  clear u0 u1 v0 v1 v2 ff fg
  generalize World.setCell _ _ _ = w9 at FIN q0 q1 p0 p1 p2 ⊢
  have hb9 := HB0.out
  go_wp2_with fail
  ·exact absurd (hb9.symm.trans (by assumption)) (by decide)
  refine bodyPost_ret (v := .tuple #[.agg #[.slice Ar nr cr, .slice (some ad) n c], .agg #[.int .i64 3, .string ⟨#[]⟩, .int .i64 0]]) ?_ rfl ⟨by simp, FIN.out⟩
  simp [results, Tryd.results77, go_sem, q0, q1, p0, p1, p2]
end Go.Proofs.YtjbnfigpflambabDoor
