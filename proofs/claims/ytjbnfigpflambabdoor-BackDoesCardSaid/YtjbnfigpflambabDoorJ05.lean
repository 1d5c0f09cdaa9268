/- The reference's WorldCopy. The reference's no and found. The reference's at, with what stands there. A region that draws its order, in segments, where a box that the region itself makes may be stored ahead of readers of older memory: what acts leaves alone what was there when the region began. The reference's did: its beginning, and where the session has failed. -/
import Derived.Test.YtjbnfigpflambabDoorJ01
import Derived.Test.YtjbnfigpflambabDoorJ02
import Derived.Test.YtjbnfigpflambabDoorJ03
import Derived.Test.YtjbnfigpflambabDoorJ04
/- The reference's WorldCopy. -/
namespace Go.Proofs.YtjbnfigpflambabDoor
open Go.ChangeShapes Go.WideShapes Go.ChangeAt Go.RowKit
set_option maxHeartbeats 8000000 in
set_option maxRecDepth 100000 in
theorem refcopy_any (w : World) (r s : Value) (W : Wo) (h : WL w w.heap.size r s W) :
  Calls Tryd.prog 22 #[.agg #[r, s]] w fun e w' => ∃ r' s' cs, e = .returned (.agg #[r', s']) ∧ OPL w' w.heap.size r' W.rows ∧ OSL w' w.heap.size s' W.ses cs ∧ Below w.heap.size w w' := by
 obtain ⟨i0, hi0, hz0, hz1, hz2⟩ := info_parts ses_info
 have HW := Lib.hid h
 obtain ⟨Ar0, cr0, e0⟩ := h.rows.form
 obtain ⟨nr, hnr⟩ : ∃ n, W.rows.length = n := ⟨_, rfl⟩
 rw [hnr] at e0
 subst e0
 obtain ⟨A, c, rfl, hc, hn, hs⟩ := h.ses
 have HS := Lib.hid hs
 clear h hs hc
 obtain ⟨n, hN⟩ : ∃ n, W.ses.length = n := ⟨_, rfl⟩
 rw [hN] at hn HW ⊢
 have HN := Lib.hid hN
 clear hN
 go_enter Tryd.func22, Tryd.ntmps22
 go_wp2_with fail
 refine (refpairs_any _ _ W.rows ((HW.out.rows.below (boxed2 _ _ _)).more (by simp; omega))).mono ?_
 rintro e w1 ⟨r1, rfl, hr1, hb1⟩
 have hb : Below w.heap.size w w1 := (boxed2 w _ _).trans (hb1.mono (by simp; omega))
 have hr1 := hr1.base (show w.heap.size ≤ _ by simp; omega)
 obtain ⟨Ar, cr, rfl⟩ := hr1.form
 have hz1' : w.heap.size + 2 ≤ w1.heap.size := by have := hb1.size; simp at this; omega
 have Q1 := ((Blk.new w 31 #[.slice Ar0 nr cr0, .slice A n c]).alloc (.cells #[.slice none 0 0, .slice none 0 0] 31)).keep hb1
 have R1 := (Blk.new1 w (.cells #[.slice Ar0 nr cr0, .slice A n c] 31) 31 #[.slice none 0 0, .slice none 0 0]).keep hb1
 have HM := Lib.hid (show CopyAt w (w1.alloc (.cells #[.slice Ar W.rows.length cr, .slice none 0 0] 31)) w1.heap.size (.slice Ar W.rows.length cr) (.slice none 0 0) [] W 0 from
  ⟨hb.alloc hb.size _, R1.alloc _, Blk.new _ _ _, by omega, hr1.keeps (.alloc _ _), ⟨by rw [List.take_zero]; exact World.ownsRow_nil _ _ _ _, by rw [List.take_zero]; rfl⟩⟩)
 have HQ := Lib.hid (Q1.alloc (.cells #[.slice Ar W.rows.length cr, .slice none 0 0] 31))
 obtain ⟨O, hO⟩ : ∃ O, w1.heap.size = O := ⟨_, rfl⟩
 rw [hO] at HM
 clear hb hr1 hb1 Q1 R1 hnr
 go_upto_region 3 with fail
 generalize World.alloc _ _ = w2 at HM HQ ⊢
 clear hO
 go_loopw [4] (fun i wx => ∃ (k : Nat) (v : Value) (cs : List Value), k ≤ n ∧ i = .int .i64 k ∧ CopyAt w wx O (.slice Ar W.rows.length cr) v cs W k ∧ Blk wx w.heap.size 31 #[.slice Ar0 nr cr0, .slice A n c]) (fun i _ => n - (intOf i).toNat)
 case atStart => exact ⟨0, _, _, Nat.zero_le _, rfl, HM.out, HQ.out⟩
 case round =>
  obtain ⟨k, v, cs, hk, rfl, hM, hx⟩ := hrel
  have f1 := hx.cell_ 1 _ rfl
  by_cases hlt : k < n
  ·have hlt' : k < W.ses.length := by rw [HN.out]; exact hlt
   obtain ⟨ad, hA, hB, hse⟩ := HS.out (by omega)
   subst hA
   have y := (hse k hlt').below (by rw [block_of_add]; exact hB) hM.bel
   obtain ⟨t, ht⟩ : ∃ t, W.ses[k] = t := ⟨_, rfl⟩
   rw [ht] at y
   obtain ⟨x0, ⟨v1, x1, p1⟩, ⟨v2, x2, p2⟩, ⟨v3, x3, p3⟩, ⟨v4, x4, p4⟩, i1, i2⟩ := y
   obtain ⟨A1, z1, rfl⟩ := p1.form
   obtain ⟨A2, z2, rfl⟩ := p2.form
   obtain ⟨A3, z3, rfl⟩ := p3.form
   obtain ⟨A4, z4, rfl⟩ := p4.form
   have g3 := hM.bel.size
   have P1 := Lib.hid (fun (u : World) (hb : Below wr.heap.size wr u) => ((p1.more g3).below hb).more hb.size)
   have P2 := Lib.hid (fun (u : World) (hb : Below wr.heap.size wr u) => ((p2.more g3).below hb).more hb.size)
   have P3 := Lib.hid (fun (u : World) (hb : Below wr.heap.size wr u) => ((p3.more g3).below hb).more hb.size)
   have P4 := Lib.hid (fun (u : World) (hb : Below wr.heap.size wr u) => ((p4.more g3).below hb).more hb.size)
   have HT := Lib.hid (show W.ses.take (k + 1) = W.ses.take k ++ [t] by rw [← ht, List.take_succ_eq_append_getElem hlt'])
   have htk : (W.ses.take k).length = k := by rw [List.length_take, HN.out]; omega
   have HTK := Lib.hid htk
   have HI := Lib.hid (And.intro i1 i2)
   have hown := hM.ses.own
   rw [htk] at hown
   obtain ⟨Av, cv, rfl⟩ := own_slice hown
   have HM2 := Lib.hid hM
   have HX := Lib.hid hx
   have g1 : (k : Int) < (n : Int) := by omega
   have g2 : (0 : Int) ≤ (k : Int) := by omega
   clear p1 p2 p3 p4 ht hse hM hB hlt' i1 i2 htk hown hx
   go_upto_region 6 with fail
   have bb := boxed wr (.cells #[.int .i64 t.st, .slice A1 t.set.length z1, .slice A2 t.pre.length z2, .slice A3 t.sav.length z3, .slice A4 t.wri.length z4] 58)
   have Y := Blk.new wr 58 #[.int .i64 t.st, .slice A1 t.set.length z1, .slice A2 t.pre.length z2, .slice A3 t.sav.length z3, .slice A4 t.wri.length z4]
   have M3 := Lib.hid (HM2.out.keep bb)
   have X3 := Lib.hid (HX.out.keep bb)
   have BB := Lib.hid bb
   obtain ⟨z, hz⟩ : ∃ z, wr.heap.size = z := ⟨_, rfl⟩
   rw [hz] at Y ⊢
   generalize World.alloc _ _ = w3 at Y M3 X3 BB ⊢
   have y0 := Y.cell_ 0 _ rfl
   have y1 := Y.cell_ 1 _ rfl
   have y2 := Y.cell_ 2 _ rfl
   have y3 := Y.cell_ 3 _ rfl
   have y4 := Y.cell_ 4 _ rfl
   have o1 := M3.out.out.cell_ 1 _ rfl
   clear bb x0 x1 x2 x3 x4 f1 hz Y HM2 HX
   refine region_segs [18, 20] (by kernel_rfl) ?_
   refine anyB_seg [0, 1, 2, 3, 4, 5, 7, 8, 10, 11, 13, 14] 9 rfl (by kernel_rfl) (by kernel_rfl) (by kernel_rfl) (fun _ _ d _ _ h => by cases d <;> exact h) ?_
   simp only [pickOps, List.getElem?_toArray, List.getElem?_cons_zero, List.getElem?_cons_succ]
   go_wp2_with fail
   refine ⟨rfl, by rfl, ?_⟩
   have M4 := Lib.hid (M3.out.keep (Below.refl _ _).drew)
   have X4 := Lib.hid (X3.out.keep (Below.refl _ _).drew)
   have B4 := Lib.hid (show Below wr.heap.size wr w3.drew from BB.out.drew)
   clear y0 y1 y2 y3 y4 o1 M3 X3 BB
   generalize w3.drew = x4 at M4 X4 B4 ⊢
   refine anyB_one (i := 6) (by kernel_rfl) rfl (fun K hK => ?_)
   go_simp
   refine (refpairs_any _ _ t.set (P1.out _ B4.out)).mono ?_
   rintro e x5 ⟨a, rfl, oa, b⟩
   refine hK.out _ _ (fun _ => b) ?_
   clear hK K
   have M5 := Lib.hid (M4.out.keep b)
   have X5 := Lib.hid (X4.out.keep b)
   have B5 := Lib.hid (below_step B4.out (Nat.le_refl _) b)
   have OA := Lib.hid (oa.base (show w.heap.size ≤ x4.heap.size from M4.out.bel.size))
   clear b oa M4 X4 B4
   refine anyB_one (i := 9) (by kernel_rfl) rfl (fun K hK => ?_)
   go_simp
   refine (refpairs_any _ _ t.pre (P2.out _ B5.out)).mono ?_
   rintro e x6 ⟨b', rfl, oa, b⟩
   refine hK.out _ _ (fun _ => b) ?_
   clear hK K
   have M6 := Lib.hid (M5.out.keep b)
   have X6 := Lib.hid (X5.out.keep b)
   have B6 := Lib.hid (below_step B5.out (Nat.le_refl _) b)
   have OB := Lib.hid (oa.base (show w.heap.size ≤ x5.heap.size from M5.out.bel.size))
   have OA6 := Lib.hid (OA.out.keeps (.of_below b))
   clear b oa M5 X5 B5 OA
   refine anyB_one (i := 12) (by kernel_rfl) rfl (fun K hK => ?_)
   go_simp
   refine (refpairs_any _ _ t.sav (P3.out _ B6.out)).mono ?_
   rintro e x7 ⟨c', rfl, oa, b⟩
   refine hK.out _ _ (fun _ => b) ?_
   clear hK K
   have M7 := Lib.hid (M6.out.keep b)
   have X7 := Lib.hid (X6.out.keep b)
   have B7 := Lib.hid (below_step B6.out (Nat.le_refl _) b)
   have OC := Lib.hid (oa.base (show w.heap.size ≤ x6.heap.size from M6.out.bel.size))
   have OA7 := Lib.hid (OA6.out.keeps (.of_below b))
   have OB7 := Lib.hid (OB.out.keeps (.of_below b))
   clear b oa M6 X6 B6 OA6 OB
   refine anyB_one (i := 15) (by kernel_rfl) rfl (fun K hK => ?_)
   go_simp
   refine (refpairs_any _ _ t.wri (P4.out _ B7.out)).mono ?_
   rintro e x8 ⟨d', rfl, oa, b⟩
   refine hK.out _ _ (fun _ => b) ?_
   clear hK K
   have M8 := Lib.hid (M7.out.keep b)
   have X8 := Lib.hid (X7.out.keep b)
   have OD := Lib.hid (oa.base (show w.heap.size ≤ x7.heap.size from M7.out.bel.size))
   have OA8 := Lib.hid (OA7.out.keeps (.of_below b))
   have OB8 := Lib.hid (OB7.out.keeps (.of_below b))
   have OC8 := Lib.hid (OC.out.keeps (.of_below b))
   clear b oa M7 X7 B7 OA7 OB7 OC
   obtain ⟨F1, k1, rfl⟩ := OA8.out.form
   obtain ⟨F2, k2, rfl⟩ := OB8.out.form
   obtain ⟨F3, k3, rfl⟩ := OC8.out.form
   obtain ⟨F4, k4, rfl⟩ := OD.out.form
   refine anyB_seg [16] 4 rfl (by kernel_rfl) (by kernel_rfl) (by kernel_rfl) (fun _ _ d _ _ h => by cases d <;> exact h) ?_
   simp only [pickOps, List.getElem?_toArray, List.getElem?_cons_zero, List.getElem?_cons_succ]
   go_wp2_with fail
   refine ⟨rfl, by rfl, ?_⟩
   refine anyB_one (i := 17) (by kernel_rfl) rfl (fun K hK => ?_)
   go_simp
   refine hK.out _ _ (fun _ => (boxed _ _)) ?_
   clear hK K
   have hown := M8.out.ses.own
   rw [HTK.out] at hown
   have hOwn := Lib.hid (hown.alloc (.cells #[.int .i64 t.st, .slice F1 t.set.length k1, .slice F2 t.pre.length k2, .slice F3 t.sav.length k3, .slice F4 t.wri.length k4] 58))
   have RD := Lib.hid (Reads.new_ x8 58 #[.int .i64 t.st, .slice F1 t.set.length k1, .slice F2 t.pre.length k2, .slice F3 t.sav.length k3, .slice F4 t.wri.length k4] (n := 1) (size := 5) rfl)
   have hsz := M8.out.bel.size
   clear hown
   refine anyB_one (i := 18) (by kernel_rfl) rfl (fun K hK => ?_)
   rw [if_pos (by rfl)]
   refine wp_append_any _ _ _ _ rfl w.heap.size 58 i0 _ 5 104 Tryd.underlying29 hi0 hz0 hz1 hz2 rfl (by decide) (.slice Av k cv) k cs rfl hOwn.out (x8.heap.size + 1) (some ⟨x8.heap.size, 0, none⟩) 1 1 [.int .i64 t.st, .slice F1 t.set.length k1, .slice F2 t.pre.length k2, .slice F3 t.sav.length k3, .slice F4 t.wri.length k4] rfl RD.out (by intro u hu; simp only [List.mem_cons, List.not_mem_nil, or_false] at hu; rcases hu with rfl | rfl | rfl | rfl | rfl <;> rfl) (by unfold maxLen; omega) (by omega) (by simp; omega) ?_
   intro v9 x9 hown5 hgr hat
   refine hK.out _ _ (fun h => absurd (by decide) h) ?_
   clear hK K
   have st := copy_step M8.out HTK.out HT.out _ OA8.out OB8.out OC8.out OD.out HI.out hgr hown5
   obtain ⟨Av', cv', rfl⟩ := own_slice hown5
   have yo5 := st.1.cell_ 1 _ rfl
   have fo5 := st.1.frozen
   have lO := M8.out.lt
   have X9 := Keeps.grown hgr (own_row hOwn.out) (by decide) _ _ (0, 0) (X8.out.alloc (.cells #[.int .i64 t.st, .slice F1 t.set.length k1, .slice F2 t.pre.length k2, .slice F3 t.sav.length k3, .slice F4 t.wri.length k4] 58))
   have ST := Lib.hid st.2
   have X10 := Lib.hid (Blk.far X9 (p := ⟨O, 1, none⟩) (by show w.heap.size ≠ O; omega) (.slice Av' (k + 1) cv'))
   clear st hown5 hgr hat hOwn RD X9
   refine anyB_seg [19] 1 rfl (by kernel_rfl) (by kernel_rfl) (by kernel_rfl) (fun _ _ d _ _ h => by cases d <;> exact h) ?_
   simp only [pickOps, List.getElem?_toArray, List.getElem?_cons_zero, List.getElem?_cons_succ]
   go_wp2_with fail
   refine ⟨rfl, by rfl, ?_⟩
   refine anyB_one (i := 20) (by kernel_rfl) rfl (fun K hK => ?_)
   go_simp
   refine hK.out _ _ (fun h => absurd (by decide) h) ?_
   clear hK K
   refine anyB_done (by kernel_rfl) ?_ _
   clear yo5 fo5
   generalize World.setCell _ _ _ = x11 at ST X10 ⊢
   go_wp2_with fail
   go_roundw
   case rel => exact ⟨k + 1, _, _, by omega, by go_num, ST.out, X10.out⟩
   case measure => simp [intOf]; omega
  ·have g1 : (n : Int) ≤ (k : Int) := by omega
   have hkn : k = n := by omega
   subst hkn
   have htk : W.ses.take k = W.ses := List.take_of_length_le (by rw [HN.out]; exact Nat.le_refl _)
   have hown := hM.ses.own
   have hses := hM.ses.ses
   rw [htk] at hown hses
   obtain ⟨Av, cv, rfl⟩ := own_slice hown
   have y0 := hM.out.cell_ 0 _ rfl
   have y1 := hM.out.cell_ 1 _ rfl
   have x0 := hM.res.cell_ 0 _ rfl
   have x1 := hM.res.cell_ 1 _ rfl
   have fx := hM.res.frozen
   have lo := hM.lt
   have no1 : O ≠ w.heap.size + 1 := by omega
   have k2 : Keeps 66 wr ((wr.setCell ⟨w.heap.size + 1, 0, none⟩ (.slice Ar W.rows.length cr)).setCell ⟨w.heap.size + 1, 1, none⟩ (.slice Av W.ses.length cv)) :=
    (Keeps.set_ (p := ⟨w.heap.size + 1, 0, none⟩) hM.res (by decide) _).trans (Keeps.set_ (p := ⟨w.heap.size + 1, 1, none⟩) (hM.res.set_ 0 _) (by decide) _)
   have k3 : Keeps 58 wr ((wr.setCell ⟨w.heap.size + 1, 0, none⟩ (.slice Ar W.rows.length cr)).setCell ⟨w.heap.size + 1, 1, none⟩ (.slice Av W.ses.length cv)) :=
    (Keeps.set_ (p := ⟨w.heap.size + 1, 0, none⟩) hM.res (by decide) _).trans (Keeps.set_ (p := ⟨w.heap.size + 1, 1, none⟩) (hM.res.set_ 0 _) (by decide) _)
   have FIN := Lib.hid (And.intro (hM.rows.keeps k2) (And.intro (OSL.mk (k3.own hown) (hses.keeps k2)) ((hM.bel.setCell (show w.heap.size ≤ (⟨w.heap.size + 1, 0, none⟩ : Addr).block from Nat.le_succ _) (.slice Ar W.rows.length cr)).setCell (show w.heap.size ≤ (⟨w.heap.size + 1, 1, none⟩ : Addr).block from Nat.le_succ _) (.slice Av W.ses.length cv))))
   have bl := Lib.hid hM.res
   clear htk hown hses k2 k3 hM HM hx
   go_wp2_with fail
   have hb2 := (bl.out.set_ 0 (.slice Ar W.rows.length cr)).set_ 1 (.slice Av W.ses.length cv)
   have q0 := hb2.cell_ 0 _ rfl
   have q1 := hb2.cell_ 1 _ rfl
   clear y0 y1 x0 x1 fx
   refine bodyPost_ret (v := .agg #[.slice Ar W.rows.length cr, .slice Av W.ses.length cv]) ?_ rfl ⟨_, _, cs, rfl, FIN.out.1, FIN.out.2.1, FIN.out.2.2⟩
   simp [results, Tryd.results22, go_sem, q0, q1]
end Go.Proofs.YtjbnfigpflambabDoor
/- The reference's no and found. -/
namespace Go.Proofs.YtjbnfigpflambabDoor
open Go.ChangeShapes Go.WideShapes Go.ChangeAt Go.RowKit
set_option maxRecDepth 100000 in
theorem refno_any (w : World) (t : ByteArray) : Calls Tryd.prog 91 #[.string t] w fun e w' => e = .returned (.agg #[.int .i64 4, .string t, .int .i64 0]) ∧ Below w.heap.size w w' := by
 go_enter Tryd.func91, Tryd.ntmps91
 go_wp2_with fail
 have hb := Blk.new w 48 #[.int .i64 4, .string t, .int .i64 0]
 have q0 := hb.cell_ 0 _ rfl
 have q1 := hb.cell_ 1 _ rfl
 have q2 := hb.cell_ 2 _ rfl
 refine bodyPost_ret (v := .agg #[.int .i64 4, .string t, .int .i64 0]) ?_ rfl ⟨rfl, boxed _ _⟩
 simp [results, Tryd.results91, go_sem, q0, q1, q2]
set_option maxRecDepth 100000 in
theorem reffound_any (w : World) (t : ByteArray) (b : Bool) : Calls Tryd.prog 92 #[.string t, .bool b] w fun e w' => e = .returned (if b = true then .agg #[.int .i64 2, .string t, .int .i64 0] else .agg #[.int .i64 3, .string ⟨#[]⟩, .int .i64 0]) ∧ Below w.heap.size w w' := by
 cases b with
 | true =>
  go_enter Tryd.func92, Tryd.ntmps92
  go_wp2_with fail
  have hb := Blk.new w 48 #[.int .i64 2, .string t, .int .i64 0]
  have q0 := hb.cell_ 0 _ rfl
  have q1 := hb.cell_ 1 _ rfl
  have q2 := hb.cell_ 2 _ rfl
  refine bodyPost_ret (v := .agg #[.int .i64 2, .string t, .int .i64 0]) ?_ rfl ⟨rfl, boxed _ _⟩
  simp [results, Tryd.results92, go_sem, q0, q1, q2]
 | false =>
  go_enter Tryd.func92, Tryd.ntmps92
  go_wp2_with fail
  have hb := Blk.new w 48 #[.int .i64 3, .string ⟨#[]⟩, .int .i64 0]
  have q0 := hb.cell_ 0 _ rfl
  have q1 := hb.cell_ 1 _ rfl
  have q2 := hb.cell_ 2 _ rfl
  refine bodyPost_ret (v := .agg #[.int .i64 3, .string ⟨#[]⟩, .int .i64 0]) ?_ rfl ⟨rfl, boxed _ _⟩
  simp [results, Tryd.results92, go_sem, q0, q1, q2]
end Go.Proofs.YtjbnfigpflambabDoor
/- The reference's at, with what stands there. -/
namespace Go.Proofs.YtjbnfigpflambabDoor
open Go.ChangeShapes Go.WideShapes Go.ChangeAt Go.RowKit
theorem atP_here {l : List Pr} {key v : ByteArray} {k : Nat} (hk : k < l.length) (h : l[k] = ⟨key, v⟩) (h2 : ∀ j (hj : j < l.length), j < k → ¬ l[j].k = key) : atP l key = some v := by
 unfold atP
 have e : l.find? (fun p => decide (p.k = key)) = some l[k] := by
  rw [List.find?_eq_some_iff_getElem]
  refine ⟨by rw [h]; simp, k, hk, rfl, fun j hj => ?_⟩
  simpa using h2 j (by omega) hj
 rw [e, h]
 rfl
set_option maxHeartbeats 2000000 in
set_option maxRecDepth 100000 in
theorem refat_val (w : World) (v : Value) (l : List Pr) (key : ByteArray) (h : PL w w.heap.size v l) :
  Calls Tryd.prog 59 #[v, .string key] w fun e w' => e = .returned (.tuple #[.string ((atP l key).getD ⟨#[]⟩), .bool (hasK l key)]) ∧ Below w.heap.size w w' := by
 obtain ⟨A, c, rfl, hc, hr, hf⟩ := h
 have hl : l.length ≤ 4398046510976 := hf.1
 have HR := Lib.hid hr
 obtain ⟨n, hN⟩ : ∃ n, l.length = n := ⟨_, rfl⟩
 rw [hN] at hl ⊢
 have HN := Lib.hid hN
 clear hr hf hc hN
 go_enter Tryd.func59, Tryd.ntmps59
 go_wp2_with fail
 go_loopw [6] (fun i wx => ∃ k : Nat, k ≤ n ∧ i = .int .i64 k ∧ Below w.heap.size w wx ∧ Hid (∀ j (hj : j < l.length), j < k → ¬ l[j].k = key)) (fun i _ => n - (intOf i).toNat)
 case atStart => exact ⟨0, Nat.zero_le _, rfl, Below.refl _ _, Lib.hid (fun j _ hj => absurd hj (Nat.not_lt_zero _))⟩
 case round =>
  obtain ⟨k, hk, rfl, hb, HJ⟩ := hrel
  by_cases hlt : k < n
  ·have g1 : (k : Int) < (n : Int) := by omega
   have g2 : (0 : Int) ≤ (k : Int) := by omega
   have hkl : k < l.length := by rw [HN.out]; exact hlt
   have hr := HR.out
   obtain ⟨ad, hA, _, x0, x1⟩ := pair_at (hr.below hb) hkl
   subst hA
   obtain ⟨p, hp⟩ : ∃ p, l[k] = p := ⟨_, rfl⟩
   rw [hp] at x0 x1
   have HP := Lib.hid hp
   have HB := Lib.hid hb
   have HK := Lib.hid hkl
   obtain ⟨pk, pv⟩ := p
   simp only at x0 x1
   clear hp hr hb
   by_cases he : pk = key
   ·subst he
    have HF := Lib.hid (show hasK l pk = true from hasK_at HK.out (by rw [HP.out]))
    have HV := Lib.hid (show atP l pk = some pv from atP_here HK.out HP.out HJ.out)
    go_wp2_with fail
    go_ret2
    exact ⟨by rw [HF.out, HV.out]; rfl, HB.out⟩
   ·have n1 := ref_str_no he
    have HF := Lib.hid (show ∀ j (hj : j < l.length), j < k + 1 → ¬ l[j].k = key by
     intro j hj hjm
     rcases Nat.lt_succ_iff_lt_or_eq.1 hjm with h | h
     ·exact HJ.out j hj h
     ·subst h; rw [HP.out]; exact he)
    go_wp2_with fail
    go_roundw
    case rel => exact ⟨k + 1, by omega, by go_num, HB.out, HF⟩
    case measure => simp [intOf]; omega
  ·have g1 : (n : Int) ≤ (k : Int) := by omega
   have HF := Lib.hid (show hasK l key = false from hasK_no fun j hj => HJ.out j hj (by rw [HN.out] at hj; omega))
   have HB := Lib.hid hb
   have HV := Lib.hid (show atP l key = none by have h := hasK_atP l key; rw [HF.out] at h; cases e : atP l key with | none => rfl | some v => rw [e] at h; cases h)
   clear hb
   go_wp2_with fail
   go_ret2
   exact ⟨by rw [HF.out, HV.out]; rfl, HB.out⟩
end Go.Proofs.YtjbnfigpflambabDoor
/- A region that draws its order, in segments, where a box that the region itself makes may be stored ahead of readers of older memory: what acts leaves alone what was there when the region began. -/
namespace Go.Proofs.YtjbnfigpflambabDoor
open Go.RowKit
section
variable {P : Program} {ops : Array Oper} {Q : Exit → Act → World → Prop} {md : Region.Mode} {late : List Nat} {B0 : Nat}
/-- any order from here on; behind an operation that does not stand in 'late' what was there is as it was -/
def anyO (P : Program) (md : Region.Mode) (ops : Array Oper) (Q : Exit → Act → World → Prop) (late : List Nat) (B0 : Nat) : Nat → Array Bool → Act → World → Prop
 | 0, done, a, w => Region.ready md ops done = [] ∧ Q .normal a w
 | n + 1, done, a, w => (Region.ready md ops done = [] → Q .normal a w) ∧
   ∀ j, j ∈ Region.ready md ops done → wpOp P ops Q j (fun b u => (j ∉ late → Below B0 w u) ∧ anyO P md ops Q late B0 n (done.setIfInBounds j true) b u) a w
theorem anyO_any (n : Nat) : ∀ (done : Array Bool) (a : Act) (w : World), anyO P md ops Q late B0 n done a w → wpAny P md ops Q n done a w := by
 induction n with
 | zero => exact fun _ _ _ h => h
 | succ n ih => exact fun done a w h => ⟨h.1, fun j hj => wpOp_mono (fun b u hb => ih _ b u hb.2) (h.2 j hj)⟩
theorem anyO_first {i : Nat} {o : Oper} {v : Value} {S : World → Prop} (hSk : ∀ w u, S w → Below B0 w u → S u) {C : List Nat} (ho : ops[i]? = some o) (hs : ∀ (j : Nat) (q : Oper) cs b, ops[j]? = some q → q.op ≠ .select cs b)
  (hQ : ∀ c a w, Q (.panic c) (a.put o.dst v) w → Q (.panic c) a w) (hC : ∀ c ∈ C, ∃ q, ops[c]? = some q ∧ ∃ e ∈ q.after, Region.binds md e = true ∧ (e.on = i ∨ e.on ∈ C)) (n : Nat) :
  ∀ (done : Array Bool) (a : Act) (w : World),
   (∀ j q, ops[j]? = some q → j ≠ i → done.getD j true = false → (∀ e ∈ q.after, Region.binds md e = true → e.on ≠ i) → o.apart ops q = true) →
   (∀ c ∈ C, done.getD c true = false) → ((∀ w, S w) ∨ ∀ j ∈ late, done.getD j true = true ∨ j ∈ C) →
   i ∈ Region.ready md ops done → YieldsIf P ops S o v a → S w →
   anyO P md ops Q late B0 n (done.setIfInBounds i true) (a.put o.dst v) w → anyO P md ops Q late B0 (n + 1) done a w := by
 induction n with
 | zero =>
  intro done a w _ _ _ hi hy hS h
  refine ⟨fun e => (by rw [e] at hi; cases hi), fun j hj => ?_⟩
  rcases Nat.decEq j i with hne | rfl
  ·have hm := ready_mono hj hne
   rw [h.1] at hm
   cases hm
  ·exact hy.wpOp ho hS ⟨fun _ => Below.refl _ _, h⟩
 | succ n ih =>
  intro done a w hf hcd hl hi hy hS h
  refine ⟨fun e => (by rw [e] at hi; cases hi), fun j hj => ?_⟩
  rcases Nat.decEq j i with hne | rfl
  ·obtain ⟨hun, q, hq, hall⟩ := mem_ready.1 hj
   have hiu := openD (mem_ready.1 hi).1
   have hno : ∀ e ∈ q.after, Region.binds md e = true → e.on ≠ i := by
    intro e he hb hei
    have h1 := hall e he hb
    rw [hei, hiu] at h1
    cases h1
   have hjC : j ∉ C := by
    intro hc
    obtain ⟨q', hq', e, he, hb, hor⟩ := hC j hc
    rw [hq] at hq'
    injection hq' with hq'
    subst hq'
    have h1 := hall e he hb
    rcases hor with h2 | h2
    ·rw [h2, hiu] at h1; cases h1
    ·rw [openD (hcd _ h2)] at h1; cases h1
   have hjl : (∀ w, S w) ∨ j ∉ late := hl.imp id fun hl hm => by
    rcases hl j hm with h1 | h1
    ·rw [hun] at h1; cases h1
    ·exact hjC h1
   have hstep := wpOp_putIf (S := S) hq (hf j q hq hne hun hno) (fun cs b => hs i o cs b ho) (fun cs b => hs j q cs b hq) hQ hy (h.2 j (ready_mono hj hne))
   refine wpOp_mono (fun b u ⟨hy', hSu, hrest⟩ => ⟨hSu, ?_⟩) hstep
   refine ih (done.setIfInBounds j true) b u (fun k r hr hki hk => ?_) (fun c hc => ?_) (hl.imp id fun hl k hk => ?_) (ready_mono hi (Ne.symm hne)) hy' (hjl.elim (fun hA => hA u) fun hn => hSk w u hS (hSu hn)) ?_
   ·refine hf k r hr hki ?_
    rcases Nat.decEq j k with hjk | rfl
    ·rwa [getD_set_ne true hjk] at hk
    ·exact hun
   ·rw [getD_set_ne true (fun e : j = c => hjC (by rw [e]; exact hc))]
    exact hcd c hc
   ·rcases hl k hk with h1 | h1
    ·refine .inl ?_
     rcases Nat.decEq j k with hjk | rfl
     ·rw [getD_set_ne true hjk]; exact h1
     ·rw [hun] at h1; cases h1
    ·exact .inr h1
   ·rw [Array.setIfInBounds_comm _ _ hne]
    exact hrest
  ·exact hy.wpOp ho hS ⟨fun _ => Below.refl _ _, h⟩
def segO (P : Program) (md : Region.Mode) (ops : Array Oper) (late : List Nat) (first : Bool) : List Nat → Array Bool → Bool
 | [], _ => true
 | i :: T, d => Region.free md ops d i && (Region.ready md ops d).contains i && isReader P ops i && waitC md ops d i (waitSet md ops d i) && (isPure P ops i || (first && late.all fun j => d.getD j true || (waitSet md ops d i).contains j)) && segO P md ops late first T (d.setIfInBounds i true)
theorem segO_readers {first : Bool} : ∀ (T : List Nat) (d : Array Bool), segO P md ops late first T d = true → ∀ i ∈ T, ∃ o, ops[i]? = some o ∧ readerB P o = true
 | [], _, _ => fun i hi => by cases hi
 | i :: T, d, h => fun j hj => by
  simp only [segO, Bool.and_eq_true] at h
  rcases List.mem_cons.1 hj with rfl | hj
  ·have h1 := h.1.1.1.2
   unfold isReader at h1
   split at h1
   ·rename_i o ho; exact ⟨o, ho, h1⟩
   ·cases h1
  ·exact segO_readers T _ h.2 j hj
theorem segO_takes {first : Bool} (hs : Region.noSelect ops = true) (hQ : ∀ c a d v w, Q (.panic c) (Act.put a d v) w → Q (.panic c) a w) {w : World} (hf : first = true → w.heap.size = B0) : ∀ (vs : List (Nat × Value)) (n : Nat) (d : Array Bool) (a : Act),
  segO P md ops late first (vs.map (·.1)) d = true → TakesB P ops w vs a → anyO P md ops Q late B0 n (doneN (vs.map (·.1)) d) (putB ops vs a) w → anyO P md ops Q late B0 (n + vs.length) d a w
 | [], _, _, _, _, _, h => h
 | (i, v) :: vs, n, d, a, hb, ht, h => by
  obtain ⟨o, ho, hpl, hy, ht⟩ := ht
  simp only [List.map_cons, segO, Bool.and_eq_true] at hb
  obtain ⟨⟨⟨⟨⟨h1, h2⟩, _⟩, h4⟩, h5⟩, h6⟩ := hb
  unfold putB at h
  rw [ho] at h
  have ih := segO_takes hs hQ hf vs n (d.setIfInBounds i true) (a.put o.dst v) h6 ht h
  have hC := waitC_spec h4
  rcases (Bool.or_eq_true_iff.1 h5) with h5 | h5
  ·have hp : pureB P o = true := by unfold isPure at h5; rw [ho] at h5; exact h5
   exact anyO_first (S := fun _ => True) (fun _ _ _ _ => trivial) ho (Region.noSelect_spec hs) (fun c a w => hQ c a _ _ w) (fun c hc => (hC c hc).2) (n + vs.length) d a w (Region.free_spec ho h1) (fun c hc => (hC c hc).1)
    (.inl fun _ => trivial) (by simpa using h2) (pure_yields hp hpl (Below.refl w.heap.size w) hy) trivial ih
  ·rw [Bool.and_eq_true] at h5
   have e := hf h5.1
   rw [e] at hy
   exact anyO_first (S := Below B0 w) (fun w' u hS hb => hS.trans hb) ho (Region.noSelect_spec hs) (fun c a w => hQ c a _ _ w) (fun c hc => (hC c hc).2) (n + vs.length) d a w (Region.free_spec ho h1) (fun c hc => (hC c hc).1)
    (.inr fun j hj => by have := List.all_eq_true.1 h5.2 j hj; simpa using this) (by simpa using h2) hy (Below.refl _ _) ih
/-- a segment: by the plain walk; the first one may read memory -/
theorem anyO_seg (first : Bool) (T : List Nat) (n : Nat) {N : Nat} {d : Array Bool} {a : Act} {w : World} (hN : N = n + T.length) (hs : Region.noSelect ops = true) (hb : segO P md ops late first T d = true) (hssa : ssaB (pickOps ops T) = true)
  (hQ : ∀ c a d v w, Q (.panic c) (Act.put a d v) w → Q (.panic c) a w) (hf : first = true → w.heap.size = B0)
  (h : wpList P ops (SegQ w (pickOps ops T) (fun b => anyO P md ops Q late B0 n (doneN T d) b w)) (pickOps ops T) a w) : anyO P md ops Q late B0 N d a w := by
 subst hN
 have hr := segO_readers T d hb
 have hro : ∀ o ∈ pickOps ops T, readerB P o = true := by
  clear hb hssa h
  induction T with
  | nil => intro o ho; cases ho
  | cons i T ih =>
   intro o ho
   obtain ⟨q, hq, hrq⟩ := hr i List.mem_cons_self
   unfold pickOps at ho
   rw [hq] at ho
   rcases List.mem_cons.1 ho with rfl | ho
   ·exact hrq
   ·exact ih (fun j hj => hr j (List.mem_cons_of_mem _ hj)) o ho
 obtain ⟨-, h2⟩ := path_takes T a w hr (fun o ho => ho) hssa (path_of _ a w hro h)
 obtain ⟨vs, rfl, k2, k3⟩ := h2 rfl
 rw [List.length_map]
 exact segO_takes hs hQ hf vs n d a hb k2 k3
/-- one operation alone may come up -/
theorem anyO_one {i : Nat} {o : Oper} {n : Nat} {d : Array Bool} {a : Act} {w : World} (hr : Region.ready md ops d = [i]) (ho : ops[i]? = some o)
  (h : ∀ K : Act → World → Prop, Shut (∀ b u, (i ∉ late → Below B0 w u) → anyO P md ops Q late B0 n (d.setIfInBounds i true) b u → K b u) → if Region.wanted o (yielded ops a.tmps) = true then Oper.wp P o a w K Q else K (a.put o.dst undef) w) :
  anyO P md ops Q late B0 (n + 1) d a w := by
 refine ⟨fun e => (by rw [e] at hr; cases hr), fun j hj => ?_⟩
 rw [hr, List.mem_singleton] at hj
 subst hj
 exact wpOp_step ho fun K hK => h K fun b u h1 h2 => hK b u ⟨h1, h2⟩
/-- two operations may come up -/
theorem anyO_two {i j : Nat} {o q : Oper} {n : Nat} {d : Array Bool} {a : Act} {w : World} (hr : Region.ready md ops d = [i, j]) (ho : ops[i]? = some o) (hq : ops[j]? = some q)
  (h1 : ∀ K : Act → World → Prop, Shut (∀ b u, (i ∉ late → Below B0 w u) → anyO P md ops Q late B0 n (d.setIfInBounds i true) b u → K b u) → if Region.wanted o (yielded ops a.tmps) = true then Oper.wp P o a w K Q else K (a.put o.dst undef) w)
  (h2 : ∀ K : Act → World → Prop, Shut (∀ b u, (j ∉ late → Below B0 w u) → anyO P md ops Q late B0 n (d.setIfInBounds j true) b u → K b u) → if Region.wanted q (yielded ops a.tmps) = true then Oper.wp P q a w K Q else K (a.put q.dst undef) w) :
  anyO P md ops Q late B0 (n + 1) d a w := by
 refine ⟨fun e => (by rw [e] at hr; cases hr), fun k hk => ?_⟩
 rw [hr] at hk
 simp only [List.mem_cons, List.not_mem_nil, or_false] at hk
 rcases hk with rfl | rfl
 ·exact wpOp_step ho fun K hK => h1 K fun b u h1 h2 => hK b u ⟨h1, h2⟩
 ·exact wpOp_step hq fun K hK => h2 K fun b u h1 h2 => hK b u ⟨h1, h2⟩
/-- three operations may come up -/
theorem anyO_three {i j k : Nat} {o q r : Oper} {n : Nat} {d : Array Bool} {a : Act} {w : World} (hr : Region.ready md ops d = [i, j, k]) (ho : ops[i]? = some o) (hq : ops[j]? = some q) (hk : ops[k]? = some r)
  (h1 : ∀ K : Act → World → Prop, Shut (∀ b u, (i ∉ late → Below B0 w u) → anyO P md ops Q late B0 n (d.setIfInBounds i true) b u → K b u) → if Region.wanted o (yielded ops a.tmps) = true then Oper.wp P o a w K Q else K (a.put o.dst undef) w)
  (h2 : ∀ K : Act → World → Prop, Shut (∀ b u, (j ∉ late → Below B0 w u) → anyO P md ops Q late B0 n (d.setIfInBounds j true) b u → K b u) → if Region.wanted q (yielded ops a.tmps) = true then Oper.wp P q a w K Q else K (a.put q.dst undef) w)
  (h3 : ∀ K : Act → World → Prop, Shut (∀ b u, (k ∉ late → Below B0 w u) → anyO P md ops Q late B0 n (d.setIfInBounds k true) b u → K b u) → if Region.wanted r (yielded ops a.tmps) = true then Oper.wp P r a w K Q else K (a.put r.dst undef) w) :
  anyO P md ops Q late B0 (n + 1) d a w := by
 refine ⟨fun e => (by rw [e] at hr; cases hr), fun m hm => ?_⟩
 rw [hr] at hm
 simp only [List.mem_cons, List.not_mem_nil, or_false] at hm
 rcases hm with rfl | rfl | rfl
 ·exact wpOp_step ho fun K hK => h1 K fun b u h1 h2 => hK b u ⟨h1, h2⟩
 ·exact wpOp_step hq fun K hK => h2 K fun b u h1 h2 => hK b u ⟨h1, h2⟩
 ·exact wpOp_step hk fun K hK => h3 K fun b u h1 h2 => hK b u ⟨h1, h2⟩
theorem anyO_done {d : Array Bool} {a : Act} {w : World} (hr : Region.ready md ops d = []) (h : Q .normal a w) : ∀ n, anyO P md ops Q late B0 n d a w
 | 0 => ⟨hr, h⟩
 | _ + 1 => ⟨fun _ => h, by rw [hr]; simp⟩
/-- the beginning -/
theorem region_segsO {id : Nat} {a : Act} {w : World} (late : List Nat) (hm : P.follows .mixedOrders = true) (h : anyO P .any ops Q late w.heap.size ops.size (Array.replicate ops.size false) a w.drew) : (Code.region id ops true).wp P Q a w :=
 wp_region_any hm (anyO_any _ _ _ _ h)
end
end Go.Proofs.YtjbnfigpflambabDoor
/- The reference's did: its beginning, and where the session has failed. -/
namespace Go.Proofs.YtjbnfigpflambabDoor
open Go.ChangeShapes Go.WideShapes Go.ChangeAt Go.RowKit
theorem did_boxes (w : World) (r s : Value) (x : St) : ∀ w4, w4 = ((((w.alloc (.cells #[r, s] 31)).alloc (.cells #[.int .i64 x.k, .string x.key, .string x.val] 23)).alloc (.cells #[.slice none 0 0, .slice none 0 0] 31)).alloc (.cells #[.int .i64 0, .string ⟨#[]⟩, .int .i64 0] 48)) →
  Below w.heap.size w w4 ∧ w4.heap.size = w.heap.size + 4 ∧ Blk w4 w.heap.size 31 #[r, s] ∧ Blk w4 (w.heap.size + 1) 23 #[.int .i64 x.k, .string x.key, .string x.val] ∧
  Blk w4 (w.heap.size + 2) 31 #[.slice none 0 0, .slice none 0 0] ∧ Blk w4 (w.heap.size + 3) 48 #[.int .i64 0, .string ⟨#[]⟩, .int .i64 0] := by
 rintro w4 rfl
 have e1 : (w.alloc (.cells #[r, s] 31)).heap.size = w.heap.size + 1 := by simp
 have b2 := Blk.new1 w (.cells #[r, s] 31) 23 #[.int .i64 x.k, .string x.key, .string x.val]
 have b3 := Blk.new1 (w.alloc (.cells #[r, s] 31)) (.cells #[.int .i64 x.k, .string x.key, .string x.val] 23) 31 #[.slice none 0 0, .slice none 0 0]
 have b4 := Blk.new1 ((w.alloc (.cells #[r, s] 31)).alloc (.cells #[.int .i64 x.k, .string x.key, .string x.val] 23)) (.cells #[.slice none 0 0, .slice none 0 0] 31) 48 #[.int .i64 0, .string ⟨#[]⟩, .int .i64 0]
 rw [e1] at b3
 rw [show ((w.alloc (.cells #[r, s] 31)).alloc (.cells #[.int .i64 x.k, .string x.key, .string x.val] 23)).heap.size = w.heap.size + 2 by simp] at b4
 exact ⟨((boxed2 w _ _).alloc (by simp; omega) _).alloc (by simp; omega) _, by simp, (((Blk.new w _ _).alloc _).alloc _).alloc _, (b2.alloc _).alloc _, b3.alloc _, b4⟩
set_option maxHeartbeats 8000000 in
set_option maxRecDepth 100000 in
theorem refdid_failed (w : World) (A : Option Addr) (n c : Nat) (Ar : Option Addr) (nr cr : Nat) (ss : List Se) (i : Nat) (x : St) (hn : ss.length = n) (h : SL w w.heap.size (.slice A n c) ss) (hi : i < n) (hst : (ss.getD i Se.new).st = 2) (h2 : x.k ≠ 2) (h3 : x.k ≠ 3) :
  Calls Tryd.prog 77 #[.agg #[.slice Ar nr cr, .slice A n c], .int .i64 (i : Nat), .agg #[.int .i64 x.k, .string x.key, .string x.val]] w fun e w' =>
   e = .returned (.tuple #[.agg #[.slice Ar nr cr, .slice A n c], .agg #[.int .i64 4, .string tFailed, .int .i64 0]]) ∧ Below w.heap.size w w' := by
 have hil : i < ss.length := by omega
 have hgd : ss.getD i Se.new = ss[i] := getD_at hil Se.new
 obtain ⟨A', c', e, hc, hz, hs⟩ := h
 injection e with e1 e2 e3
 subst e1 e3
 obtain ⟨ad, hA, hAB, hse⟩ := hs (by omega)
 subst hA
 have y := hse i hil
 rw [hgd] at hst
 obtain ⟨t, ht⟩ : ∃ t, ss[i] = t := ⟨_, rfl⟩
 rw [ht] at y hst
 obtain ⟨x0, ⟨v1, x1, p1⟩, ⟨v2, x2, p2⟩, ⟨v3, x3, p3⟩, ⟨v4, x4, p4⟩, -, -⟩ := y
 obtain ⟨A1, z1, rfl⟩ := p1.form
 obtain ⟨A2, z2, rfl⟩ := p2.form
 obtain ⟨A3, z3, rfl⟩ := p3.form
 obtain ⟨A4, z4, rfl⟩ := p4.form
 have g1 : (i : Int) < (n : Int) := by omega
 have g2 : (0 : Int) ≤ (i : Int) := by omega
 clear hs hse hgd hz hc ht p1 p2 p3 p4 e2
 rw [hst] at x0
 go_enter Tryd.func77, Tryd.ntmps77
 go_upto_region 1 with fail
 obtain ⟨w4, hw4⟩ : ∃ w4, w4 = ((((w.alloc (.cells #[.slice Ar nr cr, .slice (some ad) n c] 31)).alloc (.cells #[.int .i64 x.k, .string x.key, .string x.val] 23)).alloc (.cells #[.slice none 0 0, .slice none 0 0] 31)).alloc (.cells #[.int .i64 0, .string ⟨#[]⟩, .int .i64 0] 48)) := ⟨_, rfl⟩
 obtain ⟨d1, d2, d3, d4, d5, d6⟩ := did_boxes w _ _ x w4 hw4
 rw [← hw4]
 have hlb : (ad.add (i * 5)).block < w.heap.size := by rw [block_of_add]; exact hAB
 have y0 := (d1.cell hlb).trans x0
 have y1 := (d1.cell (by exact hlb)).trans x1
 have y2 := (d1.cell (by exact hlb)).trans x2
 have y3 := (d1.cell (by exact hlb)).trans x3
 have y4 := (d1.cell (by exact hlb)).trans x4
 have f1 := d3.cell_ 1 _ rfl
 have D1 := Lib.hid d1
 have D3 := Lib.hid d3
 have D4 := Lib.hid d4
 have D5 := Lib.hid d5
 have D6 := Lib.hid d6
 have D2 := Lib.hid d2
 clear x0 x1 x2 x3 x4 hw4 d1 d2 d3 d4 d5 d6 hlb
 go_upto_region 2 with fail
 have bb := boxed w4 (.cells #[.int .i64 2, .slice A1 t.set.length z1, .slice A2 t.pre.length z2, .slice A3 t.sav.length z3, .slice A4 t.wri.length z4] 58)
 have S5 := Blk.new w4 58 #[.int .i64 2, .slice A1 t.set.length z1, .slice A2 t.pre.length z2, .slice A3 t.sav.length z3, .slice A4 t.wri.length z4]
 have bb2 := boxed2 w4 (.cells #[.int .i64 2, .slice A1 t.set.length z1, .slice A2 t.pre.length z2, .slice A3 t.sav.length z3, .slice A4 t.wri.length z4] 58) (.cells #[.int .i64 1, .string ⟨#[]⟩, .int .i64 0] 48)
 clear y0 y1 y2 y3 y4 f1
 go_upto_region 3 with fail
 have s0 := (S5.alloc (.cells #[.int .i64 1, .string ⟨#[]⟩, .int .i64 0] 48)).cell_ 0 _ rfl
 have r0 := (D3.out.keep bb2).cell_ 0 _ rfl
 have r1 := (D3.out.keep bb2).cell_ 1 _ rfl
 have t0 := (D4.out.keep bb2).cell_ 0 _ rfl
 have R2 := Lib.hid (D5.out.keep bb2)
 have R3 := Lib.hid (D6.out.keep bb2)
 have BB := Lib.hid (below_step D1.out (Nat.le_refl _) bb2)
 have e2 : (x.k == 2) = false := by simpa using h2
 have e3 : (x.k == 3) = false := by simpa using h3
 clear bb bb2 S5
 generalize (w4.alloc _).alloc _ = w6 at s0 r0 r1 t0 R2 R3 BB ⊢
 go_upto_region 5 with fail
 refine region_segs [2, 3] (by kernel_rfl) ?_
 refine anyB_seg [0] 3 rfl (by kernel_rfl) (by kernel_rfl) (by kernel_rfl) (fun _ _ d _ _ h => by cases d <;> exact h) ?_
 simp only [pickOps, List.getElem?_toArray, List.getElem?_cons_zero]
 go_wp2_with fail
 refine ⟨rfl, by rfl, ?_⟩
 have R2 := Lib.hid (R2.out.keep (Below.refl _ _).drew)
 have R3 := Lib.hid (R3.out.keep (Below.refl _ _).drew)
 have BB := Lib.hid BB.out.drew
 clear s0 r0 r1 t0
 generalize w6.drew = w7 at R2 R3 BB ⊢
 refine anyB_one (i := 1) (by kernel_rfl) rfl (fun K hK => ?_)
 go_simp
 refine (refno_any w7 tFailed).mono ?_
 rintro e w8 ⟨rfl, b⟩
 refine hK.out _ _ (fun _ => b) ?_
 clear hK K
 have b8 := below_step BB.out (Nat.le_refl _) b
 have R8 := R2.out.keep b
 have T8 := R3.out.keep b
 have u0 := R8.cell_ 0 _ rfl
 have u1 := R8.cell_ 1 _ rfl
 have v0 := T8.cell_ 0 _ rfl
 have v1 := T8.cell_ 1 _ rfl
 have v2 := T8.cell_ 2 _ rfl
 have ff := R8.frozen
 have fg := T8.frozen
 have n23 : w.heap.size + 3 ≠ w.heap.size + 2 := by omega
 have FIN := Lib.hid (((((b8.setCell (p := ⟨w.heap.size + 2, 0, none⟩) (by show w.heap.size ≤ w.heap.size + 2; omega) (.slice Ar nr cr)).setCell (p := ⟨w.heap.size + 2, 1, none⟩) (by show w.heap.size ≤ w.heap.size + 2; omega) (.slice (some ad) n c)).setCell (p := ⟨w.heap.size + 3, 0, none⟩) (by show w.heap.size ≤ w.heap.size + 3; omega) (.int .i64 4)).setCell (p := ⟨w.heap.size + 3, 1, none⟩) (by show w.heap.size ≤ w.heap.size + 3; omega) (.string tFailed)).setCell (p := ⟨w.heap.size + 3, 2, none⟩) (by show w.heap.size ≤ w.heap.size + 3; omega) (.int .i64 0))
 have hb2 := ((((R8.set_ 0 (.slice Ar nr cr)).set_ 1 (.slice (some ad) n c)).far (p := ⟨w.heap.size + 3, 0, none⟩) n23.symm (.int .i64 4)).far (p := ⟨w.heap.size + 3, 1, none⟩) n23.symm (.string tFailed)).far (p := ⟨w.heap.size + 3, 2, none⟩) n23.symm (.int .i64 0)
 have hb3 := ((((T8.far (p := ⟨w.heap.size + 2, 0, none⟩) n23 (.slice Ar nr cr)).far (p := ⟨w.heap.size + 2, 1, none⟩) n23 (.slice (some ad) n c)).set_ 0 (.int .i64 4)).set_ 1 (.string tFailed)).set_ 2 (.int .i64 0)
 have q0 := hb2.cell_ 0 _ rfl
 have q1 := hb2.cell_ 1 _ rfl
 have p0 := hb3.cell_ 0 _ rfl
 have p1 := hb3.cell_ 1 _ rfl
 have p2 := hb3.cell_ 2 _ rfl
 clear hb2 hb3 R8 T8 b b8
 refine anyB_one (i := 2) (by kernel_rfl) rfl (fun K hK => ?_)
 go_simp
 refine hK.out _ _ (fun h => absurd (by decide) h) ?_
 clear hK K
 refine anyB_one (i := 3) (by kernel_rfl) rfl (fun K hK => ?_)
 go_simp
 refine hK.out _ _ (fun h => absurd (by decide) h) ?_
 clear hK K
 refine anyB_done (by kernel_rfl) ?_ _
 clear u0 u1 v0 v1 v2 ff fg
 generalize World.setCell _ _ _ = w9 at FIN q0 q1 p0 p1 p2 ⊢
 go_wp2_with fail
 refine bodyPost_ret (v := .tuple #[.agg #[.slice Ar nr cr, .slice (some ad) n c], .agg #[.int .i64 4, .string tFailed, .int .i64 0]]) ?_ rfl ⟨rfl, FIN.out⟩
 simp [results, Tryd.results77, go_sem, q0, q1, p0, p1, p2]
end Go.Proofs.YtjbnfigpflambabDoor
