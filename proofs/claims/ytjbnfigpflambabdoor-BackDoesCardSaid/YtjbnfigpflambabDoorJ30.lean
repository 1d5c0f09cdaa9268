/- The walk of BackDoes: it returns true. -/
import Derived.Test.YtjbnfigpflambabDoorJ27
import Derived.Test.YtjbnfigpflambabDoorJ29
/- The walk of BackDoes: it returns true. -/
namespace Go.Proofs.YtjbnfigpflambabDoor
open Go.ChangeShapes Go.WideShapes Go.ChangeAt Go.RowKit
theorem doR_few (W : Wo) (i : Int) (x : St) : (doR W i x).1.ses.length ≤ 8 := by
 unfold doR
 split
 ·rename_i h
  unfold doE at h
  split at h
  ·rename_i hg
   have := ((good_iff W).1 hg).few
   rw [(doW_mine W i.toNat x).1]
   exact this
  ·cases h
 ·exact Nat.zero_le _
set_option maxHeartbeats 8000000 in
set_option maxRecDepth 100000 in
theorem backDoes_walk (W : World) (hT : Tabs W) (r s : Value) (V : Wo) (h : WL W W.heap.size r s V) (i : Int) (hi : (Lit.int .i64 i).wf = true) (k : Int) (_hk : (Lit.int .i64 k).wf = true) (key : ByteArray) (hkey : key.size ≤ maxLen) (val : ByteArray) (hval : val.size ≤ maxLen) :
  Calls Tryd.prog 7 #[.agg #[r, s], .int .i64 i, .agg #[.int .i64 k, .string key, .string val]] W fun e w' => e = .returned (.bool true) ∧ Below W.heap.size W w' := by
 have HT := Lib.hid hT
 have HW := Lib.hid (fun (u : World) (hb : Below W.heap.size W u) => (h.below hb).more hb.size)
 have hvs : V.ses.length ≤ 1353245080300 := by
  obtain ⟨_, _, _, _, h3, _⟩ := h.ses
  exact h3
 have HDO := Lib.hid (fun (u : World) (r' s' : Value) (hb : Below W.heap.size W u) (hw : WL u u.heap.size r' s' V) => do_world u r' s' V i ⟨k, key, val⟩ (hT.below hb) hw hi hkey hval)
 have HOF := Lib.hid (fun (u : World) (hb : Below W.heap.size W u) (hw : WL u u.heap.size r s V) => didof_any u r s V i ⟨k, key, val⟩ (hT.below hb) hw hi hkey hval)
 have hfew := doR_few V i ⟨k, key, val⟩
 obtain ⟨R, hR⟩ : ∃ R, doR V i ⟨k, key, val⟩ = R := ⟨_, rfl⟩
 obtain ⟨E, hE⟩ : ∃ E, doE V i ⟨k, key, val⟩ = E := ⟨_, rfl⟩
 unfold DoP at HDO HOF
 rw [hR, hE] at HDO HOF
 rw [hR] at hfew
 obtain ⟨V2, ak, aT, aS⟩ := R
 simp only [anV] at HDO HOF hfew
 obtain ⟨Ar, cr, e1⟩ := h.rows.form
 obtain ⟨As, cs, e2, _⟩ := h.ses
 obtain ⟨nr, hnr⟩ : ∃ n, V.rows.length = n := ⟨_, rfl⟩
 obtain ⟨nv, hnv⟩ : ∃ n, V.ses.length = n := ⟨_, rfl⟩
 rw [hnr] at e1
 rw [hnv] at e2
 subst e1 e2
 have HFW := Lib.hid hfew
 have HVS := Lib.hid hvs
 have HNR := Lib.hid hnr
 have HNV := Lib.hid hnv
 have bb := boxed2 W (.cells #[.slice Ar nr cr, .slice As nv cs] 31) (.cells #[.int .i64 k, .string key, .string val] 23)
 have B0 := Lib.hid bb
 have Y0 := Lib.hid ((Blk.new W 31 #[.slice Ar nr cr, .slice As nv cs]).alloc (.cells #[.int .i64 k, .string key, .string val] 23))
 have X0 := Lib.hid (Blk.new1 W (.cells #[.slice Ar nr cr, .slice As nv cs] 31) 23 #[.int .i64 k, .string key, .string val])
 clear h hT hi hkey hval hvs hfew hR hE hnr hnv bb
 go_enter Tryd.func7, Tryd.ntmps7
 go_upto_region 1 with fail
 generalize (World.alloc _ _).alloc _ = w0 at B0 Y0 X0 ⊢
 have y0 := Y0.out.cell_ 0 _ rfl
 have y1 := Y0.out.cell_ 1 _ rfl
 go_wp2_with fail
 refine (refcopy_any w0 _ _ V (HW.out _ B0.out)).mono ?_
 rintro e w1 ⟨r1, s1, cs1, rfl, o1, o2, b1⟩
 obtain ⟨A1, k1, rfl⟩ := o1.form
 obtain ⟨A2, k2, rfl⟩ := own_slice o2.own
 have bx := boxed w1 (.cells #[.slice A1 V.rows.length k1, .slice A2 V.ses.length k2] 31)
 have HK := Lib.hid (fun (u : World) (hb : Below w1.heap.size w1 u) => show WL u u.heap.size (.slice A1 V.rows.length k1) (.slice A2 V.ses.length k2) V from ⟨(o1.keeps (.of_below hb)).pl, (o2.keep hb).sl HVS.out⟩)
 have Z1 := Lib.hid (Blk.new w1 31 #[.slice A1 V.rows.length k1, .slice A2 V.ses.length k2])
 have B1 := Lib.hid (below_step B0.out (Nat.le_refl _) b1)
 have B2 := Lib.hid (below_step B1.out (Nat.le_refl _) bx)
 have Y2 := Lib.hid ((Y0.out.keep b1).keep bx)
 have X2 := Lib.hid ((X0.out.keep b1).keep bx)
 have BX := Lib.hid bx
 clear o1 o2 b1 bx y0 y1 Y0 X0 B0 B1
 obtain ⟨z, hz⟩ : ∃ z, w1.heap.size = z := ⟨_, rfl⟩
 rw [hz] at Z1
 go_upto_region 2 with fail
 generalize World.alloc _ _ = w2 at Z1 B2 Y2 X2 BX ⊢
 have z0 := Z1.out.cell_ 0 _ rfl
 have z1 := Z1.out.cell_ 1 _ rfl
 have x0 := X2.out.cell_ 0 _ rfl
 have x1 := X2.out.cell_ 1 _ rfl
 have x2 := X2.out.cell_ 2 _ rfl
 go_wp2_with fail
 refine (HDO.out w2 _ _ B2.out (HK.out _ BX.out)).mono ?_
 rintro e w3 ⟨r3, s3, cs3, rfl, o3, o4, b3⟩
 obtain ⟨A3, k3, rfl⟩ := o3.form
 obtain ⟨A4, k4, rfl⟩ := own_slice o4.own
 have bx := boxed2 w3 (.cells #[.slice A3 V2.rows.length k3, .slice A4 V2.ses.length k4] 31) (.cells #[.int .i64 ak, .string aT, .int .i64 aS] 48)
 have HA := Lib.hid (fun (u : World) (hb : Below w3.heap.size w3 u) => show WL u u.heap.size (.slice A3 V2.rows.length k3) (.slice A4 V2.ses.length k4) V2 from ⟨(o3.keeps (.of_below hb)).pl, (o4.keep hb).sl (by have := HFW.out; omega)⟩)
 have P4 := Lib.hid ((Blk.new w3 31 #[.slice A3 V2.rows.length k3, .slice A4 V2.ses.length k4]).alloc (.cells #[.int .i64 ak, .string aT, .int .i64 aS] 48))
 have Q4 := Lib.hid (Blk.new1 w3 (.cells #[.slice A3 V2.rows.length k3, .slice A4 V2.ses.length k4] 31) 48 #[.int .i64 ak, .string aT, .int .i64 aS])
 have B4 := Lib.hid (below_step (below_step B2.out (Nat.le_refl _) b3) (Nat.le_refl _) bx)
 have Y4 := Lib.hid ((Y2.out.keep b3).keep bx)
 have X4 := Lib.hid ((X2.out.keep b3).keep bx)
 have Z4 := Lib.hid ((Z1.out.keep b3).keep bx)
 have BX4 := Lib.hid bx
 have BK4 := Lib.hid (below_step (below_step BX.out (Nat.le_refl _) b3) (Nat.le_refl _) bx)
 clear o3 o4 b3 bx z0 z1 x0 x1 x2 Z1 B2 Y2 X2 BX
 obtain ⟨p, hp⟩ : ∃ z, w3.heap.size = z := ⟨_, rfl⟩
 rw [hp] at P4 Q4
 go_upto_region 3 with fail
 generalize (World.alloc _ _).alloc _ = w4 at P4 Q4 B4 Y4 X4 Z4 BX4 BK4 ⊢
 have y0 := Y4.out.cell_ 0 _ rfl
 have y1 := Y4.out.cell_ 1 _ rfl
 have x0 := X4.out.cell_ 0 _ rfl
 have x1 := X4.out.cell_ 1 _ rfl
 have x2 := X4.out.cell_ 2 _ rfl
 go_wp2_with fail
 refine (HOF.out w4 B4.out (HW.out _ B4.out)).mono ?_
 rintro e w5 ⟨r5, s5, cs5, rfl, o5, o6, b5⟩
 obtain ⟨A5, k5, rfl⟩ := o5.form
 obtain ⟨A6, k6, rfl⟩ := own_slice o6.own
 have bx := boxed2 w5 (.cells #[.slice A5 V2.rows.length k5, .slice A6 V2.ses.length k6] 31) (.cells #[.int .i64 ak, .string aT, .int .i64 aS] 48)
 have HB := Lib.hid (fun (u : World) (hb : Below w5.heap.size w5 u) => show WL u u.heap.size (.slice A5 V2.rows.length k5) (.slice A6 V2.ses.length k6) V2 from ⟨(o5.keeps (.of_below hb)).pl, (o6.keep hb).sl (by have := HFW.out; omega)⟩)
 have P6 := Lib.hid ((Blk.new w5 31 #[.slice A5 V2.rows.length k5, .slice A6 V2.ses.length k6]).alloc (.cells #[.int .i64 ak, .string aT, .int .i64 aS] 48))
 have Q6 := Lib.hid (Blk.new1 w5 (.cells #[.slice A5 V2.rows.length k5, .slice A6 V2.ses.length k6] 31) 48 #[.int .i64 ak, .string aT, .int .i64 aS])
 have B6 := Lib.hid (below_step (below_step B4.out (Nat.le_refl _) b5) (Nat.le_refl _) bx)
 have Y6 := Lib.hid ((Y4.out.keep b5).keep bx)
 have Z6 := Lib.hid ((Z4.out.keep b5).keep bx)
 have P5 := Lib.hid ((P4.out.keep b5).keep bx)
 have Q5 := Lib.hid ((Q4.out.keep b5).keep bx)
 have BA6 := Lib.hid (below_step (below_step BX4.out (Nat.le_refl _) b5) (Nat.le_refl _) bx)
 have BK6 := Lib.hid (below_step (below_step BK4.out (Nat.le_refl _) b5) (Nat.le_refl _) bx)
 have BB6 := Lib.hid bx
 clear o5 o6 b5 bx y0 y1 x0 x1 x2 B4 Y4 X4 Z4 P4 Q4 BX4 BK4
 obtain ⟨t, ht⟩ : ∃ z, w5.heap.size = z := ⟨_, rfl⟩
 rw [ht] at P6 Q6
 go_upto_region 4 with fail
 generalize (World.alloc _ _).alloc _ = w6 at P6 Q6 P5 Q5 B6 Y6 Z6 BA6 BK6 BB6 ⊢
 have y0 := Y6.out.cell_ 0 _ rfl
 have y1 := Y6.out.cell_ 1 _ rfl
 have z0 := Z6.out.cell_ 0 _ rfl
 have z1 := Z6.out.cell_ 1 _ rfl
 have p0 := P5.out.cell_ 0 _ rfl
 have p1 := P5.out.cell_ 1 _ rfl
 have q0 := Q5.out.cell_ 0 _ rfl
 have q1 := Q5.out.cell_ 1 _ rfl
 have q2 := Q5.out.cell_ 2 _ rfl
 have t0 := P6.out.cell_ 0 _ rfl
 have t1 := P6.out.cell_ 1 _ rfl
 have v0 := Q6.out.cell_ 0 _ rfl
 have v1 := Q6.out.cell_ 1 _ rfl
 have v2 := Q6.out.cell_ 2 _ rfl
 go_wp2_with fail
 refine (same_world w6 _ _ _ _ V2 (HA.out _ BA6.out) (HB.out _ BB6.out)).mono ?_
 rintro e w7 ⟨rfl, b7⟩
 have B7 := Lib.hid (below_step B6.out (Nat.le_refl _) b7)
 have y0 := (Y6.out.keep b7).cell_ 0 _ rfl
 have y1 := (Y6.out.keep b7).cell_ 1 _ rfl
 have z0 := (Z6.out.keep b7).cell_ 0 _ rfl
 have z1 := (Z6.out.keep b7).cell_ 1 _ rfl
 have K7 := Lib.hid (HK.out _ (below_step BK6.out (Nat.le_refl _) b7))
 have H7 := Lib.hid (HW.out _ B7.out)
 clear p0 p1 q0 q1 q2 t0 t1 v0 v1 v2 b7 Y6 Z6 P5 Q5 P6 Q6
 go_wp2_with fail
 refine (same_world w7 _ _ _ _ V K7.out H7.out).mono ?_
 rintro e w8 ⟨rfl, b8⟩
 have B8 := Lib.hid (below_step B7.out (Nat.le_refl _) b8)
 clear b8 y0 y1 z0 z1
 go_wp2_with fail
 go_ret
 exact ⟨rfl, B8.out⟩
end Go.Proofs.YtjbnfigpflambabDoor
