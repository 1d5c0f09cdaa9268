/- The walk of PrepsRun: it returns true. -/
import Derived.Test.YtjbnfigpflambabDoorSaidK
import Derived.Test.YtjbnfigpflambabDoorPr
namespace Go.Proofs.YtjbnfigpflambabDoor
open Go.ChangeShapes Go.WideShapes Go.ChangeAt Go.RowKit

theorem texts_cell {i : Nat} (h : i < 4) : (#[Value.string ⟨#[103, 101, 116, 32, 97]⟩, .string ⟨#[114, 101, 97, 100, 32, 114, 111, 119]⟩, .string ⟨#[112, 117, 116, 32, 114, 111, 119, 32, 118, 57]⟩, .string ⟨#[112, 117, 116, 32, 122, 122, 122, 32, 120]⟩] : Array Value)[i]? = some (.string (textsP.getD i ByteArray.empty)) ∧ textsP.getD i ByteArray.empty ∈ textsP := by
  rcases i with _ | _ | _ | _ | i
  · exact ⟨rfl, by simp [textsP]⟩
  · exact ⟨rfl, by simp [textsP]⟩
  · exact ⟨rfl, by simp [textsP]⟩
  · exact ⟨rfl, by simp [textsP]⟩
  · omega
theorem exec_ok : checkE ⟨8, ownK, ⟨#[]⟩⟩ = 0 := by decide +kernel
set_option maxHeartbeats 16000000 in
set_option maxRecDepth 100000 in
theorem prepsRun_walk (W0 : World) (hT : Tabs W0) (v : Value) (l : List Rw) (hl : RL W0 W0.heap.size v l) (n : Int) (hn : (Lit.int .i64 n).wf = true) :
    Calls Tryd.prog 12 #[v, .int .i64 n] W0 fun e w' => e = .returned (.bool true) ∧ Below W0.heap.size W0 w' := by
  have HT := Lib.hid hT
  have HL := Lib.hid hl
  have HN := Lib.hid hn
  obtain ⟨i, hi4, hpi⟩ : ∃ i : Nat, i < 4 ∧ pick n 4 = (i : Int) := ⟨(pick n 4).toNat, by have := pick_bd n 4 (by decide); omega, by have := pick_bd n 4 (by decide); omega⟩
  obtain ⟨hcell, hmem⟩ := texts_cell hi4
  obtain ⟨t, ht⟩ : ∃ t, textsP.getD i ByteArray.empty = t := ⟨_, rfl⟩
  rw [ht] at hcell hmem
  obtain ⟨t1, t2, t3, t4, t5⟩ := text_ok hmem
  have HPI := Lib.hid hpi
  have hsz := readS_size t
  have hrd : ∀ w : World, Tabs w → _ := fun w hT => read_any t (Nat.le_trans t1 (by decide)) w hT
  obtain ⟨x, hx⟩ : ∃ x, readS t = x := ⟨_, rfl⟩
  rw [t2, hx] at hrd
  rw [hx] at t3 t4 hsz
  obtain ⟨xK, xk, xv⟩ := x
  have HX := Lib.hid hx
  have HRD := Lib.hid hrd
  have T3 := Lib.hid t3
  have T4 := Lib.hid t4
  have T5 := Lib.hid t5
  have T1 := Lib.hid t1
  have HSZ := Lib.hid (show xk.size ≤ maxLen ∧ xv.size ≤ maxLen from ⟨Nat.le_trans hsz.1 (Nat.le_trans t1 (by decide)), Nat.le_trans hsz.2 (Nat.le_trans t1 (by decide))⟩)
  have HC := Lib.hid hcell
  clear hT hl hn hpi hcell hmem ht t1 t2 t3 t4 t5 hx hrd hsz
  go_enter Tryd.func12, Tryd.ntmps12
  go_wp2_with fail
  refine (played2 _ _ l HL.out 30 (by decide) HT.out).mono ?_
  rintro e w1 ⟨r, s, o, cs, rfl, o1, o2, b1⟩
  obtain ⟨hgood, hlen⟩ := play_good (n := 2) (by decide) (l.take 30) (new_good 2 (by decide)) (new_len 2)
  obtain ⟨V, hV⟩ : ∃ V, playL 2 (l.take 30) (newW 2) = V := ⟨_, rfl⟩
  rw [hV] at o1 o2 hgood hlen
  obtain ⟨A1, k1, rfl⟩ := o1.form
  obtain ⟨A2, k2, rfl⟩ := own_slice o2.own
  have X5 := Lib.hid (show BoxW W0.heap.size (w1.alloc (.cells #[.slice A1 V.rows.length k1, .slice A2 V.ses.length k2] 31)) w1.heap.size V from ⟨_, _, Blk.new w1 _ _, o1.keeps (.alloc _ _), cs, osl_keeps o2 (.alloc _ _) (.alloc _ _)⟩)
  have B1 := Lib.hid (show Below W0.heap.size W0 (w1.alloc (.cells #[.slice A1 V.rows.length k1, .slice A2 V.ses.length k2] 31)) from b1.alloc b1.size _)
  obtain ⟨q5, hq5⟩ : ∃ z, w1.heap.size = z := ⟨_, rfl⟩
  rw [hq5] at X5
  have HG := Lib.hid hgood
  have HLN := Lib.hid hlen
  have hstart := said_good (n := 2) (i := 0) (by decide) [stR, stZ, ⟨11, ownK, t⟩] (V, An.no) (by intro x hx; simp only [List.mem_cons, List.not_mem_nil, or_false] at hx; rcases hx with rfl | rfl | rfl; exact plain_ok 3 (by decide) (by decide); exact plain_ok 4 (by decide) (by decide); exact T5.out) hgood hlen
  have hsame := exec_same (W := V) (i := 0) (by omega) ownK t (by rw [HX.out]; exact T3.out)
  obtain ⟨R3, hR3⟩ : ∃ R, saidL 0 [stR, stZ, ⟨11, ownK, t⟩] (V, An.no) = R := ⟨_, rfl⟩
  have hR3' : doW (doW (doW V 0 stR).1 0 stZ).1 0 ⟨11, ownK, t⟩ = R3 := hR3
  rw [hR3] at hstart
  simp only [hR3'] at hsame
  obtain ⟨W3, a3⟩ := R3
  obtain ⟨R4, hR4⟩ : ∃ R, doW W3 0 ⟨xK, xk, xv⟩ = R := ⟨_, rfl⟩
  rw [HX.out, hR4] at hsame
  have hl4 := doW_length W3 0 ⟨xK, xk, xv⟩
  rw [hR4] at hl4
  have HR3 := Lib.hid hR3
  have HR4 := Lib.hid (show saidL 0 [⟨xK, xk, xv⟩] (W3, An.no) = R4 from hR4)
  have HR5 := Lib.hid (show saidL 0 [⟨8, ownK, ⟨#[]⟩⟩] (W3, An.no) = R4 from hsame.1)
  have HG3 := Lib.hid hstart.1
  have HL3 := Lib.hid (show W3.ses.length = 2 from hstart.2)
  obtain ⟨W4, a4K, a4T, a4S⟩ := R4
  obtain ⟨a3K, a3T, a3S⟩ := a3
  have HL4 := Lib.hid (show W4.ses.length = 2 from hl4.trans hstart.2)
  have HQ5 := Lib.hid (show W0.heap.size ≤ q5 by rw [← hq5]; exact b1.size)
  clear o1 o2 b1 hgood hlen hV hstart hsame hR3 hR3' hR4 hl4
  go_upto_region 2 with fail
  generalize World.alloc _ _ = x1 at X5 B1 ⊢
  go_wp2_with fail
  obtain ⟨gt, hgt⟩ : ∃ z, x1.heap.size = z := ⟨_, rfl⟩
  have C := (Blk.new x1 9 #[.string ⟨#[103, 101, 116, 32, 97]⟩, .string ⟨#[114, 101, 97, 100, 32, 114, 111, 119]⟩, .string ⟨#[112, 117, 116, 32, 114, 111, 119, 32, 118, 57]⟩, .string ⟨#[112, 117, 116, 32, 122, 122, 122, 32, 120]⟩]).cell_ i _ HC.out
  rw [hgt] at C ⊢
  have X6 := Lib.hid (X5.out.keep (boxed x1 (.cells #[.string ⟨#[103, 101, 116, 32, 97]⟩, .string ⟨#[114, 101, 97, 100, 32, 114, 111, 119]⟩, .string ⟨#[112, 117, 116, 32, 114, 111, 119, 32, 118, 57]⟩, .string ⟨#[112, 117, 116, 32, 122, 122, 122, 32, 120]⟩] 9)))
  have B6 := Lib.hid (below_step B1.out (Nat.le_refl _) (boxed x1 (.cells #[.string ⟨#[103, 101, 116, 32, 97]⟩, .string ⟨#[114, 101, 97, 100, 32, 114, 111, 119]⟩, .string ⟨#[112, 117, 116, 32, 114, 111, 119, 32, 118, 57]⟩, .string ⟨#[112, 117, 116, 32, 122, 122, 122, 32, 120]⟩] 9)))
  generalize World.alloc _ _ = x2 at X6 B6 C ⊢
  clear X5 B1
  refine (picked_any _ _ _ HN.out (by decide) (by decide)).mono ?_
  rintro e w2 ⟨rfl, rfl⟩
  rw [HPI.out]
  have g1 : (i : Int) < 4 := by omega
  have g2 : (0 : Int) ≤ (i : Int) := by omega
  go_upto_region 3 with fail
  clear C g1 g2 hgt
  go_wp2_with fail
  refine (HRD.out _ (HT.out.below B6.out)).mono ?_
  rintro e x3 ⟨rfl, b⟩
  unfold St.v
  obtain ⟨q9, hq9⟩ : ∃ z, x3.heap.size = z := ⟨_, rfl⟩
  have S9 := Blk.new x3 23 #[.int .i64 xK, .string xk, .string xv]
  rw [hq9] at S9
  have X7 := Lib.hid ((X6.out.keep b).keep (boxed x3 (.cells #[.int .i64 xK, .string xk, .string xv] 23)))
  have B7 := Lib.hid (below_step (below_step B6.out (Nat.le_refl _) b) (Nat.le_refl _) (boxed x3 (.cells #[.int .i64 xK, .string xk, .string xv] 23)))
  have H9 := Lib.hid S9
  clear b X6 B6 S9
  go_upto_region 4 with fail
  generalize World.alloc _ _ = x4 at X7 B7 H9 ⊢
  obtain ⟨A, kA, g, cap, y, hwl⟩ := X7.out.opens HLN.out (by decide) (by decide)
  have y0 := y.cell_ 0 _ rfl
  have y1 := y.cell_ 1 _ rfl
  have HW := Lib.hid hwl
  have Y := Lib.hid y
  have S3 := Blk.new x4 23 #[.int .i64 3, .string ⟨#[]⟩, .string ⟨#[]⟩, .int .i64 4, .string ⟨#[]⟩, .string ⟨#[]⟩, .int .i64 11, .string ⟨#[111, 119, 110]⟩, .string t]
  obtain ⟨gS, hgS⟩ : ∃ z, x4.heap.size = z := ⟨_, rfl⟩
  rw [hgS] at S3
  have HS := Lib.hid S3
  have BS := Lib.hid (boxed x4 (.cells #[.int .i64 3, .string ⟨#[]⟩, .string ⟨#[]⟩, .int .i64 4, .string ⟨#[]⟩, .string ⟨#[]⟩, .int .i64 11, .string ⟨#[111, 119, 110]⟩, .string t] 23))
  clear y hwl S3
  go_wp2_with fail
  generalize World.alloc _ _ = x5 at HS BS ⊢
  refine (said_any _ _ _ _ V 0 [stR, stZ, ⟨11, ownK, t⟩] (HT.out.below (below_step B7.out (Nat.le_refl _) BS.out)) (HW.out _ BS.out) HG.out (by rw [HLN.out]; decide) (StL.three (x := stR) (y := stZ) (z := ⟨11, ownK, t⟩) HS.out) (by intro x hx; simp only [List.mem_cons, List.not_mem_nil, or_false] at hx; rcases hx with rfl | rfl | rfl; exact plain_ok 3 (by decide) (by decide); exact plain_ok 4 (by decide) (by decide); exact T5.out) (by intro x hx; simp only [List.mem_cons, List.not_mem_nil, or_false] at hx; rcases hx with rfl | rfl | rfl; exact ⟨by decide, by decide⟩; exact ⟨by decide, by decide⟩; exact ⟨Nat.le_trans (show ownK.size ≤ 3 by decide) (by decide), Nat.le_trans T1.out (by decide)⟩) (by simp)).mono ?_
  rintro e x6 ⟨r', s', cs', rfl, o1, o2, b⟩
  rw [HR3.out] at o1 o2 ⊢
  obtain ⟨A3, k3, rfl⟩ := o1.form
  obtain ⟨g3, cap3, rfl⟩ := o2.form (by rw [HL3.out]; decide)
  have y2 := (Y.out.keep BS.out).keep b
  have z0 := y2.cell_ 0 _ rfl
  have z1 := y2.cell_ 1 _ rfl
  have zf := y2.frozen
  have lz := y2.lt
  obtain ⟨q11, hq11⟩ : ∃ z, x6.heap.size = z := ⟨_, rfl⟩
  rw [hq11] at lz
  unfold anV
  clear y0 y1
  go_upto_region 5 with fail
  have hB6 : W0.heap.size ≤ x5.heap.size := (below_step B7.out (Nat.le_refl _) BS.out).size
  have n9 : q9 ≠ q5 := ((H9.out.keep BS.out).keep b).ne_ y2 (by decide)
  have X8 := Lib.hid ((((X7.out.keep BS.out).keep b).turn (o1.base hB6) (o2.base hB6)).keep (boxed _ (.cells #[.int .i64 a3K, .string a3T, .int .i64 a3S] 48)))
  have B8 := Lib.hid ((((below_step (below_step B7.out (Nat.le_refl _) BS.out) (Nat.le_refl _) b).setCell (p := ⟨q5, 0, none⟩) (by exact HQ5.out) (.slice A3 W3.rows.length k3)).setCell (p := ⟨q5, 1, none⟩) (by exact HQ5.out) (.slice (some ⟨g3, 0, none⟩) W3.ses.length cap3)).alloc (by simp [World.setCell]; exact Nat.le_trans hB6 b.size) (.cells #[.int .i64 a3K, .string a3T, .int .i64 a3S] 48))
  have G9 := Lib.hid (((((H9.out.keep BS.out).keep b).far (p := ⟨q5, 0, none⟩) n9 (.slice A3 W3.rows.length k3)).far (p := ⟨q5, 1, none⟩) n9 (.slice (some ⟨g3, 0, none⟩) W3.ses.length cap3)).alloc (.cells #[.int .i64 a3K, .string a3T, .int .i64 a3S] 48))
  clear o1 o2 b y2 z0 z1 zf lz X7 B7 H9 HS BS HW Y hq11 hgS hB6
  generalize World.alloc _ _ = x7 at X8 B8 G9 ⊢
  obtain ⟨AX, kX, gX, capX, y, hwl⟩ := X8.out.opens HL3.out (by decide) (by decide)
  have y0 := y.cell_ 0 _ rfl
  have y1 := y.cell_ 1 _ rfl
  have c0 := G9.out.cell_ 0 _ rfl
  have c1 := G9.out.cell_ 1 _ rfl
  have c2 := G9.out.cell_ 2 _ rfl
  have HW := Lib.hid hwl
  have S3 := Blk.new x7 23 #[.int .i64 xK, .string xk, .string xv]
  obtain ⟨gS, hgS⟩ : ∃ z, x7.heap.size = z := ⟨_, rfl⟩
  rw [hgS] at S3
  have HS := Lib.hid S3
  have BS := Lib.hid (boxed x7 (.cells #[.int .i64 xK, .string xk, .string xv] 23))
  clear y hwl S3
  go_wp2_with fail
  generalize World.alloc _ _ = x8a at HS BS ⊢
  refine (said_any _ _ _ _ W3 0 [⟨xK, xk, xv⟩] (HT.out.below (below_step B8.out (Nat.le_refl _) BS.out)) (HW.out _ BS.out) HG3.out (by rw [HL3.out]; decide) (StL.one (x := ⟨xK, xk, xv⟩) HS.out) (by intro x hx; simp only [List.mem_cons, List.not_mem_nil, or_false] at hx; subst hx; exact T4.out) (by intro x hx; simp only [List.mem_cons, List.not_mem_nil, or_false] at hx; subst hx; exact HSZ.out) (by simp)).mono ?_
  rintro e x8b ⟨r', s', cs', rfl, o1, o2, b⟩
  rw [HR4.out] at o1 o2 ⊢
  obtain ⟨A13, k13, rfl⟩ := o1.form
  obtain ⟨g13, cap13, rfl⟩ := o2.form (by rw [HL4.out]; decide)
  have hB : W0.heap.size ≤ x8a.heap.size := (below_step B8.out (Nat.le_refl _) BS.out).size
  obtain ⟨z13, hz13⟩ : ∃ z, x8b.heap.size = z := ⟨_, rfl⟩
  have bb := boxed2 x8b (.cells #[.slice A13 W4.rows.length k13, .slice (some ⟨g13, 0, none⟩) W4.ses.length cap13] 31) (.cells #[.int .i64 a4K, .string a4T, .int .i64 a4S] 48)
  have P13 := Lib.hid (show BoxW W0.heap.size ((x8b.alloc (.cells #[.slice A13 W4.rows.length k13, .slice (some ⟨g13, 0, none⟩) W4.ses.length cap13] 31)).alloc (.cells #[.int .i64 a4K, .string a4T, .int .i64 a4S] 48)) x8b.heap.size W4 from ⟨_, _, (Blk.new x8b _ _).alloc _, (o1.base hB).keeps (.of_below bb), cs', osl_keeps (o2.base hB) (.of_below bb) (.of_below bb)⟩)
  have Q13 := Lib.hid (Blk.new1 x8b (.cells #[.slice A13 W4.rows.length k13, .slice (some ⟨g13, 0, none⟩) W4.ses.length cap13] 31) 48 #[.int .i64 a4K, .string a4T, .int .i64 a4S])
  have X9 := Lib.hid (((X8.out.keep BS.out).keep b).keep bb)
  have B9 := Lib.hid (below_step (below_step (below_step B8.out (Nat.le_refl _) BS.out) (Nat.le_refl _) b) (Nat.le_refl _) bb)
  rw [hz13] at P13 Q13
  unfold anV
  clear o1 o2 b bb y0 y1 X8 B8 HS BS HW hgS hB c0 c1 c2 G9
  go_upto_region 6 with fail
  generalize World.alloc _ _ = x9' at X9 B9 P13 Q13  ⊢
  clear hz13
  obtain ⟨AX, kX, gX, capX, y, hwl⟩ := X9.out.opens HL3.out (by decide) (by decide)
  have y0 := y.cell_ 0 _ rfl
  have y1 := y.cell_ 1 _ rfl
  have HW := Lib.hid hwl
  have S3 := Blk.new x9' 23 #[.int .i64 8, .string ⟨#[111, 119, 110]⟩, .string ⟨#[]⟩]
  obtain ⟨gS, hgS⟩ : ∃ z, x9'.heap.size = z := ⟨_, rfl⟩
  rw [hgS] at S3
  have HS := Lib.hid S3
  have BS := Lib.hid (boxed x9' (.cells #[.int .i64 8, .string ⟨#[111, 119, 110]⟩, .string ⟨#[]⟩] 23))
  clear y hwl S3
  go_wp2_with fail
  generalize World.alloc _ _ = x9a at HS BS ⊢
  refine (said_any _ _ _ _ W3 0 [⟨8, ownK, ⟨#[]⟩⟩] (HT.out.below (below_step B9.out (Nat.le_refl _) BS.out)) (HW.out _ BS.out) HG3.out (by rw [HL3.out]; decide) (StL.one (x := ⟨8, ownK, ⟨#[]⟩⟩) HS.out) (by intro x hx; simp only [List.mem_cons, List.not_mem_nil, or_false] at hx; subst hx; exact exec_ok) (by intro x hx; simp only [List.mem_cons, List.not_mem_nil, or_false] at hx; subst hx; exact ⟨by decide, by decide⟩) (by simp)).mono ?_
  rintro e x9b ⟨r', s', cs', rfl, o1, o2, b⟩
  rw [HR5.out] at o1 o2 ⊢
  obtain ⟨A16, k16, rfl⟩ := o1.form
  obtain ⟨g16, cap16, rfl⟩ := o2.form (by rw [HL4.out]; decide)
  have hB : W0.heap.size ≤ x9a.heap.size := (below_step B9.out (Nat.le_refl _) BS.out).size
  obtain ⟨z16, hz16⟩ : ∃ z, x9b.heap.size = z := ⟨_, rfl⟩
  have bb := boxed2 x9b (.cells #[.slice A16 W4.rows.length k16, .slice (some ⟨g16, 0, none⟩) W4.ses.length cap16] 31) (.cells #[.int .i64 a4K, .string a4T, .int .i64 a4S] 48)
  have P16 := Lib.hid (show BoxW W0.heap.size ((x9b.alloc (.cells #[.slice A16 W4.rows.length k16, .slice (some ⟨g16, 0, none⟩) W4.ses.length cap16] 31)).alloc (.cells #[.int .i64 a4K, .string a4T, .int .i64 a4S] 48)) x9b.heap.size W4 from ⟨_, _, (Blk.new x9b _ _).alloc _, (o1.base hB).keeps (.of_below bb), cs', osl_keeps (o2.base hB) (.of_below bb) (.of_below bb)⟩)
  have Q16 := Lib.hid (Blk.new1 x9b (.cells #[.slice A16 W4.rows.length k16, .slice (some ⟨g16, 0, none⟩) W4.ses.length cap16] 31) 48 #[.int .i64 a4K, .string a4T, .int .i64 a4S])
  have X10 := Lib.hid (((X9.out.keep BS.out).keep b).keep bb)
  have B10 := Lib.hid (below_step (below_step (below_step B9.out (Nat.le_refl _) BS.out) (Nat.le_refl _) b) (Nat.le_refl _) bb)
  have P13 := Lib.hid (((P13.out.keep BS.out).keep b).keep bb)
  have Q13 := Lib.hid (((Q13.out.keep BS.out).keep b).keep bb)
  rw [hz16] at P16 Q16
  unfold anV
  clear o1 o2 b bb y0 y1 X9 B9 HS BS HW hgS hB 
  go_upto_region 7 with fail
  generalize World.alloc _ _ = x10' at X10 B10 P16 Q16 P13 Q13 ⊢
  clear hz16
  obtain ⟨A5, c5, g5, p5, y13, w13⟩ := P13.out.opens HL4.out (by decide) (by decide)
  obtain ⟨A6, c6, g6, p6, y16, w16⟩ := P16.out.opens HL4.out (by decide) (by decide)
  have H13 := Lib.hid w13
  have H16 := Lib.hid w16
  have Y13 := Lib.hid y13
  have Y16 := Lib.hid y16
  have y131 := y13.cell_ 1 _ rfl
  have y161 := y16.cell_ 1 _ rfl
  clear w13 w16 y13 y16
  go_upto_region 9 with fail
  clear y131 y161
  have HB := Lib.hid (Below.refl x10'.heap.size x10').drew
  have q0 := (Q13.out.keep HB.out).cell_ 0 _ rfl
  have q1 := (Q13.out.keep HB.out).cell_ 1 _ rfl
  have q2 := (Q13.out.keep HB.out).cell_ 2 _ rfl
  have r0 := (Q16.out.keep HB.out).cell_ 0 _ rfl
  have r1 := (Q16.out.keep HB.out).cell_ 1 _ rfl
  have r2 := (Q16.out.keep HB.out).cell_ 2 _ rfl
  have y0 := (Y13.out.keep HB.out).cell_ 0 _ rfl
  have y1 := (Y16.out.keep HB.out).cell_ 0 _ rfl
  refine region_segs [] (by kernel_rfl) ?_
  generalize World.drew _ = x11 at HB q0 q1 q2 r0 r1 r2 y0 y1 ⊢
  refine anyB_seg [0, 1, 2, 3, 4, 5, 6, 7, 8, 9, 10, 11, 12, 13, 14, 15, 16, 17, 18, 19, 20, 21, 22, 23] 16 rfl (by kernel_rfl) (by kernel_rfl) (by kernel_rfl) (fun _ _ d _ _ h => by cases d <;> exact h) ?_
  simp only [pickOps, List.getElem?_toArray, List.getElem?_cons_zero, List.getElem?_cons_succ]
  go_wp2_with fail
  refine ⟨rfl, by simp [plainOps, plainV, plain1, Act.eval], ?_⟩
  clear q0 q1 q2 r0 r1 r2 y0 y1
  refine anyB_one (i := 24) (by kernel_rfl) rfl (fun K hK => ?_)
  go_simp
  refine (equal_same _ _ _ W4.rows (H16.out _ HB.out).rows (H13.out _ HB.out).rows).mono ?_
  rintro e x12 ⟨rfl, b⟩
  refine hK.out _ _ (fun _ => b) ?_
  clear hK K
  have HC2 := Lib.hid (below_step HB.out (Nat.le_refl _) b)
  clear b HB
  have s5 := (H13.out _ HC2.out).ses.seat0 (by rw [HL4.out]; decide)
  have s6 := (H16.out _ HC2.out).ses.seat0 (by rw [HL4.out]; decide)
  obtain ⟨S, hS⟩ : ∃ S, W4.ses[0]'(by rw [HL4.out]; decide) = S := ⟨_, rfl⟩
  rw [hS] at s5 s6
  obtain ⟨_, _, _, _, ⟨v1, P1, P1'⟩, _⟩ := s5
  obtain ⟨_, _, _, _, ⟨v2, P2, P2'⟩, _⟩ := s6
  obtain ⟨a1, d1, rfl⟩ := P1'.form
  obtain ⟨a2, d2, rfl⟩ := P2'.form
  have x1 : x12.cell? ⟨g5, 4, none⟩ = some (.slice a1 S.wri.length d1) := P1
  have x2 : x12.cell? ⟨g6, 4, none⟩ = some (.slice a2 S.wri.length d2) := P2
  have y0 := (Y13.out.keep HC2.out).cell_ 1 _ rfl
  have y1 := (Y16.out.keep HC2.out).cell_ 1 _ rfl
  have E1 := Lib.hid P1'
  have E2 := Lib.hid P2'
  clear P1 P2 P1' P2' hS
  refine anyB_seg [25, 26, 27, 28, 29, 30, 31, 32, 33, 34, 35, 36] 3 rfl (by kernel_rfl) (by kernel_rfl) (by kernel_rfl) (fun _ _ d _ _ h => by cases d <;> exact h) ?_
  simp only [pickOps, List.getElem?_toArray, List.getElem?_cons_zero, List.getElem?_cons_succ]
  go_wp2_with fail
  refine ⟨rfl, by rfl, ?_⟩
  clear x1 x2 y0 y1
  refine anyB_one (i := 37) (by kernel_rfl) rfl (fun K hK => ?_)
  go_simp
  refine (equal_same _ _ _ S.wri E2.out E1.out).mono ?_
  rintro e x13 ⟨rfl, b⟩
  refine hK.out _ _ (fun _ => b) ?_
  clear hK K
  have HD := Lib.hid (below_step HC2.out (Nat.le_refl _) b)
  clear b HC2
  refine anyB_seg [38, 39] 0 rfl (by kernel_rfl) (by kernel_rfl) (by kernel_rfl) (fun _ _ d _ _ h => by cases d <;> exact h) ?_
  simp only [pickOps, List.getElem?_toArray, List.getElem?_cons_zero, List.getElem?_cons_succ]
  go_wp2_with fail
  refine ⟨rfl, by rfl, ?_⟩
  refine anyB_done (by kernel_rfl) ?_ _
  go_wp2_with fail
  go_ret
  exact ⟨by simp, below_step B10.out (Nat.le_refl _) HD.out⟩
end Go.Proofs.YtjbnfigpflambabDoor
