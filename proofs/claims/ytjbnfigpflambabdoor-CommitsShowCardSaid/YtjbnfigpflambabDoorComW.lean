/- The walk of CommitsShow: it returns true. -/
import Derived.Test.YtjbnfigpflambabDoorSaidK
import Derived.Test.YtjbnfigpflambabDoorCs
import Derived.Test.YtjbnfigpflambabDoorPick
import Derived.Test.YtjbnfigpflambabDoorShelf
import Derived.Lib.ItoaNum
import Derived.Lib.AppendIntMem
namespace Go.Proofs.YtjbnfigpflambabDoor
open Go.ChangeShapes Go.WideShapes Go.ChangeAt Go.RowKit

def valOf (n : Nat) : ByteArray := ⟨#[118]⟩ ++ ⟨(Lib.itoa n).toArray⟩
def valB (n : Nat) : Bool := decide (checkE (putS (valOf n)) = 0) && decide ((Lib.itoa n).length ≤ 3)
set_option maxRecDepth 1000000 in
theorem val_all : (List.range 1000).all valB = true := by decide +kernel
theorem val_ok {n : Nat} (h : n < 1000) : checkE (putS (valOf n)) = 0 ∧ (Lib.itoa n).length ≤ 3 := by
  have := List.all_eq_true.1 val_all n (List.mem_range.2 h)
  unfold valB at this
  simpa using this
theorem read_ok : checkE readR = 0 := by decide +kernel
theorem row_size : rowK.size ≤ maxLen := by decide
/-- strconv.Itoa of a number that is not negative -/
theorem itoaN (n : Nat) (hn : n < 1000) (w : World) (hT : Lib.TabIs Tryd.prog w "internal/strconv.uint64pow10" .u64 Lib.pow10Tab) :
    Calls Tryd.prog 27 #[.int .i64 (n : Int)] w fun e w' => e = .returned (.string ⟨(Lib.itoa n).toArray⟩) ∧ Below w.heap.size w w' := by
  refine (Tryd.strconv_Itoa n (by omega) (by omega) w hT).mono ?_
  rintro e w' ⟨rfl, k, os, rfl⟩
  exact ⟨rfl, Lib.below_grow _ w (Nat.le_refl _) k os⟩
set_option maxHeartbeats 16000000 in
set_option maxRecDepth 100000 in
theorem commitsShow_walk (W0 : World) (hT : Tabs W0) (hP : Lib.TabIs Tryd.prog W0 "internal/strconv.uint64pow10" .u64 Lib.pow10Tab) (n : Int) (hn : (Lit.int .i64 n).wf = true) :
    Calls Tryd.prog 9 #[.int .i64 n] W0 fun e w' => e = .returned (.bool true) ∧ Below W0.heap.size W0 w' := by
  have HT := Lib.hid hT
  have HP := Lib.hid hP
  have HN := Lib.hid hn
  obtain ⟨i, hi4, hpi⟩ : ∃ i : Nat, i < 1000 ∧ pick n 1000 = (i : Int) := ⟨(pick n 1000).toNat, by have := pick_bd n 1000 (by decide); omega, by have := pick_bd n 1000 (by decide); omega⟩
  obtain ⟨hok, hlen⟩ := val_ok hi4
  have HPI := Lib.hid hpi
  have HI := Lib.hid hi4
  obtain ⟨t, ht⟩ : ∃ t : ByteArray, ⟨(Lib.itoa i).toArray⟩ = t := ⟨_, rfl⟩
  have hts : t.size ≤ 3 := by rw [← ht]; exact hlen
  obtain ⟨v, hv⟩ : ∃ v, valOf i = v := ⟨_, rfl⟩
  have hv' : (⟨#[118]⟩ : ByteArray) ++ t = v := by rw [← hv, ← ht]; rfl
  have hvs : v.size ≤ 4 := by rw [← hv', ByteArray.size_append]; have : (⟨#[118]⟩ : ByteArray).size = 1 := rfl; omega
  rw [hv] at hok
  have HC := Lib.hid hok
  have HVS := Lib.hid (show v.size ≤ maxLen from Nat.le_trans hvs (by decide))
  have HTT := Lib.hid ht
  clear hT hP hn hpi hok hlen hi4 hv ht hvs
  obtain ⟨V0, hV0⟩ : ∃ V, w2 [] 0 [] = V := ⟨_, rfl⟩
  obtain ⟨V1, hV1⟩ : ∃ V, w2 [] 1 [⟨rowK, v⟩] = V := ⟨_, rfl⟩
  obtain ⟨V2, hV2⟩ : ∃ V, w2 [⟨rowK, v⟩] 0 [] = V := ⟨_, rfl⟩
  have l0 : V0.ses.length = 2 := by rw [← hV0]; rfl
  have l1 : V1.ses.length = 2 := by rw [← hV1]; rfl
  have l2 : V2.ses.length = 2 := by rw [← hV2]; rfl
  have r2 : V2.rows.length = 1 := by rw [← hV2]; rfl
  have gB : checkE stB = 0 := plain_ok 1 (by decide) (by decide)
  have gC : checkE stC = 0 := plain_ok 2 (by decide) (by decide)
  have s1 : saidL 0 [stB, putS v, readR] (V0, An.no) = (V1, ⟨2, v, 1⟩) := by
    rw [← hV0, ← hV1]
    show doW (doW (doW (w2 [] 0 []) 0 stB).1 0 (putS v)).1 0 readR = _
    simp only [cs_begin, cs_put, cs_read]
  have s2 : saidL 1 [readR] (V1, An.no) = (V1, ⟨3, ⟨#[]⟩, 0⟩) := by rw [← hV1]; exact cs_read1 v
  have s3 : saidL 1 [putS v] (V1, An.no) = (V1, ⟨4, tHeld, 0⟩) := by rw [← hV1]; exact cs_put1 v
  have s4 : saidL 0 [stC] (V1, An.no) = (V2, ⟨1, ⟨#[]⟩, 0⟩) := by rw [← hV1, ← hV2]; exact cs_commit v
  have s5 : saidL 1 [readR] (V2, An.no) = (V2, ⟨2, v, 0⟩) := by rw [← hV2]; exact cs_read2 v
  have s6 : saidL 1 [putS v] (V2, An.no) = (V2, ⟨1, ⟨#[]⟩, 0⟩) := by rw [← hV2]; exact cs_put2 v
  have x1 : ∀ x ∈ [stB, putS v, readR], checkE x = 0 := by intro x hx; simp only [List.mem_cons, List.not_mem_nil, or_false] at hx; rcases hx with rfl | rfl | rfl; exact gB; exact HC.out; exact read_ok
  have xR : ∀ x ∈ [readR], checkE x = 0 := by intro x hx; simp only [List.mem_cons, List.not_mem_nil, or_false] at hx; subst hx; exact read_ok
  have xP : ∀ x ∈ [putS v], checkE x = 0 := by intro x hx; simp only [List.mem_cons, List.not_mem_nil, or_false] at hx; subst hx; exact HC.out
  have xC : ∀ x ∈ [stC], checkE x = 0 := by intro x hx; simp only [List.mem_cons, List.not_mem_nil, or_false] at hx; subst hx; exact gC
  have g0 : Good V0 := by rw [← hV0]; exact cs_good
  have g1 := (said_good (n := 2) (i := 0) (by decide) [stB, putS v, readR] (V0, An.no) x1 g0 l0).1
  rw [s1] at g1
  have g2 := (said_good (n := 2) (i := 0) (by decide) [stC] (V1, An.no) xC g1 l1).1
  rw [s4] at g2
  have L0 := Lib.hid l0
  have L1 := Lib.hid l1
  have L2 := Lib.hid l2
  have R2 := Lib.hid r2
  have G0 := Lib.hid g0
  have G1 := Lib.hid g1
  have G2 := Lib.hid g2
  have S1 := Lib.hid s1
  have S2 := Lib.hid s2
  have S3 := Lib.hid s3
  have S4 := Lib.hid s4
  have S5 := Lib.hid s5
  have S6 := Lib.hid s6
  have K1 := Lib.hid x1
  have K2 := Lib.hid xR
  have K3 := Lib.hid xP
  have K4 := Lib.hid xC
  have K5 := Lib.hid xR
  have K6 := Lib.hid xP
  clear l0 l1 l2 r2 g0 g1 g2 s1 s2 s3 s4 s5 s6 x1 xR xP xC gB gC
  have BX : ∀ (B : Nat) (x : World), B ≤ x.heap.size → BoxW B ((x.alloc (.cells (zcells 2).toArray 58)).alloc (.cells #[.slice none 0 0, .slice (some ⟨x.heap.size, 0, none⟩) 2 2] 31)) (x.heap.size + 1) V0 := by
    intro B x hB
    have b1 := Blk.new x 58 (zcells 2).toArray
    have b2 := Blk.new (x.alloc (.cells (zcells 2).toArray 58)) 31 #[.slice none 0 0, .slice (some ⟨x.heap.size, 0, none⟩) 2 2]
    have e : ∀ (u : World) (o : Obj), (u.alloc o).heap.size = u.heap.size + 1 := fun u o => by simp
    rw [e] at b2
    rw [← hV0]
    exact ⟨_, _, b2, OPL.nil_ _ _, zcells 2, ⟨rfl, .inr ⟨x.heap.size, 2, (zcells 2).toArray, rfl, hB, b1.alloc _, Nat.le_refl _, by decide, rfl, rfl⟩⟩, zcells_ok _ _ 2⟩
  have MK : ∀ w : World, (Instr.makeSlice 29 (.int .i64 2) (.int .i64 2)).run Tryd.prog w = .ok (.slice (some ⟨w.heap.size, 0, none⟩) 2 2) (w.alloc (.cells (zcells 2).toArray 58 (0, 0))) := fun _ => by kernel_rfl
  have HBX := Lib.hid BX
  have HMK := Lib.hid MK
  clear BX MK hV0 hV1 hV2
  go_enter Tryd.func9, Tryd.ntmps9
  go_wp2_with fail
  refine (picked_any _ _ _ HN.out (by decide) (by decide)).mono ?_
  rintro e w2 ⟨rfl, rfl⟩
  rw [HPI.out]
  go_wp2_with fail
  refine (itoaN i HI.out _ HP.out).mono ?_
  rintro e w1 ⟨rfl, b1⟩
  rw [HTT.out]
  go_upto_region 2 with fail
  have B1 := Lib.hid b1
  clear b1 hv' hts
  have MK := HMK.out
  go_upto_region 3 with fail
  clear MK
  obtain ⟨q4, hq4⟩ : ∃ q, w1.heap.size + 1 = q := ⟨_, rfl⟩
  have X := Lib.hid (HBX.out W0.heap.size w1 B1.out.size)
  have B := Lib.hid ((below_step B1.out (Nat.le_refl _) (boxed w1 (.cells (zcells 2).toArray 58))).alloc (by simp; have := B1.out.size; omega) (.cells #[.slice none 0 0, .slice (some ⟨w1.heap.size, 0, none⟩) 2 2] 31))
  have DQ := Lib.hid (show W0.heap.size ≤ q4 by rw [← hq4]; have := B1.out.size; omega)
  rw [hq4] at X ⊢
  generalize World.alloc _ _ = x2 at X B ⊢
  clear B1 hq4 HBX HMK
  go_upto_region 4 with fail
  have BB := boxed x2 (.cells #[.int .i64 7, .string ⟨#[114, 111, 119]⟩, .string ⟨#[]⟩] 23)
  have R := Lib.hid (Blk.new x2 23 #[.int .i64 7, .string ⟨#[114, 111, 119]⟩, .string ⟨#[]⟩])
  have XX := Lib.hid (X.out.keep BB)
  have Bx := Lib.hid (below_step B.out (Nat.le_refl _) BB)
  clear X B BB
  obtain ⟨q5, hq5⟩ : ∃ q, x2.heap.size = q := ⟨_, rfl⟩
  rw [hq5] at R ⊢
  generalize World.alloc _ _ = x3 at XX Bx R ⊢
  clear hq5
  go_upto_region 5 with fail
  have BB := boxed x3 (.cells #[.int .i64 10, .string ⟨#[114, 111, 119]⟩, .string v] 23)
  have P := Lib.hid (Blk.new x3 23 #[.int .i64 10, .string ⟨#[114, 111, 119]⟩, .string v])
  have X := Lib.hid (XX.out.keep BB)
  have B := Lib.hid (below_step Bx.out (Nat.le_refl _) BB)
  have R' := Lib.hid (R.out.keep BB)
  clear XX Bx BB R
  have R := R'
  clear R'
  obtain ⟨q6, hq6⟩ : ∃ q, x3.heap.size = q := ⟨_, rfl⟩
  rw [hq6] at P ⊢
  generalize World.alloc _ _ = x4 at X B R P ⊢
  clear hq6
  obtain ⟨A, k, g, cap, y, hwl⟩ := X.out.opens L0.out (by decide) (by decide)
  have y0 := y.cell_ 0 _ rfl
  have y1 := y.cell_ 1 _ rfl
  have r0 := R.out.cell_ 0 _ rfl
  have r1 := R.out.cell_ 1 _ rfl
  have r2 := R.out.cell_ 2 _ rfl
  have p0 := P.out.cell_ 0 _ rfl
  have p1 := P.out.cell_ 1 _ rfl
  have p2 := P.out.cell_ 2 _ rfl
  have HW := Lib.hid hwl
  have Y := Lib.hid y
  have S3 := Blk.new x4 23 #[.int .i64 1, .string ⟨#[]⟩, .string ⟨#[]⟩, .int .i64 10, .string ⟨#[114, 111, 119]⟩, .string v, .int .i64 7, .string ⟨#[114, 111, 119]⟩, .string ⟨#[]⟩]
  obtain ⟨gS, hgS⟩ : ∃ z, x4.heap.size = z := ⟨_, rfl⟩
  rw [hgS] at S3
  have HS := Lib.hid S3
  have BS := Lib.hid (boxed x4 (.cells #[.int .i64 1, .string ⟨#[]⟩, .string ⟨#[]⟩, .int .i64 10, .string ⟨#[114, 111, 119]⟩, .string v, .int .i64 7, .string ⟨#[114, 111, 119]⟩, .string ⟨#[]⟩] 23))
  clear y hwl S3
  go_wp2_with fail
  generalize World.alloc _ _ = xa at HS BS ⊢
  clear r0 r1 r2 p0 p1 p2 y0 y1
  refine (said_any _ _ _ _ V0 0 [stB, putS v, readR] (HT.out.below (below_step B.out (Nat.le_refl _) BS.out)) (HW.out _ BS.out) G0.out (by rw [L0.out]; decide) (StL.three (x := stB) (y := putS v) (z := readR) HS.out) K1.out (by intro x hx; simp only [List.mem_cons, List.not_mem_nil, or_false] at hx; rcases hx with rfl | rfl | rfl; exact ⟨by decide, by decide⟩; exact ⟨row_size, HVS.out⟩; exact ⟨row_size, by decide⟩) (by simp)).mono ?_
  rintro e xb ⟨r', s', cs', rfl, o1, o2, b⟩
  rw [S1.out] at o1 o2 ⊢
  obtain ⟨A3, k3, rfl⟩ := o1.form
  obtain ⟨g3, cap3, rfl⟩ := o2.form (by rw [L1.out]; decide)
  have y2 := (Y.out.keep BS.out).keep b
  have z0 := y2.cell_ 0 _ rfl
  have z1 := y2.cell_ 1 _ rfl
  have zf := y2.frozen
  have lz := y2.lt
  obtain ⟨qz, hqz⟩ : ∃ z, xb.heap.size = z := ⟨_, rfl⟩
  rw [hqz] at lz
  unfold anV
  go_upto_region 6 with fail
  have hB6 : W0.heap.size ≤ xa.heap.size := (below_step B.out (Nat.le_refl _) BS.out).size
  have nR : q5 ≠ q4 := ((R.out.keep BS.out).keep b).ne_ y2 (by decide)
  have nP : q6 ≠ q4 := ((P.out.keep BS.out).keep b).ne_ y2 (by decide)
  have NX := Lib.hid ((((X.out.keep BS.out).keep b).turn (o1.base hB6) (o2.base hB6)).keep (boxed _ (.cells #[.int .i64 2, .string v, .int .i64 1] 48)))
  have NB := Lib.hid ((((below_step (below_step B.out (Nat.le_refl _) BS.out) (Nat.le_refl _) b).setCell (p := ⟨q4, 0, none⟩) (by exact DQ.out) (.slice A3 V1.rows.length k3)).setCell (p := ⟨q4, 1, none⟩) (by exact DQ.out) (.slice (some ⟨g3, 0, none⟩) V1.ses.length cap3)).alloc (by simp [World.setCell]; exact Nat.le_trans hB6 b.size) (.cells #[.int .i64 2, .string v, .int .i64 1] 48))
  have NR := Lib.hid (((((R.out.keep BS.out).keep b).far (p := ⟨q4, 0, none⟩) nR (.slice A3 V1.rows.length k3)).far (p := ⟨q4, 1, none⟩) nR (.slice (some ⟨g3, 0, none⟩) V1.ses.length cap3)).alloc (.cells #[.int .i64 2, .string v, .int .i64 1] 48))
  have NP := Lib.hid (((((P.out.keep BS.out).keep b).far (p := ⟨q4, 0, none⟩) nP (.slice A3 V1.rows.length k3)).far (p := ⟨q4, 1, none⟩) nP (.slice (some ⟨g3, 0, none⟩) V1.ses.length cap3)).alloc (.cells #[.int .i64 2, .string v, .int .i64 1] 48))
  have N1 := Lib.hid (Blk.new ((xb.setCell ⟨q4, 0, none⟩ (.slice A3 V1.rows.length k3)).setCell ⟨q4, 1, none⟩ (.slice (some ⟨g3, 0, none⟩) V1.ses.length cap3)) 48 #[.int .i64 2, .string v, .int .i64 1])
  have eq : ((xb.setCell ⟨q4, 0, none⟩ (.slice A3 V1.rows.length k3)).setCell ⟨q4, 1, none⟩ (.slice (some ⟨g3, 0, none⟩) V1.ses.length cap3)).heap.size = qz := by simp [World.setCell, hqz]
  rw [eq] at N1
  clear X B R P  y2 z0 z1 zf lz o1 o2 b HS BS HW Y hqz hgS eq nR nP  hB6
  have X := NX
  have B := NB
  have R := NR
  have P := NP
  have Q1 := N1
  clear NX NB NR NP  N1
  obtain ⟨a1, ha1⟩ : ∃ z, qz = z := ⟨_, rfl⟩
  rw [ha1] at Q1 ⊢
  clear ha1
  generalize World.alloc _ _ = x5 at X B R P Q1 ⊢
  obtain ⟨A, k, g, cap, y, hwl⟩ := X.out.opens L1.out (by decide) (by decide)
  have y0 := y.cell_ 0 _ rfl
  have y1 := y.cell_ 1 _ rfl
  have r0 := R.out.cell_ 0 _ rfl
  have r1 := R.out.cell_ 1 _ rfl
  have r2 := R.out.cell_ 2 _ rfl
  have p0 := P.out.cell_ 0 _ rfl
  have p1 := P.out.cell_ 1 _ rfl
  have p2 := P.out.cell_ 2 _ rfl
  have HW := Lib.hid hwl
  have Y := Lib.hid y
  have S3 := Blk.new x5 23 #[.int .i64 7, .string ⟨#[114, 111, 119]⟩, .string ⟨#[]⟩]
  obtain ⟨gS, hgS⟩ : ∃ z, x5.heap.size = z := ⟨_, rfl⟩
  rw [hgS] at S3
  have HS := Lib.hid S3
  have BS := Lib.hid (boxed x5 (.cells #[.int .i64 7, .string ⟨#[114, 111, 119]⟩, .string ⟨#[]⟩] 23))
  clear y hwl S3
  go_wp2_with fail
  generalize World.alloc _ _ = xa at HS BS ⊢
  clear r0 r1 r2 p0 p1 p2 y0 y1
  refine (said_any _ _ _ _ V1 1 [readR] (HT.out.below (below_step B.out (Nat.le_refl _) BS.out)) (HW.out _ BS.out) G1.out (by rw [L1.out]; decide) (StL.one (x := readR) HS.out) K2.out (by intro x hx; simp only [List.mem_cons, List.not_mem_nil, or_false] at hx; subst hx; exact ⟨row_size, by decide⟩) (by simp)).mono ?_
  rintro e xb ⟨r', s', cs', rfl, o1, o2, b⟩
  rw [S2.out] at o1 o2 ⊢
  obtain ⟨A3, k3, rfl⟩ := o1.form
  obtain ⟨g3, cap3, rfl⟩ := o2.form (by rw [L1.out]; decide)
  have y2 := (Y.out.keep BS.out).keep b
  have z0 := y2.cell_ 0 _ rfl
  have z1 := y2.cell_ 1 _ rfl
  have zf := y2.frozen
  have lz := y2.lt
  obtain ⟨qz, hqz⟩ : ∃ z, xb.heap.size = z := ⟨_, rfl⟩
  rw [hqz] at lz
  unfold anV
  go_upto_region 7 with fail
  have hB6 : W0.heap.size ≤ xa.heap.size := (below_step B.out (Nat.le_refl _) BS.out).size
  have nR : q5 ≠ q4 := ((R.out.keep BS.out).keep b).ne_ y2 (by decide)
  have nP : q6 ≠ q4 := ((P.out.keep BS.out).keep b).ne_ y2 (by decide)
  have n1 := ((Q1.out.keep BS.out).keep b).ne_ y2 (by decide)
  have NX := Lib.hid ((((X.out.keep BS.out).keep b).turn (o1.base hB6) (o2.base hB6)).keep (boxed _ (.cells #[.int .i64 3, .string ⟨#[]⟩, .int .i64 0] 48)))
  have NB := Lib.hid ((((below_step (below_step B.out (Nat.le_refl _) BS.out) (Nat.le_refl _) b).setCell (p := ⟨q4, 0, none⟩) (by exact DQ.out) (.slice A3 V1.rows.length k3)).setCell (p := ⟨q4, 1, none⟩) (by exact DQ.out) (.slice (some ⟨g3, 0, none⟩) V1.ses.length cap3)).alloc (by simp [World.setCell]; exact Nat.le_trans hB6 b.size) (.cells #[.int .i64 3, .string ⟨#[]⟩, .int .i64 0] 48))
  have NR := Lib.hid (((((R.out.keep BS.out).keep b).far (p := ⟨q4, 0, none⟩) nR (.slice A3 V1.rows.length k3)).far (p := ⟨q4, 1, none⟩) nR (.slice (some ⟨g3, 0, none⟩) V1.ses.length cap3)).alloc (.cells #[.int .i64 3, .string ⟨#[]⟩, .int .i64 0] 48))
  have NP := Lib.hid (((((P.out.keep BS.out).keep b).far (p := ⟨q4, 0, none⟩) nP (.slice A3 V1.rows.length k3)).far (p := ⟨q4, 1, none⟩) nP (.slice (some ⟨g3, 0, none⟩) V1.ses.length cap3)).alloc (.cells #[.int .i64 3, .string ⟨#[]⟩, .int .i64 0] 48))
  have M1 := Lib.hid (((((Q1.out.keep BS.out).keep b).far (p := ⟨q4, 0, none⟩) n1 (.slice A3 V1.rows.length k3)).far (p := ⟨q4, 1, none⟩) n1 (.slice (some ⟨g3, 0, none⟩) V1.ses.length cap3)).alloc (.cells #[.int .i64 3, .string ⟨#[]⟩, .int .i64 0] 48))
  have N2 := Lib.hid (Blk.new ((xb.setCell ⟨q4, 0, none⟩ (.slice A3 V1.rows.length k3)).setCell ⟨q4, 1, none⟩ (.slice (some ⟨g3, 0, none⟩) V1.ses.length cap3)) 48 #[.int .i64 3, .string ⟨#[]⟩, .int .i64 0])
  have eq : ((xb.setCell ⟨q4, 0, none⟩ (.slice A3 V1.rows.length k3)).setCell ⟨q4, 1, none⟩ (.slice (some ⟨g3, 0, none⟩) V1.ses.length cap3)).heap.size = qz := by simp [World.setCell, hqz]
  rw [eq] at N2
  clear X B R P Q1 y2 z0 z1 zf lz o1 o2 b HS BS HW Y hqz hgS eq nR nP n1 hB6
  have X := NX
  have B := NB
  have R := NR
  have P := NP
  have Q1 := M1
  have Q2 := N2
  clear NX NB NR NP M1 N2
  obtain ⟨a2, ha2⟩ : ∃ z, qz = z := ⟨_, rfl⟩
  rw [ha2] at Q2 ⊢
  clear ha2
  generalize World.alloc _ _ = x6 at X B R P Q1 Q2 ⊢
  obtain ⟨A, k, g, cap, y, hwl⟩ := X.out.opens L1.out (by decide) (by decide)
  have y0 := y.cell_ 0 _ rfl
  have y1 := y.cell_ 1 _ rfl
  have r0 := R.out.cell_ 0 _ rfl
  have r1 := R.out.cell_ 1 _ rfl
  have r2 := R.out.cell_ 2 _ rfl
  have p0 := P.out.cell_ 0 _ rfl
  have p1 := P.out.cell_ 1 _ rfl
  have p2 := P.out.cell_ 2 _ rfl
  have HW := Lib.hid hwl
  have Y := Lib.hid y
  have S3 := Blk.new x6 23 #[.int .i64 10, .string ⟨#[114, 111, 119]⟩, .string v]
  obtain ⟨gS, hgS⟩ : ∃ z, x6.heap.size = z := ⟨_, rfl⟩
  rw [hgS] at S3
  have HS := Lib.hid S3
  have BS := Lib.hid (boxed x6 (.cells #[.int .i64 10, .string ⟨#[114, 111, 119]⟩, .string v] 23))
  clear y hwl S3
  go_wp2_with fail
  generalize World.alloc _ _ = xa at HS BS ⊢
  clear r0 r1 r2 p0 p1 p2 y0 y1
  refine (said_any _ _ _ _ V1 1 [putS v] (HT.out.below (below_step B.out (Nat.le_refl _) BS.out)) (HW.out _ BS.out) G1.out (by rw [L1.out]; decide) (StL.one (x := putS v) HS.out) K3.out (by intro x hx; simp only [List.mem_cons, List.not_mem_nil, or_false] at hx; subst hx; exact ⟨row_size, HVS.out⟩) (by simp)).mono ?_
  rintro e xb ⟨r', s', cs', rfl, o1, o2, b⟩
  rw [S3.out] at o1 o2 ⊢
  obtain ⟨A3, k3, rfl⟩ := o1.form
  obtain ⟨g3, cap3, rfl⟩ := o2.form (by rw [L1.out]; decide)
  have y2 := (Y.out.keep BS.out).keep b
  have z0 := y2.cell_ 0 _ rfl
  have z1 := y2.cell_ 1 _ rfl
  have zf := y2.frozen
  have lz := y2.lt
  obtain ⟨qz, hqz⟩ : ∃ z, xb.heap.size = z := ⟨_, rfl⟩
  rw [hqz] at lz
  unfold anV
  go_upto_region 8 with fail
  have hB6 : W0.heap.size ≤ xa.heap.size := (below_step B.out (Nat.le_refl _) BS.out).size
  have nR : q5 ≠ q4 := ((R.out.keep BS.out).keep b).ne_ y2 (by decide)
  have nP : q6 ≠ q4 := ((P.out.keep BS.out).keep b).ne_ y2 (by decide)
  have n1 := ((Q1.out.keep BS.out).keep b).ne_ y2 (by decide)
  have n2 := ((Q2.out.keep BS.out).keep b).ne_ y2 (by decide)
  have NX := Lib.hid ((((X.out.keep BS.out).keep b).turn (o1.base hB6) (o2.base hB6)).keep (boxed _ (.cells #[.int .i64 4, .string tHeld, .int .i64 0] 48)))
  have NB := Lib.hid ((((below_step (below_step B.out (Nat.le_refl _) BS.out) (Nat.le_refl _) b).setCell (p := ⟨q4, 0, none⟩) (by exact DQ.out) (.slice A3 V1.rows.length k3)).setCell (p := ⟨q4, 1, none⟩) (by exact DQ.out) (.slice (some ⟨g3, 0, none⟩) V1.ses.length cap3)).alloc (by simp [World.setCell]; exact Nat.le_trans hB6 b.size) (.cells #[.int .i64 4, .string tHeld, .int .i64 0] 48))
  have NR := Lib.hid (((((R.out.keep BS.out).keep b).far (p := ⟨q4, 0, none⟩) nR (.slice A3 V1.rows.length k3)).far (p := ⟨q4, 1, none⟩) nR (.slice (some ⟨g3, 0, none⟩) V1.ses.length cap3)).alloc (.cells #[.int .i64 4, .string tHeld, .int .i64 0] 48))
  have NP := Lib.hid (((((P.out.keep BS.out).keep b).far (p := ⟨q4, 0, none⟩) nP (.slice A3 V1.rows.length k3)).far (p := ⟨q4, 1, none⟩) nP (.slice (some ⟨g3, 0, none⟩) V1.ses.length cap3)).alloc (.cells #[.int .i64 4, .string tHeld, .int .i64 0] 48))
  have M1 := Lib.hid (((((Q1.out.keep BS.out).keep b).far (p := ⟨q4, 0, none⟩) n1 (.slice A3 V1.rows.length k3)).far (p := ⟨q4, 1, none⟩) n1 (.slice (some ⟨g3, 0, none⟩) V1.ses.length cap3)).alloc (.cells #[.int .i64 4, .string tHeld, .int .i64 0] 48))
  have M2 := Lib.hid (((((Q2.out.keep BS.out).keep b).far (p := ⟨q4, 0, none⟩) n2 (.slice A3 V1.rows.length k3)).far (p := ⟨q4, 1, none⟩) n2 (.slice (some ⟨g3, 0, none⟩) V1.ses.length cap3)).alloc (.cells #[.int .i64 4, .string tHeld, .int .i64 0] 48))
  have N3 := Lib.hid (Blk.new ((xb.setCell ⟨q4, 0, none⟩ (.slice A3 V1.rows.length k3)).setCell ⟨q4, 1, none⟩ (.slice (some ⟨g3, 0, none⟩) V1.ses.length cap3)) 48 #[.int .i64 4, .string tHeld, .int .i64 0])
  have eq : ((xb.setCell ⟨q4, 0, none⟩ (.slice A3 V1.rows.length k3)).setCell ⟨q4, 1, none⟩ (.slice (some ⟨g3, 0, none⟩) V1.ses.length cap3)).heap.size = qz := by simp [World.setCell, hqz]
  rw [eq] at N3
  clear X B R P Q1 Q2 y2 z0 z1 zf lz o1 o2 b HS BS HW Y hqz hgS eq nR nP n1 n2 hB6
  have X := NX
  have B := NB
  have R := NR
  have P := NP
  have Q1 := M1
  have Q2 := M2
  have Q3 := N3
  clear NX NB NR NP M1 M2 N3
  obtain ⟨a3, ha3⟩ : ∃ z, qz = z := ⟨_, rfl⟩
  rw [ha3] at Q3 ⊢
  clear ha3
  generalize World.alloc _ _ = x7 at X B R P Q1 Q2 Q3 ⊢
  obtain ⟨A, k, g, cap, y, hwl⟩ := X.out.opens L1.out (by decide) (by decide)
  have y0 := y.cell_ 0 _ rfl
  have y1 := y.cell_ 1 _ rfl
  have r0 := R.out.cell_ 0 _ rfl
  have r1 := R.out.cell_ 1 _ rfl
  have r2 := R.out.cell_ 2 _ rfl
  have p0 := P.out.cell_ 0 _ rfl
  have p1 := P.out.cell_ 1 _ rfl
  have p2 := P.out.cell_ 2 _ rfl
  have HW := Lib.hid hwl
  have Y := Lib.hid y
  have S3 := Blk.new x7 23 #[.int .i64 2, .string ⟨#[]⟩, .string ⟨#[]⟩]
  obtain ⟨gS, hgS⟩ : ∃ z, x7.heap.size = z := ⟨_, rfl⟩
  rw [hgS] at S3
  have HS := Lib.hid S3
  have BS := Lib.hid (boxed x7 (.cells #[.int .i64 2, .string ⟨#[]⟩, .string ⟨#[]⟩] 23))
  clear y hwl S3
  go_wp2_with fail
  generalize World.alloc _ _ = xa at HS BS ⊢
  clear r0 r1 r2 p0 p1 p2 y0 y1
  refine (said_any _ _ _ _ V1 0 [stC] (HT.out.below (below_step B.out (Nat.le_refl _) BS.out)) (HW.out _ BS.out) G1.out (by rw [L1.out]; decide) (StL.one (x := stC) HS.out) K4.out (by intro x hx; simp only [List.mem_cons, List.not_mem_nil, or_false] at hx; subst hx; exact ⟨by decide, by decide⟩) (by simp)).mono ?_
  rintro e xb ⟨r', s', cs', rfl, o1, o2, b⟩
  rw [S4.out] at o1 o2 ⊢
  obtain ⟨A3, k3, rfl⟩ := o1.form
  obtain ⟨g3, cap3, rfl⟩ := o2.form (by rw [L2.out]; decide)
  have y2 := (Y.out.keep BS.out).keep b
  have z0 := y2.cell_ 0 _ rfl
  have z1 := y2.cell_ 1 _ rfl
  have zf := y2.frozen
  have lz := y2.lt
  obtain ⟨qz, hqz⟩ : ∃ z, xb.heap.size = z := ⟨_, rfl⟩
  rw [hqz] at lz
  unfold anV
  go_upto_region 9 with fail
  have hB6 : W0.heap.size ≤ xa.heap.size := (below_step B.out (Nat.le_refl _) BS.out).size
  have nR : q5 ≠ q4 := ((R.out.keep BS.out).keep b).ne_ y2 (by decide)
  have nP : q6 ≠ q4 := ((P.out.keep BS.out).keep b).ne_ y2 (by decide)
  have n1 := ((Q1.out.keep BS.out).keep b).ne_ y2 (by decide)
  have n2 := ((Q2.out.keep BS.out).keep b).ne_ y2 (by decide)
  have n3 := ((Q3.out.keep BS.out).keep b).ne_ y2 (by decide)
  have NX := Lib.hid ((((X.out.keep BS.out).keep b).turn (o1.base hB6) (o2.base hB6)).keep (boxed _ (.cells #[.int .i64 1, .string ⟨#[]⟩, .int .i64 0] 48)))
  have NB := Lib.hid ((((below_step (below_step B.out (Nat.le_refl _) BS.out) (Nat.le_refl _) b).setCell (p := ⟨q4, 0, none⟩) (by exact DQ.out) (.slice A3 V2.rows.length k3)).setCell (p := ⟨q4, 1, none⟩) (by exact DQ.out) (.slice (some ⟨g3, 0, none⟩) V2.ses.length cap3)).alloc (by simp [World.setCell]; exact Nat.le_trans hB6 b.size) (.cells #[.int .i64 1, .string ⟨#[]⟩, .int .i64 0] 48))
  have NR := Lib.hid (((((R.out.keep BS.out).keep b).far (p := ⟨q4, 0, none⟩) nR (.slice A3 V2.rows.length k3)).far (p := ⟨q4, 1, none⟩) nR (.slice (some ⟨g3, 0, none⟩) V2.ses.length cap3)).alloc (.cells #[.int .i64 1, .string ⟨#[]⟩, .int .i64 0] 48))
  have NP := Lib.hid (((((P.out.keep BS.out).keep b).far (p := ⟨q4, 0, none⟩) nP (.slice A3 V2.rows.length k3)).far (p := ⟨q4, 1, none⟩) nP (.slice (some ⟨g3, 0, none⟩) V2.ses.length cap3)).alloc (.cells #[.int .i64 1, .string ⟨#[]⟩, .int .i64 0] 48))
  have M1 := Lib.hid (((((Q1.out.keep BS.out).keep b).far (p := ⟨q4, 0, none⟩) n1 (.slice A3 V2.rows.length k3)).far (p := ⟨q4, 1, none⟩) n1 (.slice (some ⟨g3, 0, none⟩) V2.ses.length cap3)).alloc (.cells #[.int .i64 1, .string ⟨#[]⟩, .int .i64 0] 48))
  have M2 := Lib.hid (((((Q2.out.keep BS.out).keep b).far (p := ⟨q4, 0, none⟩) n2 (.slice A3 V2.rows.length k3)).far (p := ⟨q4, 1, none⟩) n2 (.slice (some ⟨g3, 0, none⟩) V2.ses.length cap3)).alloc (.cells #[.int .i64 1, .string ⟨#[]⟩, .int .i64 0] 48))
  have M3 := Lib.hid (((((Q3.out.keep BS.out).keep b).far (p := ⟨q4, 0, none⟩) n3 (.slice A3 V2.rows.length k3)).far (p := ⟨q4, 1, none⟩) n3 (.slice (some ⟨g3, 0, none⟩) V2.ses.length cap3)).alloc (.cells #[.int .i64 1, .string ⟨#[]⟩, .int .i64 0] 48))
  have N4 := Lib.hid (Blk.new ((xb.setCell ⟨q4, 0, none⟩ (.slice A3 V2.rows.length k3)).setCell ⟨q4, 1, none⟩ (.slice (some ⟨g3, 0, none⟩) V2.ses.length cap3)) 48 #[.int .i64 1, .string ⟨#[]⟩, .int .i64 0])
  have eq : ((xb.setCell ⟨q4, 0, none⟩ (.slice A3 V2.rows.length k3)).setCell ⟨q4, 1, none⟩ (.slice (some ⟨g3, 0, none⟩) V2.ses.length cap3)).heap.size = qz := by simp [World.setCell, hqz]
  rw [eq] at N4
  clear X B R P Q1 Q2 Q3 y2 z0 z1 zf lz o1 o2 b HS BS HW Y hqz hgS eq nR nP n1 n2 n3 hB6
  have X := NX
  have B := NB
  have R := NR
  have P := NP
  have Q1 := M1
  have Q2 := M2
  have Q3 := M3
  have Q4 := N4
  clear NX NB NR NP M1 M2 M3 N4
  obtain ⟨a4, ha4⟩ : ∃ z, qz = z := ⟨_, rfl⟩
  rw [ha4] at Q4 ⊢
  clear ha4
  generalize World.alloc _ _ = x8 at X B R P Q1 Q2 Q3 Q4 ⊢
  obtain ⟨A, k, g, cap, y, hwl⟩ := X.out.opens L2.out (by decide) (by decide)
  have y0 := y.cell_ 0 _ rfl
  have y1 := y.cell_ 1 _ rfl
  have r0 := R.out.cell_ 0 _ rfl
  have r1 := R.out.cell_ 1 _ rfl
  have r2 := R.out.cell_ 2 _ rfl
  have p0 := P.out.cell_ 0 _ rfl
  have p1 := P.out.cell_ 1 _ rfl
  have p2 := P.out.cell_ 2 _ rfl
  have HW := Lib.hid hwl
  have Y := Lib.hid y
  have S3 := Blk.new x8 23 #[.int .i64 7, .string ⟨#[114, 111, 119]⟩, .string ⟨#[]⟩]
  obtain ⟨gS, hgS⟩ : ∃ z, x8.heap.size = z := ⟨_, rfl⟩
  rw [hgS] at S3
  have HS := Lib.hid S3
  have BS := Lib.hid (boxed x8 (.cells #[.int .i64 7, .string ⟨#[114, 111, 119]⟩, .string ⟨#[]⟩] 23))
  clear y hwl S3
  go_wp2_with fail
  generalize World.alloc _ _ = xa at HS BS ⊢
  clear r0 r1 r2 p0 p1 p2 y0 y1
  refine (said_any _ _ _ _ V2 1 [readR] (HT.out.below (below_step B.out (Nat.le_refl _) BS.out)) (HW.out _ BS.out) G2.out (by rw [L2.out]; decide) (StL.one (x := readR) HS.out) K5.out (by intro x hx; simp only [List.mem_cons, List.not_mem_nil, or_false] at hx; subst hx; exact ⟨row_size, by decide⟩) (by simp)).mono ?_
  rintro e xb ⟨r', s', cs', rfl, o1, o2, b⟩
  rw [S5.out] at o1 o2 ⊢
  obtain ⟨A3, k3, rfl⟩ := o1.form
  obtain ⟨g3, cap3, rfl⟩ := o2.form (by rw [L2.out]; decide)
  have y2 := (Y.out.keep BS.out).keep b
  have z0 := y2.cell_ 0 _ rfl
  have z1 := y2.cell_ 1 _ rfl
  have zf := y2.frozen
  have lz := y2.lt
  obtain ⟨qz, hqz⟩ : ∃ z, xb.heap.size = z := ⟨_, rfl⟩
  rw [hqz] at lz
  unfold anV
  go_upto_region 10 with fail
  have hB6 : W0.heap.size ≤ xa.heap.size := (below_step B.out (Nat.le_refl _) BS.out).size
  have nR : q5 ≠ q4 := ((R.out.keep BS.out).keep b).ne_ y2 (by decide)
  have nP : q6 ≠ q4 := ((P.out.keep BS.out).keep b).ne_ y2 (by decide)
  have n1 := ((Q1.out.keep BS.out).keep b).ne_ y2 (by decide)
  have n2 := ((Q2.out.keep BS.out).keep b).ne_ y2 (by decide)
  have n3 := ((Q3.out.keep BS.out).keep b).ne_ y2 (by decide)
  have n4 := ((Q4.out.keep BS.out).keep b).ne_ y2 (by decide)
  have NX := Lib.hid ((((X.out.keep BS.out).keep b).turn (o1.base hB6) (o2.base hB6)).keep (boxed _ (.cells #[.int .i64 2, .string v, .int .i64 0] 48)))
  have NB := Lib.hid ((((below_step (below_step B.out (Nat.le_refl _) BS.out) (Nat.le_refl _) b).setCell (p := ⟨q4, 0, none⟩) (by exact DQ.out) (.slice A3 V2.rows.length k3)).setCell (p := ⟨q4, 1, none⟩) (by exact DQ.out) (.slice (some ⟨g3, 0, none⟩) V2.ses.length cap3)).alloc (by simp [World.setCell]; exact Nat.le_trans hB6 b.size) (.cells #[.int .i64 2, .string v, .int .i64 0] 48))
  have NR := Lib.hid (((((R.out.keep BS.out).keep b).far (p := ⟨q4, 0, none⟩) nR (.slice A3 V2.rows.length k3)).far (p := ⟨q4, 1, none⟩) nR (.slice (some ⟨g3, 0, none⟩) V2.ses.length cap3)).alloc (.cells #[.int .i64 2, .string v, .int .i64 0] 48))
  have NP := Lib.hid (((((P.out.keep BS.out).keep b).far (p := ⟨q4, 0, none⟩) nP (.slice A3 V2.rows.length k3)).far (p := ⟨q4, 1, none⟩) nP (.slice (some ⟨g3, 0, none⟩) V2.ses.length cap3)).alloc (.cells #[.int .i64 2, .string v, .int .i64 0] 48))
  have M1 := Lib.hid (((((Q1.out.keep BS.out).keep b).far (p := ⟨q4, 0, none⟩) n1 (.slice A3 V2.rows.length k3)).far (p := ⟨q4, 1, none⟩) n1 (.slice (some ⟨g3, 0, none⟩) V2.ses.length cap3)).alloc (.cells #[.int .i64 2, .string v, .int .i64 0] 48))
  have M2 := Lib.hid (((((Q2.out.keep BS.out).keep b).far (p := ⟨q4, 0, none⟩) n2 (.slice A3 V2.rows.length k3)).far (p := ⟨q4, 1, none⟩) n2 (.slice (some ⟨g3, 0, none⟩) V2.ses.length cap3)).alloc (.cells #[.int .i64 2, .string v, .int .i64 0] 48))
  have M3 := Lib.hid (((((Q3.out.keep BS.out).keep b).far (p := ⟨q4, 0, none⟩) n3 (.slice A3 V2.rows.length k3)).far (p := ⟨q4, 1, none⟩) n3 (.slice (some ⟨g3, 0, none⟩) V2.ses.length cap3)).alloc (.cells #[.int .i64 2, .string v, .int .i64 0] 48))
  have M4 := Lib.hid (((((Q4.out.keep BS.out).keep b).far (p := ⟨q4, 0, none⟩) n4 (.slice A3 V2.rows.length k3)).far (p := ⟨q4, 1, none⟩) n4 (.slice (some ⟨g3, 0, none⟩) V2.ses.length cap3)).alloc (.cells #[.int .i64 2, .string v, .int .i64 0] 48))
  have N5 := Lib.hid (Blk.new ((xb.setCell ⟨q4, 0, none⟩ (.slice A3 V2.rows.length k3)).setCell ⟨q4, 1, none⟩ (.slice (some ⟨g3, 0, none⟩) V2.ses.length cap3)) 48 #[.int .i64 2, .string v, .int .i64 0])
  have eq : ((xb.setCell ⟨q4, 0, none⟩ (.slice A3 V2.rows.length k3)).setCell ⟨q4, 1, none⟩ (.slice (some ⟨g3, 0, none⟩) V2.ses.length cap3)).heap.size = qz := by simp [World.setCell, hqz]
  rw [eq] at N5
  clear X B R P Q1 Q2 Q3 Q4 y2 z0 z1 zf lz o1 o2 b HS BS HW Y hqz hgS eq nR nP n1 n2 n3 n4 hB6
  have X := NX
  have B := NB
  have R := NR
  have P := NP
  have Q1 := M1
  have Q2 := M2
  have Q3 := M3
  have Q4 := M4
  have Q5 := N5
  clear NX NB NR NP M1 M2 M3 M4 N5
  obtain ⟨a5, ha5⟩ : ∃ z, qz = z := ⟨_, rfl⟩
  rw [ha5] at Q5 ⊢
  clear ha5
  generalize World.alloc _ _ = x9 at X B R P Q1 Q2 Q3 Q4 Q5 ⊢
  obtain ⟨A, k, g, cap, y, hwl⟩ := X.out.opens L2.out (by decide) (by decide)
  have y0 := y.cell_ 0 _ rfl
  have y1 := y.cell_ 1 _ rfl
  have r0 := R.out.cell_ 0 _ rfl
  have r1 := R.out.cell_ 1 _ rfl
  have r2 := R.out.cell_ 2 _ rfl
  have p0 := P.out.cell_ 0 _ rfl
  have p1 := P.out.cell_ 1 _ rfl
  have p2 := P.out.cell_ 2 _ rfl
  have HW := Lib.hid hwl
  have Y := Lib.hid y
  have S3 := Blk.new x9 23 #[.int .i64 10, .string ⟨#[114, 111, 119]⟩, .string v]
  obtain ⟨gS, hgS⟩ : ∃ z, x9.heap.size = z := ⟨_, rfl⟩
  rw [hgS] at S3
  have HS := Lib.hid S3
  have BS := Lib.hid (boxed x9 (.cells #[.int .i64 10, .string ⟨#[114, 111, 119]⟩, .string v] 23))
  clear y hwl S3
  go_wp2_with fail
  generalize World.alloc _ _ = xa at HS BS ⊢
  clear r0 r1 r2 p0 p1 p2 y0 y1
  refine (said_any _ _ _ _ V2 1 [putS v] (HT.out.below (below_step B.out (Nat.le_refl _) BS.out)) (HW.out _ BS.out) G2.out (by rw [L2.out]; decide) (StL.one (x := putS v) HS.out) K6.out (by intro x hx; simp only [List.mem_cons, List.not_mem_nil, or_false] at hx; subst hx; exact ⟨row_size, HVS.out⟩) (by simp)).mono ?_
  rintro e xb ⟨r', s', cs', rfl, o1, o2, b⟩
  rw [S6.out] at o1 o2 ⊢
  obtain ⟨A3, k3, rfl⟩ := o1.form
  obtain ⟨g3, cap3, rfl⟩ := o2.form (by rw [L2.out]; decide)
  have y2 := (Y.out.keep BS.out).keep b
  have z0 := y2.cell_ 0 _ rfl
  have z1 := y2.cell_ 1 _ rfl
  have zf := y2.frozen
  have lz := y2.lt
  obtain ⟨qz, hqz⟩ : ∃ z, xb.heap.size = z := ⟨_, rfl⟩
  rw [hqz] at lz
  unfold anV
  go_upto_region 11 with fail
  have hB6 : W0.heap.size ≤ xa.heap.size := (below_step B.out (Nat.le_refl _) BS.out).size
  have nR : q5 ≠ q4 := ((R.out.keep BS.out).keep b).ne_ y2 (by decide)
  have nP : q6 ≠ q4 := ((P.out.keep BS.out).keep b).ne_ y2 (by decide)
  have n1 := ((Q1.out.keep BS.out).keep b).ne_ y2 (by decide)
  have n2 := ((Q2.out.keep BS.out).keep b).ne_ y2 (by decide)
  have n3 := ((Q3.out.keep BS.out).keep b).ne_ y2 (by decide)
  have n4 := ((Q4.out.keep BS.out).keep b).ne_ y2 (by decide)
  have n5 := ((Q5.out.keep BS.out).keep b).ne_ y2 (by decide)
  have NX := Lib.hid ((((X.out.keep BS.out).keep b).turn (o1.base hB6) (o2.base hB6)).keep (boxed _ (.cells #[.int .i64 1, .string ⟨#[]⟩, .int .i64 0] 48)))
  have NB := Lib.hid ((((below_step (below_step B.out (Nat.le_refl _) BS.out) (Nat.le_refl _) b).setCell (p := ⟨q4, 0, none⟩) (by exact DQ.out) (.slice A3 V2.rows.length k3)).setCell (p := ⟨q4, 1, none⟩) (by exact DQ.out) (.slice (some ⟨g3, 0, none⟩) V2.ses.length cap3)).alloc (by simp [World.setCell]; exact Nat.le_trans hB6 b.size) (.cells #[.int .i64 1, .string ⟨#[]⟩, .int .i64 0] 48))
  have NR := Lib.hid (((((R.out.keep BS.out).keep b).far (p := ⟨q4, 0, none⟩) nR (.slice A3 V2.rows.length k3)).far (p := ⟨q4, 1, none⟩) nR (.slice (some ⟨g3, 0, none⟩) V2.ses.length cap3)).alloc (.cells #[.int .i64 1, .string ⟨#[]⟩, .int .i64 0] 48))
  have NP := Lib.hid (((((P.out.keep BS.out).keep b).far (p := ⟨q4, 0, none⟩) nP (.slice A3 V2.rows.length k3)).far (p := ⟨q4, 1, none⟩) nP (.slice (some ⟨g3, 0, none⟩) V2.ses.length cap3)).alloc (.cells #[.int .i64 1, .string ⟨#[]⟩, .int .i64 0] 48))
  have M1 := Lib.hid (((((Q1.out.keep BS.out).keep b).far (p := ⟨q4, 0, none⟩) n1 (.slice A3 V2.rows.length k3)).far (p := ⟨q4, 1, none⟩) n1 (.slice (some ⟨g3, 0, none⟩) V2.ses.length cap3)).alloc (.cells #[.int .i64 1, .string ⟨#[]⟩, .int .i64 0] 48))
  have M2 := Lib.hid (((((Q2.out.keep BS.out).keep b).far (p := ⟨q4, 0, none⟩) n2 (.slice A3 V2.rows.length k3)).far (p := ⟨q4, 1, none⟩) n2 (.slice (some ⟨g3, 0, none⟩) V2.ses.length cap3)).alloc (.cells #[.int .i64 1, .string ⟨#[]⟩, .int .i64 0] 48))
  have M3 := Lib.hid (((((Q3.out.keep BS.out).keep b).far (p := ⟨q4, 0, none⟩) n3 (.slice A3 V2.rows.length k3)).far (p := ⟨q4, 1, none⟩) n3 (.slice (some ⟨g3, 0, none⟩) V2.ses.length cap3)).alloc (.cells #[.int .i64 1, .string ⟨#[]⟩, .int .i64 0] 48))
  have M4 := Lib.hid (((((Q4.out.keep BS.out).keep b).far (p := ⟨q4, 0, none⟩) n4 (.slice A3 V2.rows.length k3)).far (p := ⟨q4, 1, none⟩) n4 (.slice (some ⟨g3, 0, none⟩) V2.ses.length cap3)).alloc (.cells #[.int .i64 1, .string ⟨#[]⟩, .int .i64 0] 48))
  have M5 := Lib.hid (((((Q5.out.keep BS.out).keep b).far (p := ⟨q4, 0, none⟩) n5 (.slice A3 V2.rows.length k3)).far (p := ⟨q4, 1, none⟩) n5 (.slice (some ⟨g3, 0, none⟩) V2.ses.length cap3)).alloc (.cells #[.int .i64 1, .string ⟨#[]⟩, .int .i64 0] 48))
  have N6 := Lib.hid (Blk.new ((xb.setCell ⟨q4, 0, none⟩ (.slice A3 V2.rows.length k3)).setCell ⟨q4, 1, none⟩ (.slice (some ⟨g3, 0, none⟩) V2.ses.length cap3)) 48 #[.int .i64 1, .string ⟨#[]⟩, .int .i64 0])
  have eq : ((xb.setCell ⟨q4, 0, none⟩ (.slice A3 V2.rows.length k3)).setCell ⟨q4, 1, none⟩ (.slice (some ⟨g3, 0, none⟩) V2.ses.length cap3)).heap.size = qz := by simp [World.setCell, hqz]
  rw [eq] at N6
  clear X B R P Q1 Q2 Q3 Q4 Q5 y2 z0 z1 zf lz o1 o2 b HS BS HW Y hqz hgS eq nR nP n1 n2 n3 n4 n5 hB6
  have X := NX
  have B := NB
  have R := NR
  have P := NP
  have Q1 := M1
  have Q2 := M2
  have Q3 := M3
  have Q4 := M4
  have Q5 := M5
  have Q6 := N6
  clear NX NB NR NP M1 M2 M3 M4 M5 N6
  obtain ⟨a6, ha6⟩ : ∃ z, qz = z := ⟨_, rfl⟩
  rw [ha6] at Q6 ⊢
  clear ha6
  generalize World.alloc _ _ = x10 at X B R P Q1 Q2 Q3 Q4 Q5 Q6 ⊢
  obtain ⟨A, k, g, cap, y, hwl⟩ := X.out.opens L2.out (by decide) (by decide)
  have y0 := y.cell_ 0 _ rfl
  rw [R2.out] at y0
  have u10 := Q1.out.cell_ 0 _ rfl
  have u11 := Q1.out.cell_ 1 _ rfl
  have u12 := Q1.out.cell_ 2 _ rfl
  have u20 := Q2.out.cell_ 0 _ rfl
  have u21 := Q2.out.cell_ 1 _ rfl
  have u22 := Q2.out.cell_ 2 _ rfl
  have u30 := Q3.out.cell_ 0 _ rfl
  have u31 := Q3.out.cell_ 1 _ rfl
  have u32 := Q3.out.cell_ 2 _ rfl
  have u40 := Q4.out.cell_ 0 _ rfl
  have u41 := Q4.out.cell_ 1 _ rfl
  have u42 := Q4.out.cell_ 2 _ rfl
  have u50 := Q5.out.cell_ 0 _ rfl
  have u51 := Q5.out.cell_ 1 _ rfl
  have u52 := Q5.out.cell_ 2 _ rfl
  have u60 := Q6.out.cell_ 0 _ rfl
  have u61 := Q6.out.cell_ 1 _ rfl
  have u62 := Q6.out.cell_ 2 _ rfl
  clear hwl
  go_wp2_with fail
  go_ret
  exact ⟨rfl, B.out⟩
end Go.Proofs.YtjbnfigpflambabDoor
