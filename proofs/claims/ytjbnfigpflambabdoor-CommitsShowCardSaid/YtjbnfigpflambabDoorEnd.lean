/- (server).end: a transaction is done, or undone. -/
import Derived.Test.YtjbnfigpflambabDoorMeth
namespace Go.Proofs.YtjbnfigpflambabDoor
open Go.ChangeShapes Go.WideShapes Go.ChangeAt Go.RowKit

theorem plusAll_snoc (l m : List Pr) (p : Pr) : plusAll l (m ++ [p]) = plusP (plusAll l m) p.k p.v := by unfold plusAll; rw [List.foldl_append]; rfl
theorem plusAll_sorted {l : List Pr} (h : Sorted l) : ∀ m : List Pr, Sorted (plusAll l m) ∧ (plusAll l m).length ≤ l.length + m.length := by
  intro m
  induction m generalizing l with
  | nil => exact ⟨h, Nat.le_refl _⟩
  | cons p m ih =>
    have h1 := ih (plus_sorted h p.k p.v)
    refine ⟨h1.1, Nat.le_trans h1.2 ?_⟩
    rw [plus_length l p.k p.v h, List.length_cons]
    split <;> omega
def EndR (w0 w : World) (bv bw g cap i : Nat) (W : Wo) (e : Ending) (w' : World) : Prop := e = .returned (.tuple #[]) ∧ SvAt w0 w' bv bw g cap i W ∧ Only2 bw g w w'
set_option maxHeartbeats 4000000 in
set_option maxRecDepth 100000 in
theorem end_no (w0 w : World) (bv bw g cap i : Nat) (W : Wo) (hS : SvAt w0 w bv bw g cap i W) (hG : W.ses.length ≤ 8) :
    Calls Tryd.prog 89 #[.pointer (some ⟨bv, 0, none⟩), .bool false] w (EndR w0 w bv bw g cap i (endW W i false)) := by
  have hi := hS.hi
  obtain ⟨Ar, cr, A1, k1, A2, k2, A3, k3, A4, k4, V⟩ := hS.view
  have HS := Lib.hid (hS.keep (Below.refl _ _).drew)
  have V0 := Lib.hid (V.keep (Below.refl _ _).drew)
  have HO := Lib.hid ((Only2.refl bw g w).drew)
  obtain ⟨n, hn⟩ : ∃ n, W.ses.length = n := ⟨_, rfl⟩
  rw [hn] at V0 hi hG
  have g1 : (i : Int) < (n : Int) := by omega
  have g2 : (0 : Int) ≤ (i : Int) := by omega
  clear hS V hn
  go_enter Tryd.func89, Tryd.ntmps89
  go_wp2_with fail
  have s0 := V0.out.s0
  have s1 := V0.out.s1
  have b1 := V0.out.b1
  refine region_segs [] (by kernel_rfl) ?_
  refine anyB_seg [0, 1, 2, 3, 4, 5, 6, 7, 8, 9, 10, 11, 12] 0 rfl (by kernel_rfl) (by kernel_rfl) (by kernel_rfl) (fun _ _ d _ _ h => by cases d <;> exact h) ?_
  simp only [pickOps, List.getElem?_toArray, List.getElem?_cons_zero, List.getElem?_cons_succ]
  go_wp2_with fail
  refine ⟨rfl, by rfl, ?_⟩
  refine anyB_done (by kernel_rfl) ?_ _
  clear s0 s1 b1
  generalize w.drew = x at HS V0 HO ⊢
  have c1 := V0.out.c1
  have c3 := V0.out.c3
  have c0 := V0.out.c0
  have c4 := V0.out.c4
  have fg := V0.out.fg
  have H1 := Lib.hid (HS.out.put_ (j := 1) (u := .slice A3 (W.se i).sav.length k3) (s' := ⟨(W.se i).st, (W.se i).sav, (W.se i).pre, (W.se i).sav, (W.se i).wri⟩) (by decide) fun w' a b c d hk h1 h2 h3 h4 => ⟨_, b, c, d, rfl, V0.out.o3.keeps hk, h2, h3, h4, HS.out.st64⟩)
  go_wp2_with fail
  refine bodyPost_ret (results_none rfl _ _ _) rfl ⟨rfl, ?_, (((HO.out.set_ (.inr rfl) _).set_ (.inr rfl) _).set_ (.inr rfl) _).set_ (.inr rfl) _⟩
  have h := H1.out.fin3
  rw [put_self W HS.out.hi, put_put] at h
  exact h
/-- in the midst of its loop: k writes are rows -/
structure LpAt (w0 w wx : World) (bv bw g cap i : Nat) (W : Wo) (A4 : Option Addr) (m k4 k : Nat) : Prop where
  sv : SvAt w0 wx bv bw g cap i ⟨plusAll W.rows ((W.se i).wri.take k), W.ses⟩
  only : Only2 bw g w wx
  wri : OPL wx w0.heap.size (.slice A4 m k4) (W.se i).wri
theorem LpAt.keep {w0 w wx wy : World} {bv bw g cap i m k4 k : Nat} {W : Wo} {A4 : Option Addr} (h : LpAt w0 w wx bv bw g cap i W A4 m k4 k) (hb : Below wx.heap.size wx wy) : LpAt w0 w wy bv bw g cap i W A4 m k4 k :=
  ⟨h.sv.keep hb, h.only.below hb, h.wri.keeps (.of_below hb)⟩
set_option maxHeartbeats 8000000 in
set_option maxRecDepth 100000 in
theorem end_yes (w0 w : World) (bv bw g cap i : Nat) (W : Wo) (hS : SvAt w0 w bv bw g cap i W) (hG : Good W) :
    Calls Tryd.prog 89 #[.pointer (some ⟨bv, 0, none⟩), .bool true] w (EndR w0 w bv bw g cap i (endW W i true)) := by
  have hi := hS.hi
  have hfew := hG.few
  have gse := hG.se hi
  have hrl : W.rows.length ≤ 100 := ((pairs_iff _ _ _).1 hG.rows).2.2
  have hwl : (W.se i).wri.length ≤ 100 := ((pairs_iff _ _ _).1 gse.wri).2.2
  have hrs := hG.rowsS
  obtain ⟨Ar, cr, A1, k1, A2, k2, A3, k3, A4, k4, V⟩ := hS.view
  have HS := Lib.hid (hS.keep (Below.refl _ _).drew)
  have V0 := Lib.hid (V.keep (Below.refl _ _).drew)
  have HO := Lib.hid ((Only2.refl bw g w).drew)
  have HRS := Lib.hid hrs
  have L0 := Lib.hid (LpAt.mk (w0 := w0) (k := 0) (W := W) (by rw [List.take_zero]; exact hS.keep (Below.refl _ _).drew) ((Only2.refl bw g w).drew) (V.keep (Below.refl _ _).drew).o4)
  obtain ⟨n, hn⟩ : ∃ n, W.ses.length = n := ⟨_, rfl⟩
  obtain ⟨m, hm⟩ : ∃ m, (W.se i).wri.length = m := ⟨_, rfl⟩
  rw [hn] at V0 hi hfew
  rw [hm] at L0 hwl
  have HN := Lib.hid hn
  have HM := Lib.hid hm
  have g1 : (i : Int) < (n : Int) := by omega
  have g2 : (0 : Int) ≤ (i : Int) := by omega
  have c4 := V0.out.c4
  rw [hm] at c4
  have C4 := Lib.hid c4
  clear hS V hn hm hG gse hrs c4
  go_enter Tryd.func89, Tryd.ntmps89
  go_wp2_with fail
  have s0 := V0.out.s0
  have s1 := V0.out.s1
  have b1 := V0.out.b1
  refine region_segs [] (by kernel_rfl) ?_
  refine anyB_seg [0, 1, 2, 3, 4, 5, 6, 7, 8, 9, 10, 11, 12] 0 rfl (by kernel_rfl) (by kernel_rfl) (by kernel_rfl) (fun _ _ d _ _ h => by cases d <;> exact h) ?_
  simp only [pickOps, List.getElem?_toArray, List.getElem?_cons_zero, List.getElem?_cons_succ]
  go_wp2_with fail
  refine ⟨rfl, by rfl, ?_⟩
  refine anyB_done (by kernel_rfl) ?_ _
  clear s0 s1 b1
  generalize w.drew = x at HS V0 HO L0 C4 ⊢
  have c4 := C4.out
  go_wp2_with fail
  go_loopw [25] (fun q wx => ∃ k : Nat, k ≤ m ∧ q = .int .i64 k ∧ LpAt w0 w wx bv bw g cap i W A4 m k4 k) (fun q _ => m - (intOf q).toNat)
  case atStart => exact ⟨0, Nat.zero_le _, rfl, L0.out⟩
  case round =>
    obtain ⟨k, hk, rfl, hL⟩ := hrel
    clear c4
    by_cases hlt : k < m
    · have hkl : k < (W.se i).wri.length := by rw [HM.out]; exact hlt
      obtain ⟨A5, c5, e5, _, hr5, hf5⟩ := hL.wri.pl
      injection e5 with e6 e7 e8
      subst e6
      obtain ⟨ad, hA, hBl, x1, x2⟩ := pair_at hr5 hkl
      subst hA
      obtain ⟨p, hp⟩ : ∃ p, (W.se i).wri[k] = p := ⟨_, rfl⟩
      rw [hp] at x1 x2
      have hpf := hf5.2 p (by rw [← hp]; exact List.getElem_mem hkl)
      have HPF := Lib.hid hpf
      have htk : (W.se i).wri.take (k + 1) = (W.se i).wri.take k ++ [p] := by rw [List.take_succ_eq_append_getElem hkl, hp]
      have hR := plusAll_sorted HRS.out ((W.se i).wri.take k)
      have hRl : (plusAll W.rows ((W.se i).wri.take k)).length ≤ 1000 := by have := hR.2; rw [List.length_take] at this; omega
      have HR := Lib.hid hR.1
      have HTK := Lib.hid (show plusAll W.rows ((W.se i).wri.take (k + 1)) = plusP (plusAll W.rows ((W.se i).wri.take k)) p.k p.v by rw [htk, plusAll_snoc])
      obtain ⟨R, hRe⟩ : ∃ R, plusAll W.rows ((W.se i).wri.take k) = R := ⟨_, rfl⟩
      rw [hRe] at HR HTK hRl
      have hL2 := hL.keep (boxed _ (.cells #[.string p.k, .string p.v] 66))
      obtain ⟨Br, er, B1, j1, B2, j2, B3, j3, B4, j4, V1⟩ := hL2.sv.view
      have PB := Lib.hid (Blk.new wr 66 #[.string p.k, .string p.v])
      have L1 := Lib.hid hL2
      have V2 := Lib.hid V1
      have hL2S := hL2.sv
      rw [hRe] at V2
      have g3 : (k : Int) < (m : Int) := by omega
      have g4 : (0 : Int) ≤ (k : Int) := by omega
      clear hL hr5 hf5 hp hpf htk hR hRe hL2 V1 hL2S hkl hBl e8 e7
      go_upto_region 5 with fail
      obtain ⟨pb, hpb⟩ : ∃ pb, wr.heap.size = pb := ⟨_, rfl⟩
      rw [hpb] at PB ⊢
      clear hpb
      generalize wr.alloc (.cells #[.string p.k, .string p.v] 66) = y0 at L1 V2 PB ⊢
      have s0 := (V2.out.keep (Below.refl _ _).drew).s0
      have b0 := (V2.out.keep (Below.refl _ _).drew).b0
      have p0 := PB.out.drew.cell_ 0 _ rfl
      have p1 := PB.out.drew.cell_ 1 _ rfl
      clear x1 x2
      refine region_segs [18] (by kernel_rfl) ?_
      refine anyB_seg [0, 1, 2, 3, 4, 5, 6, 7, 8, 9, 10, 11, 12, 13, 14] 4 rfl (by kernel_rfl) (by kernel_rfl) (by kernel_rfl) (fun _ _ d _ _ h => by cases d <;> exact h) ?_
      simp only [pickOps, List.getElem?_toArray, List.getElem?_cons_zero, List.getElem?_cons_succ]
      go_wp2_with fail
      refine ⟨rfl, by rfl, ?_⟩
      refine anyB_one (i := 15) (by kernel_rfl) rfl (fun K hK => ?_)
      go_simp
      have L2 := Lib.hid (L1.out.keep (Below.refl _ _).drew)
      have V3 := Lib.hid (V2.out.keep (Below.refl _ _).drew)
      clear s0 b0 p0 p1
      generalize y0.drew = y1 at L2 V3 hK ⊢
      clear L1 V2 PB
      refine (with_any _ _ R p.k p.v V3.out.o0.pl HR.out (by omega) HPF.out.1 HPF.out.2).mono ?_
      rintro e y2 ⟨u9, rfl, o9, b9⟩
      refine hK.out _ _ (fun _ => b9) ?_
      clear hK K
      have L3 := Lib.hid (L2.out.keep b9)
      have V4 := Lib.hid (V3.out.keep b9)
      have O9 := Lib.hid (o9.base L2.out.sv.bel.size)
      obtain ⟨A9, k9, rfl⟩ := o9.form
      obtain ⟨m9, hm9⟩ : ∃ m9, (plusP R p.k p.v).length = m9 := ⟨_, rfl⟩
      rw [hm9] at O9 ⊢
      clear o9 b9 hm9 L2 V3
      refine anyB_seg [16, 17] 1 rfl (by kernel_rfl) (by kernel_rfl) (by kernel_rfl) (fun _ _ d _ _ h => by cases d <;> exact h) ?_
      simp only [pickOps, List.getElem?_toArray, List.getElem?_cons_zero, List.getElem?_cons_succ]
      go_wp2_with fail
      refine ⟨rfl, by rfl, ?_⟩
      have b0 := V4.out.b0
      have fb := V4.out.fb
      refine anyB_one (i := 18) (by kernel_rfl) rfl (fun K hK => ?_)
      go_simp
      have L4 : Hid (LpAt w0 w (y2.setCell ⟨bw, 0, none⟩ (.slice A9 m9 k9)) bv bw g cap i W (some ad) m k4 (k + 1)) := by
        obtain ⟨r, h1, _⟩ := L3.out.sv.box
        have kp := Keeps.set_ (t' := 31) (t := 66) (p := ⟨bw, 0, none⟩) h1 (by decide) (.slice A9 m9 k9)
        refine Lib.hid ⟨?_, L3.out.only.set_ (.inl rfl) _, L3.out.wri.keeps kp⟩
        rw [HTK.out]
        exact L3.out.sv.rows_new (Below.refl _ _) (O9.out.keeps kp)
      refine hK.out _ _ (fun h => absurd (by decide) h) ?_
      clear hK K
      refine anyB_done (by kernel_rfl) ?_ _
      clear b0 fb
      go_wp2_with fail
      go_roundw
      case rel => exact ⟨k + 1, by omega, by go_num, L4.out⟩
      case measure => simp [intOf]; omega
    · obtain rfl : k = m := by omega
      have e0 : (W.se i).wri.take k = (W.se i).wri := List.take_of_length_le (by rw [HM.out]; exact Nat.le_refl _)
      have hsv := hL.sv
      rw [e0] at hsv
      have ho := hL.only
      obtain ⟨Br, er, B1, j1, B2, j2, B3, j3, B4, j4, V1⟩ := hsv.view
      have c0 := V1.c0
      have c3 := V1.c3
      have c4 := V1.c4
      have fg := V1.fg
      have HF := Lib.hid hsv.fin3
      have HO2 := Lib.hid ho
      clear hL hsv ho V1 e0
      go_wp2_with fail
      refine bodyPost_ret (results_none rfl _ _ _) rfl ⟨rfl, HF.out, ((HO2.out.set_ (.inr rfl) _).set_ (.inr rfl) _).set_ (.inr rfl) _⟩
end Go.Proofs.YtjbnfigpflambabDoor
