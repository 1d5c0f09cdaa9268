/- (server).do: any statement. back.Do: a statement in a session of a world; the world that came in stays as it is. -/
import Derived.Test.YtjbnfigpflambacGreatDoorG17
/- (server).do: any statement. -/
namespace Go.Proofs.YtjbnfigpflambacGreatDoor
open Go.ChangeShapes Go.WideShapes Go.ChangeAt Go.RowKit
theorem readS_size (t : ByteArray) : (readS t).key.size ≤ t.size ∧ (readS t).val.size ≤ t.size := by
 unfold readS
 split
 ·exact ⟨part_size t 1, part_size t 2⟩
 ·exact ⟨Nat.zero_le _, Nat.zero_le _⟩
def execO (W : Wo) (i : Nat) : Option ByteArray → Wo × An
 | none => (W, noA tNotPrep)
 | some t => did1 W i (readS t)
theorem exec_eq (W : Wo) (i : Nat) (key val : ByteArray) (h : (W.se i).st ≠ 2) : did W i ⟨8, key, val⟩ = execO W i (atP (W.se i).pre key) := by
 unfold did
 rw [if_pos rfl]
 unfold execW
 rw [if_neg h]
 show (match atP (W.se i).pre key with | none => _ | some t => _) = _
 cases atP (W.se i).pre key <;> rfl
set_option maxHeartbeats 16000000 in
set_option maxRecDepth 100000 in
theorem exec_any (w0 w : World) (bv bw g cap i : Nat) (W : Wo) (x : St) (hS : SvAt w0 w bv bw g cap i W) (hG : Good W) (hT : Tabs w0) (hk : x.key.size ≤ maxLen) (hv : x.val.size ≤ maxLen) (h8 : x.k = 8) :
  Calls Tryz.prog 65 #[.pointer (some ⟨bv, 0, none⟩), .agg #[.int .i64 x.k, .string x.key, .string x.val]] w (SvR w0 w bv bw g cap i (did W i x)) := by
 have HT := Lib.hid hT
 clear hT
 have HG := Lib.hid hG
 have hfew := hG.few
 have hi := hS.hi
 have HKV := Lib.hid (And.intro hk hv)
 have D0 := Lib.hid (Dth.start (x := x) hS)
 obtain ⟨Ar, cr, A1, k1, A2, k2, A3, k3, A4, k4, V⟩ := hS.view
 have V0 := Lib.hid (V.keep (boxed2 w (.cells #[.int .i64 x.k, .string x.key, .string x.val] 41) (.cells #[.int .i64 0, .string ⟨#[]⟩, .int .i64 0] 46)))
 obtain ⟨n, hn⟩ : ∃ n, W.ses.length = n := ⟨_, rfl⟩
 rw [hn] at V0 hi hfew
 have HN := Lib.hid hn
 obtain ⟨K, key, val⟩ := x
 obtain rfl : K = 8 := h8
 obtain ⟨q, hq⟩ : ∃ q, w.heap.size = q := ⟨_, rfl⟩
 rw [hq] at D0
 have g1 : (i : Int) < (n : Int) := by omega
 have g2 : (0 : Int) ≤ (i : Int) := by omega
 clear hG hS V hn hk hv
 go_enter Tryz.func65, Tryz.ntmps65
 go_wp2_with fail
 generalize (w.alloc (.cells #[.int .i64 8, .string key, .string val] 41 (0, 0))).alloc (.cells #[.int .i64 0, .string ⟨#[]⟩, .int .i64 0] 46 (0, 0)) = x0 at D0 V0 ⊢
 have s0 := (V0.out.keep (Below.refl _ _).drew).s0
 have s1 := (V0.out.keep (Below.refl _ _).drew).s1
 have b1 := (V0.out.keep (Below.refl _ _).drew).b1
 refine region_segs [] (by kernel_rfl) ?_
 refine anyB_seg [0, 1, 2, 3, 4, 5, 6, 7, 8, 9, 10, 11, 12] 0 rfl (by kernel_rfl) (by kernel_rfl) (by kernel_rfl) (fun _ _ d _ _ h => by cases d <;> exact h) ?_
 simp only [pickOps, List.getElem?_toArray, List.getElem?_cons_zero, List.getElem?_cons_succ]
 go_wp2_with fail
 refine ⟨rfl, by rfl, ?_⟩
 refine anyB_done (by kernel_rfl) ?_ _
 have D1 := Lib.hid (D0.out.keep (Below.refl _ _).drew)
 have V1 := Lib.hid (V0.out.keep (Below.refl _ _).drew)
 clear s0 s1 b1 hq
 generalize x0.drew = x1 at D1 V1 ⊢
 clear D0 V0
 have c0 := V1.out.c0
 have a0 := D1.out.arg.cell_ 0 _ rfl
 have a1 := D1.out.arg.cell_ 1 _ rfl
 have a2 := D1.out.arg.cell_ 2 _ rfl
 obtain ⟨s, hs⟩ : ∃ s, (W.se i).st = s := ⟨_, rfl⟩
 rw [hs] at c0
 have XS := Lib.hid hs
 clear hs
 by_cases hf : s = 2
 ·have q1 : (s == 2) = true := by simpa using hf
  have HRR := Lib.hid (show did W i ⟨8, key, val⟩ = (W, noA tFailed) by unfold did; rw [if_pos rfl]; unfold execW; rw [if_pos (by rw [XS.out]; exact hf)])
  clear hf
  go_wp2_with fail
  refine (failed_any _ _).mono ?_
  rintro e x4 ⟨rfl, b4⟩
  have D4 := Lib.hid (D1.out.keep b4)
  have z0 := D4.out.m.res.cell_ 0 _ rfl
  have z1 := D4.out.m.res.cell_ 1 _ rfl
  have z2 := D4.out.m.res.cell_ 2 _ rfl
  have fz := D4.out.m.res.frozen
  clear b4 c0
  go_wp2_with fail
  have RB := (((D4.out.m.res).set_ 0 (.int .i64 4)).set_ 1 (.string ⟨#[102, 97, 105, 108, 101, 100, 32, 97, 108, 114, 101, 97, 100, 121]⟩)).set_ 2 (.int .i64 0)
  have t0 := RB.cell_ 0 _ rfl
  have t1 := RB.cell_ 1 _ rfl
  have t2 := RB.cell_ 2 _ rfl
  clear z0 z1 z2 fz
  clear a0 a1 a2
  refine bodyPost_ret (v := .agg #[.int .i64 4, .string ⟨#[102, 97, 105, 108, 101, 100, 32, 97, 108, 114, 101, 97, 100, 121]⟩, .int .i64 0]) (by simp [results, Tryz.results65, go_sem, t0, t1, t2]) rfl ?_
  rw [HRR.out]
  exact D4.out.m.fin _ rfl _ _ _ _ rfl
 have q1 : (s == 2) = false := by simpa using hf
 obtain ⟨o, hA⟩ : ∃ o, atP (W.se i).pre key = o := ⟨_, rfl⟩
 have HA := Lib.hid hA
 have HF := Lib.hid (show did W i ⟨8, key, val⟩ = execO W i o by rw [exec_eq W i key val (by rw [XS.out]; exact hf), hA])
 clear hf hA
 go_upto_region 22 with fail
 clear a0 a1 a2 c0
 have c2 := (V1.out.keep (Below.refl _ _).drew).c2
 have a1 := (D1.out.keep (Below.refl _ _).drew).arg.cell_ 1 _ rfl
 refine region_segs [] (by kernel_rfl) ?_
 refine anyB_seg [0, 1, 2, 3, 4, 5] 6 rfl (by kernel_rfl) (by kernel_rfl) (by kernel_rfl) (fun _ _ d _ _ h => by cases d <;> exact h) ?_
 simp only [pickOps, List.getElem?_toArray, List.getElem?_cons_zero, List.getElem?_cons_succ]
 go_wp2_with fail
 refine ⟨rfl, by rfl, ?_⟩
 refine anyB_one (i := 6) (by kernel_rfl) rfl (fun K hK => ?_)
 go_simp
 have D2 := Lib.hid (D1.out.keep (Below.refl _ _).drew)
 have V2 := Lib.hid (V1.out.keep (Below.refl _ _).drew)
 clear c2 a1
 generalize World.drew _ = x2 at D2 V2 hK ⊢
 clear D1 V1
 refine (bvalue_any _ _ (W.se i).pre key V2.out.o2.pl (HG.out.se (by rw [HN.out]; exact hi)).preS).mono ?_
 rintro e x3 ⟨rfl, b3⟩
 rw [HA.out]
 refine hK.out _ _ (fun _ => b3) ?_
 clear hK K
 have D3 := Lib.hid (D2.out.keep b3)
 have V3 := Lib.hid (V2.out.keep b3)
 clear b3 D2 V2
 cases o with
 | none =>
  unfold valV
  refine anyB_seg [7, 8, 9, 10, 11] 0 rfl (by kernel_rfl) (by kernel_rfl) (by kernel_rfl) (fun _ _ d _ _ h => by cases d <;> exact h) ?_
  simp only [pickOps, List.getElem?_toArray, List.getElem?_cons_zero, List.getElem?_cons_succ]
  go_wp2_with fail
  refine ⟨rfl, by rfl, ?_⟩
  refine anyB_done (by kernel_rfl) ?_ _
  have HRR := HF
  go_wp2_with fail
  refine (failed_any _ _).mono ?_
  rintro e x4 ⟨rfl, b4⟩
  have D4 := Lib.hid (D3.out.keep b4)
  have z0 := D4.out.m.res.cell_ 0 _ rfl
  have z1 := D4.out.m.res.cell_ 1 _ rfl
  have z2 := D4.out.m.res.cell_ 2 _ rfl
  have fz := D4.out.m.res.frozen
  clear b4
  go_wp2_with fail
  have RB := (((D4.out.m.res).set_ 0 (.int .i64 4)).set_ 1 (.string ⟨#[110, 111, 116, 32, 112, 114, 101, 112, 97, 114, 101, 100]⟩)).set_ 2 (.int .i64 0)
  have t0 := RB.cell_ 0 _ rfl
  have t1 := RB.cell_ 1 _ rfl
  have t2 := RB.cell_ 2 _ rfl
  clear z0 z1 z2 fz
  refine bodyPost_ret (v := .agg #[.int .i64 4, .string ⟨#[110, 111, 116, 32, 112, 114, 101, 112, 97, 114, 101, 100]⟩, .int .i64 0]) (by simp [results, Tryz.results65, go_sem, t0, t1, t2]) rfl ?_
  rw [HRR.out]
  exact D4.out.m.fin _ rfl _ _ _ _ rfl
 | some t =>
  unfold valV
  refine anyB_seg [7, 8, 9, 10, 11] 0 rfl (by kernel_rfl) (by kernel_rfl) (by kernel_rfl) (fun _ _ d _ _ h => by cases d <;> exact h) ?_
  simp only [pickOps, List.getElem?_toArray, List.getElem?_cons_zero, List.getElem?_cons_succ]
  go_wp2_with fail
  refine ⟨rfl, by rfl, ?_⟩
  refine anyB_done (by kernel_rfl) ?_ _
  have hpo := (HG.out.se (show i < W.ses.length by rw [HN.out]; exact hi)).preOk HA.out
  have hts : t.size ≤ maxLen := (V3.out.o2.fits.2 _ (atP_mem' HA.out)).2
  have hys := readS_size t
  have HY := Lib.hid hys
  have HPO := Lib.hid hpo
  have HTS := Lib.hid hts
  have HRR := HF
  clear hpo hts hys
  go_wp2_with fail
  refine (read_any t HTS.out _ (HT.out.below D3.out.m.sv.bel)).mono ?_
  rintro e x4 ⟨rfl, b4⟩
  have D4 := Lib.hid (D3.out.keep b4)
  obtain ⟨y, hy⟩ : ∃ y, readS t = y := ⟨_, rfl⟩
  obtain ⟨z, hz⟩ : ∃ z, readE t = z := ⟨_, rfl⟩
  have XY := Lib.hid hy
  rw [hy] at HY HPO ⊢
  rw [hz]
  obtain ⟨yk, yy, yv⟩ := y
  unfold St.v
  clear b4 hy hz D3 V3
  go_wp2_with fail
  have D5 := Lib.hid (D4.out.keep (boxed _ (.cells #[.int .i64 yk, .string yy, .string yv] 41)))
  refine (do1_any w0 _ bv bw g cap i W ⟨yk, yy, yv⟩ D5.out.m.sv HG.out (Nat.le_trans HY.out.1 HTS.out) (Nat.le_trans HY.out.2 HTS.out) (by have h3 : yk = 6 ∨ yk = 7 ∨ yk = 10 := HPO.out.2; show 1 ≤ yk ∧ yk ≤ 11 ∧ yk ≠ 8; omega)).mono ?_
  rintro e x6 ⟨rfl, sv6, o6⟩
  have D6 := Lib.hid (D5.out.step sv6 o6)
  obtain ⟨A, hA⟩ : ∃ A, (did1 W i ⟨yk, yy, yv⟩).2 = A := ⟨_, rfl⟩
  rw [hA]
  have XA := Lib.hid hA
  unfold anV
  have z0 := D6.out.m.res.cell_ 0 _ rfl
  have z1 := D6.out.m.res.cell_ 1 _ rfl
  have z2 := D6.out.m.res.cell_ 2 _ rfl
  have fz := D6.out.m.res.frozen
  clear sv6 o6 hA
  go_wp2_with fail
  have RB := (((D6.out.m.res).set_ 0 (.int .i64 A.kind)).set_ 1 (.string A.text)).set_ 2 (.int .i64 A.st)
  have t0 := RB.cell_ 0 _ rfl
  have t1 := RB.cell_ 1 _ rfl
  have t2 := RB.cell_ 2 _ rfl
  clear z0 z1 z2 fz
  refine bodyPost_ret (v := .agg #[.int .i64 A.kind, .string A.text, .int .i64 A.st]) (by simp [results, Tryz.results65, go_sem, t0, t1, t2]) rfl ?_
  rw [HRR.out]
  show SvR w0 w bv bw g cap i (did1 W i (readS t)) _ _
  rw [XY.out]
  exact D6.out.m.fin (did1 W i ⟨yk, yy, yv⟩) rfl _ _ _ _ (by rw [XA.out]; rfl)
theorem do_any (w0 w : World) (bv bw g cap i : Nat) (W : Wo) (x : St) (hS : SvAt w0 w bv bw g cap i W) (hG : Good W) (hT : Tabs w0) (hk : x.key.size ≤ maxLen) (hv : x.val.size ≤ maxLen) (hx : 1 ≤ x.k ∧ x.k ≤ 11) :
  Calls Tryz.prog 65 #[.pointer (some ⟨bv, 0, none⟩), .agg #[.int .i64 x.k, .string x.key, .string x.val]] w (SvR w0 w bv bw g cap i (did W i x)) := by
 by_cases h8 : x.k = 8
 ·exact exec_any w0 w bv bw g cap i W x hS hG hT hk hv h8
 ·have e : did W i x = did1 W i x := by unfold did; rw [if_neg h8]
  rw [e]
  exact do1_any w0 w bv bw g cap i W x hS hG hk hv ⟨hx.1, hx.2, h8⟩
end Go.Proofs.YtjbnfigpflambacGreatDoor
/- back.Do: a statement in a session of a world; the world that came in stays as it is. -/
namespace Go.Proofs.YtjbnfigpflambacGreatDoor
open Go.ChangeShapes Go.WideShapes Go.ChangeAt Go.RowKit
theorem put_same (W : Wo) {i : Nat} (hi : i < W.ses.length) : W.put i (W.se i) = W := by
 obtain ⟨rows, ses⟩ := W
 unfold Wo.put Wo.se
 have hi : i < ses.length := hi
 show (⟨rows, ses.set i (ses.getD i Se.new)⟩ : Wo) = ⟨rows, ses⟩
 rw [getD_at hi, List.set_getElem_self]
structure DoAt (w wx : World) (q : Nat) (r s : Value) (x : St) : Prop where
 bel : Below w.heap.size w wx
 bx : Blk wx q 39 #[r, s]
 ax : Blk wx (q + 1) 41 #[.int .i64 x.k, .string x.key, .string x.val]
 rw_ : Blk wx (q + 2) 39 #[.slice none 0 0, .slice none 0 0]
 ra : Blk wx (q + 3) 46 #[.int .i64 0, .string ⟨#[]⟩, .int .i64 0]
theorem DoAt.keep {w wx wy : World} {q : Nat} {r s : Value} {x : St} (h : DoAt w wx q r s x) (hb : Below wx.heap.size wx wy) : DoAt w wy q r s x :=
 ⟨below_step h.bel (Nat.le_refl _) hb, h.bx.keep hb, h.ax.keep hb, h.rw_.keep hb, h.ra.keep hb⟩
theorem DoAt.start (w : World) (r s : Value) (x : St) : DoAt w ((((w.alloc (.cells #[r, s] 39)).alloc (.cells #[.int .i64 x.k, .string x.key, .string x.val] 41)).alloc (.cells #[.slice none 0 0, .slice none 0 0] 39)).alloc (.cells #[.int .i64 0, .string ⟨#[]⟩, .int .i64 0] 46)) w.heap.size r s x := by
 have e : ∀ (u : World) (o : Obj), (u.alloc o).heap.size = u.heap.size + 1 := fun u o => by simp
 have b1 := Blk.new (w.alloc (.cells #[r, s] 39)) 41 #[.int .i64 x.k, .string x.key, .string x.val]
 have b2 := Blk.new ((w.alloc (.cells #[r, s] 39)).alloc (.cells #[.int .i64 x.k, .string x.key, .string x.val] 41)) 39 #[.slice none 0 0, .slice none 0 0]
 have b3 := Blk.new (((w.alloc (.cells #[r, s] 39)).alloc (.cells #[.int .i64 x.k, .string x.key, .string x.val] 41)).alloc (.cells #[.slice none 0 0, .slice none 0 0] 39)) 46 #[.int .i64 0, .string ⟨#[]⟩, .int .i64 0]
 rw [e] at b1
 rw [e, e] at b2
 rw [e, e, e] at b3
 exact ⟨((boxed2 w _ _).alloc (by simp; omega) _).alloc (by simp; omega) _, (((Blk.new w _ _).alloc _).alloc _).alloc _, (b1.alloc _).alloc _, b2.alloc _, b3⟩
def DoP (w : World) (W : Wo) (i : Int) (x : St) (e : Ending) (w' : World) : Prop :=
 ∃ r' s' cs, e = .returned (.tuple #[.agg #[r', s'], anV (doR W i x).2, .int .i64 (doE W i x)]) ∧ OPL w' w.heap.size r' (doR W i x).1.rows ∧ OSL w' w.heap.size s' (doR W i x).1.ses cs ∧ Below w.heap.size w w'
theorem doR_bad {W : Wo} {i : Int} {x : St} (h : doE W i x ≠ 0) : doR W i x = (emptyW, An.no) := by unfold doR; rw [if_neg h]
theorem nilDo (w' : World) (B : Nat) : OPL w' B (.slice none 0 0) emptyW.rows ∧ OSL w' B (.slice none 0 0) emptyW.ses [] := ⟨OPL.nil_ _ _, World.ownsRow_nil _ _ _ _, rfl⟩
set_option maxHeartbeats 8000000 in
set_option maxRecDepth 100000 in
theorem do_bad (w : World) (r s : Value) (W : Wo) (i : Int) (x : St) (hT : Tabs w) (h : WL w w.heap.size r s W) (hi : (Lit.int .i64 i).wf = true) (hk : x.key.size ≤ maxLen) (hv : x.val.size ≤ maxLen) (hE : doE W i x ≠ 0) :
  Calls Tryz.prog 33 #[.agg #[r, s], .int .i64 i, .agg #[.int .i64 x.k, .string x.key, .string x.val]] w (DoP w W i x) := by
 obtain ⟨A, c, er⟩ := h.rows.form
 obtain ⟨A', c', es, _, hn', _⟩ := h.ses
 subst er es
 have D0 := Lib.hid (DoAt.start w (.slice A W.rows.length c) (.slice A' W.ses.length c') x)
 have HW := Lib.hid h
 have HT := Lib.hid hT
 have HKV := Lib.hid (And.intro hk hv)
 have HI := wf_i64 hi
 obtain ⟨n, hN⟩ : ∃ n, W.ses.length = n := ⟨_, rfl⟩
 rw [hN] at D0 HW hn' ⊢
 have HN := Lib.hid hN
 obtain ⟨K, key, val⟩ := x
 obtain ⟨q, hq⟩ : ∃ q, w.heap.size = q := ⟨_, rfl⟩
 rw [hq] at D0
 have HQ := Lib.hid hq
 have hR := Lib.hid (doR_bad hE)
 have HE := Lib.hid hE
 clear hT hk hv hE h hN hi
 by_cases hg : goodW W = true
 ·have HC := Lib.hid (show chkE W = 0 by unfold chkE; rw [if_pos hg])
  by_cases hin : 0 ≤ i ∧ i < n
  ·have hd : doE W i ⟨K, key, val⟩ = checkE ⟨K, key, val⟩ := by unfold doE; rw [if_pos hg, if_pos (by rw [HN.out]; exact hin)]
   have hne : checkE ⟨K, key, val⟩ ≠ 0 := by rw [← hd]; exact HE.out
   have HD := Lib.hid hd
   obtain ⟨Z, hZ⟩ : ∃ Z, checkE ⟨K, key, val⟩ = Z := ⟨_, rfl⟩
   rw [hZ] at HD hne
   have XZ := Lib.hid hZ
   have g1 := hin.1
   have g2 := hin.2
   have g3 : (Z != 0) = true := by simpa using hne
   clear hg hin hd hne hZ
   go_enter Tryz.func33, Tryz.ntmps33
   go_wp2_with fail
   generalize (((w.alloc (.cells #[.slice A W.rows.length c, .slice A' n c'] 39 (0, 0))).alloc (.cells #[.int .i64 K, .string key, .string val] 41 (0, 0))).alloc (.cells #[.slice none 0 0, .slice none 0 0] 39 (0, 0))).alloc (.cells #[.int .i64 0, .string ⟨#[]⟩, .int .i64 0] 46 (0, 0)) = x0 at D0 ⊢
   refine (check_world _ _ _ W (HT.out.below D0.out.bel) ((HW.out.below D0.out.bel).more D0.out.bel.size)).mono ?_
   rintro e x1 ⟨rfl, b1⟩
   have D1 := Lib.hid (D0.out.keep b1)
   clear b1 D0 hq
   rw [HC.out]
   have y1 := D1.out.bx.cell_ 1 _ rfl
   have a0 := D1.out.ax.cell_ 0 _ rfl
   have a1 := D1.out.ax.cell_ 1 _ rfl
   have a2 := D1.out.ax.cell_ 2 _ rfl
   go_wp2_with fail
   refine (check_all ⟨K, key, val⟩ _ (HT.out.below D1.out.bel) HKV.out.1 HKV.out.2).mono ?_
   rintro e x2 ⟨rfl, b2⟩
   have D2 := Lib.hid (D1.out.keep b2)
   rw [XZ.out]
   clear b2 y1 a0 a1 a2 D1
   have f0 := D2.out.rw_.cell_ 0 _ rfl
   have f1 := D2.out.rw_.cell_ 1 _ rfl
   have f2 := D2.out.ra.cell_ 0 _ rfl
   have f3 := D2.out.ra.cell_ 1 _ rfl
   have f4 := D2.out.ra.cell_ 2 _ rfl
   have fw := D2.out.rw_.frozen
   have fa := D2.out.ra.frozen
   go_wp2_with fail
   have RW := (((D2.out.rw_.set_ 0 (.slice none 0 0)).set_ 1 (.slice none 0 0)))
   have RW2 := ((RW.far (p := ⟨q + 3, 0, none⟩) (show q + 2 ≠ q + 3 by omega) (.int .i64 0)).far (p := ⟨q + 3, 1, none⟩) (show q + 2 ≠ q + 3 by omega) (.string ⟨#[]⟩)).far (p := ⟨q + 3, 2, none⟩) (show q + 2 ≠ q + 3 by omega) (.int .i64 0)
   have RA := (((D2.out.ra.far (p := ⟨q + 2, 0, none⟩) (show q + 3 ≠ q + 2 by omega) (.slice none 0 0)).far (p := ⟨q + 2, 1, none⟩) (show q + 3 ≠ q + 2 by omega) (.slice none 0 0)).set_ 0 (.int .i64 0)).set_ 1 (.string ⟨#[]⟩) |>.set_ 2 (.int .i64 0)
   have t0 := RW2.cell_ 0 _ rfl
   have t1 := RW2.cell_ 1 _ rfl
   have t2 := RA.cell_ 0 _ rfl
   have t3 := RA.cell_ 1 _ rfl
   have t4 := RA.cell_ 2 _ rfl
   clear f0 f1 f2 f3 f4 fw fa
   refine bodyPost_ret (v := .tuple #[.agg #[.slice none 0 0, .slice none 0 0], .agg #[.int .i64 0, .string ⟨#[]⟩, .int .i64 0], .int .i64 (Z)]) (by simp [results, Tryz.results33, go_sem, t0, t1, t2, t3, t4]) rfl ?_
   refine ⟨.slice none 0 0, .slice none 0 0, [], ?_, ?_, ?_, ?_⟩
   ·rw [hR.out, HD.out]; rfl
   ·rw [hR.out]; exact (nilDo _ _).1
   ·rw [hR.out]; exact (nilDo _ _).2
   ·rw [HQ.out]
    have hb := D2.out.bel
    rw [HQ.out] at hb
    exact ((((hb.setCell (p := ⟨q + 2, 0, none⟩) (Nat.le_add_right _ _) _).setCell (p := ⟨q + 2, 1, none⟩) (Nat.le_add_right _ _) _).setCell (p := ⟨q + 3, 0, none⟩) (Nat.le_add_right _ _) _).setCell (p := ⟨q + 3, 1, none⟩) (Nat.le_add_right _ _) _).setCell (p := ⟨q + 3, 2, none⟩) (Nat.le_add_right _ _) _
  ·have HD := Lib.hid (show doE W i ⟨K, key, val⟩ = 6 by unfold doE; rw [if_pos hg, if_neg (by rw [HN.out]; exact hin)])
   by_cases hneg : i < 0
   ·clear hg hin
    go_enter Tryz.func33, Tryz.ntmps33
    go_wp2_with fail
    generalize (((w.alloc (.cells #[.slice A W.rows.length c, .slice A' n c'] 39 (0, 0))).alloc (.cells #[.int .i64 K, .string key, .string val] 41 (0, 0))).alloc (.cells #[.slice none 0 0, .slice none 0 0] 39 (0, 0))).alloc (.cells #[.int .i64 0, .string ⟨#[]⟩, .int .i64 0] 46 (0, 0)) = x0 at D0 ⊢
    refine (check_world _ _ _ W (HT.out.below D0.out.bel) ((HW.out.below D0.out.bel).more D0.out.bel.size)).mono ?_
    rintro e x1 ⟨rfl, b1⟩
    have D1 := Lib.hid (D0.out.keep b1)
    clear b1 D0 hq
    rw [HC.out]
    have y1 := D1.out.bx.cell_ 1 _ rfl
    have f0 := D1.out.rw_.cell_ 0 _ rfl
    have f1 := D1.out.rw_.cell_ 1 _ rfl
    have f2 := D1.out.ra.cell_ 0 _ rfl
    have f3 := D1.out.ra.cell_ 1 _ rfl
    have f4 := D1.out.ra.cell_ 2 _ rfl
    have fw := D1.out.rw_.frozen
    have fa := D1.out.ra.frozen
    go_wp2_with fail
    have RW := (((D1.out.rw_.set_ 0 (.slice none 0 0)).set_ 1 (.slice none 0 0)))
    have RW2 := ((RW.far (p := ⟨q + 3, 0, none⟩) (show q + 2 ≠ q + 3 by omega) (.int .i64 0)).far (p := ⟨q + 3, 1, none⟩) (show q + 2 ≠ q + 3 by omega) (.string ⟨#[]⟩)).far (p := ⟨q + 3, 2, none⟩) (show q + 2 ≠ q + 3 by omega) (.int .i64 0)
    have RA := (((D1.out.ra.far (p := ⟨q + 2, 0, none⟩) (show q + 3 ≠ q + 2 by omega) (.slice none 0 0)).far (p := ⟨q + 2, 1, none⟩) (show q + 3 ≠ q + 2 by omega) (.slice none 0 0)).set_ 0 (.int .i64 0)).set_ 1 (.string ⟨#[]⟩) |>.set_ 2 (.int .i64 0)
    have t0 := RW2.cell_ 0 _ rfl
    have t1 := RW2.cell_ 1 _ rfl
    have t2 := RA.cell_ 0 _ rfl
    have t3 := RA.cell_ 1 _ rfl
    have t4 := RA.cell_ 2 _ rfl
    clear f0 f1 f2 f3 f4 fw fa
    refine bodyPost_ret (v := .tuple #[.agg #[.slice none 0 0, .slice none 0 0], .agg #[.int .i64 0, .string ⟨#[]⟩, .int .i64 0], .int .i64 (6)]) (by simp [results, Tryz.results33, go_sem, t0, t1, t2, t3, t4]) rfl ?_
    refine ⟨.slice none 0 0, .slice none 0 0, [], ?_, ?_, ?_, ?_⟩
    ·rw [hR.out, HD.out]; rfl
    ·rw [hR.out]; exact (nilDo _ _).1
    ·rw [hR.out]; exact (nilDo _ _).2
    ·rw [HQ.out]
     have hb := D1.out.bel
     rw [HQ.out] at hb
     exact ((((hb.setCell (p := ⟨q + 2, 0, none⟩) (Nat.le_add_right _ _) _).setCell (p := ⟨q + 2, 1, none⟩) (Nat.le_add_right _ _) _).setCell (p := ⟨q + 3, 0, none⟩) (Nat.le_add_right _ _) _).setCell (p := ⟨q + 3, 1, none⟩) (Nat.le_add_right _ _) _).setCell (p := ⟨q + 3, 2, none⟩) (Nat.le_add_right _ _) _
   ·have g1 : 0 ≤ i := by omega
    have g2 : (n : Int) ≤ i := by omega
    clear hg hin hneg
    go_enter Tryz.func33, Tryz.ntmps33
    go_wp2_with fail
    generalize (((w.alloc (.cells #[.slice A W.rows.length c, .slice A' n c'] 39 (0, 0))).alloc (.cells #[.int .i64 K, .string key, .string val] 41 (0, 0))).alloc (.cells #[.slice none 0 0, .slice none 0 0] 39 (0, 0))).alloc (.cells #[.int .i64 0, .string ⟨#[]⟩, .int .i64 0] 46 (0, 0)) = x0 at D0 ⊢
    refine (check_world _ _ _ W (HT.out.below D0.out.bel) ((HW.out.below D0.out.bel).more D0.out.bel.size)).mono ?_
    rintro e x1 ⟨rfl, b1⟩
    have D1 := Lib.hid (D0.out.keep b1)
    clear b1 D0 hq
    rw [HC.out]
    have y1 := D1.out.bx.cell_ 1 _ rfl
    have f0 := D1.out.rw_.cell_ 0 _ rfl
    have f1 := D1.out.rw_.cell_ 1 _ rfl
    have f2 := D1.out.ra.cell_ 0 _ rfl
    have f3 := D1.out.ra.cell_ 1 _ rfl
    have f4 := D1.out.ra.cell_ 2 _ rfl
    have fw := D1.out.rw_.frozen
    have fa := D1.out.ra.frozen
    go_wp2_with fail
    have RW := (((D1.out.rw_.set_ 0 (.slice none 0 0)).set_ 1 (.slice none 0 0)))
    have RW2 := ((RW.far (p := ⟨q + 3, 0, none⟩) (show q + 2 ≠ q + 3 by omega) (.int .i64 0)).far (p := ⟨q + 3, 1, none⟩) (show q + 2 ≠ q + 3 by omega) (.string ⟨#[]⟩)).far (p := ⟨q + 3, 2, none⟩) (show q + 2 ≠ q + 3 by omega) (.int .i64 0)
    have RA := (((D1.out.ra.far (p := ⟨q + 2, 0, none⟩) (show q + 3 ≠ q + 2 by omega) (.slice none 0 0)).far (p := ⟨q + 2, 1, none⟩) (show q + 3 ≠ q + 2 by omega) (.slice none 0 0)).set_ 0 (.int .i64 0)).set_ 1 (.string ⟨#[]⟩) |>.set_ 2 (.int .i64 0)
    have t0 := RW2.cell_ 0 _ rfl
    have t1 := RW2.cell_ 1 _ rfl
    have t2 := RA.cell_ 0 _ rfl
    have t3 := RA.cell_ 1 _ rfl
    have t4 := RA.cell_ 2 _ rfl
    clear f0 f1 f2 f3 f4 fw fa
    refine bodyPost_ret (v := .tuple #[.agg #[.slice none 0 0, .slice none 0 0], .agg #[.int .i64 0, .string ⟨#[]⟩, .int .i64 0], .int .i64 (6)]) (by simp [results, Tryz.results33, go_sem, t0, t1, t2, t3, t4]) rfl ?_
    refine ⟨.slice none 0 0, .slice none 0 0, [], ?_, ?_, ?_, ?_⟩
    ·rw [hR.out, HD.out]; rfl
    ·rw [hR.out]; exact (nilDo _ _).1
    ·rw [hR.out]; exact (nilDo _ _).2
    ·rw [HQ.out]
     have hb := D1.out.bel
     rw [HQ.out] at hb
     exact ((((hb.setCell (p := ⟨q + 2, 0, none⟩) (Nat.le_add_right _ _) _).setCell (p := ⟨q + 2, 1, none⟩) (Nat.le_add_right _ _) _).setCell (p := ⟨q + 3, 0, none⟩) (Nat.le_add_right _ _) _).setCell (p := ⟨q + 3, 1, none⟩) (Nat.le_add_right _ _) _).setCell (p := ⟨q + 3, 2, none⟩) (Nat.le_add_right _ _) _
 ·have HC := Lib.hid (show chkE W = 5 by unfold chkE; rw [if_neg hg])
  have HD := Lib.hid (show doE W i ⟨K, key, val⟩ = 5 by unfold doE; rw [if_neg hg])
  clear hg
  go_enter Tryz.func33, Tryz.ntmps33
  go_wp2_with fail
  generalize (((w.alloc (.cells #[.slice A W.rows.length c, .slice A' n c'] 39 (0, 0))).alloc (.cells #[.int .i64 K, .string key, .string val] 41 (0, 0))).alloc (.cells #[.slice none 0 0, .slice none 0 0] 39 (0, 0))).alloc (.cells #[.int .i64 0, .string ⟨#[]⟩, .int .i64 0] 46 (0, 0)) = x0 at D0 ⊢
  refine (check_world _ _ _ W (HT.out.below D0.out.bel) ((HW.out.below D0.out.bel).more D0.out.bel.size)).mono ?_
  rintro e x1 ⟨rfl, b1⟩
  have D1 := Lib.hid (D0.out.keep b1)
  clear b1 D0 hq
  rw [HC.out]
  have f0 := D1.out.rw_.cell_ 0 _ rfl
  have f1 := D1.out.rw_.cell_ 1 _ rfl
  have f2 := D1.out.ra.cell_ 0 _ rfl
  have f3 := D1.out.ra.cell_ 1 _ rfl
  have f4 := D1.out.ra.cell_ 2 _ rfl
  have fw := D1.out.rw_.frozen
  have fa := D1.out.ra.frozen
  go_wp2_with fail
  have RW := (((D1.out.rw_.set_ 0 (.slice none 0 0)).set_ 1 (.slice none 0 0)))
  have RW2 := ((RW.far (p := ⟨q + 3, 0, none⟩) (show q + 2 ≠ q + 3 by omega) (.int .i64 0)).far (p := ⟨q + 3, 1, none⟩) (show q + 2 ≠ q + 3 by omega) (.string ⟨#[]⟩)).far (p := ⟨q + 3, 2, none⟩) (show q + 2 ≠ q + 3 by omega) (.int .i64 0)
  have RA := (((D1.out.ra.far (p := ⟨q + 2, 0, none⟩) (show q + 3 ≠ q + 2 by omega) (.slice none 0 0)).far (p := ⟨q + 2, 1, none⟩) (show q + 3 ≠ q + 2 by omega) (.slice none 0 0)).set_ 0 (.int .i64 0)).set_ 1 (.string ⟨#[]⟩) |>.set_ 2 (.int .i64 0)
  have t0 := RW2.cell_ 0 _ rfl
  have t1 := RW2.cell_ 1 _ rfl
  have t2 := RA.cell_ 0 _ rfl
  have t3 := RA.cell_ 1 _ rfl
  have t4 := RA.cell_ 2 _ rfl
  clear f0 f1 f2 f3 f4 fw fa
  refine bodyPost_ret (v := .tuple #[.agg #[.slice none 0 0, .slice none 0 0], .agg #[.int .i64 0, .string ⟨#[]⟩, .int .i64 0], .int .i64 (5)]) (by simp [results, Tryz.results33, go_sem, t0, t1, t2, t3, t4]) rfl ?_
  refine ⟨.slice none 0 0, .slice none 0 0, [], ?_, ?_, ?_, ?_⟩
  ·rw [hR.out, HD.out]; rfl
  ·rw [hR.out]; exact (nilDo _ _).1
  ·rw [hR.out]; exact (nilDo _ _).2
  ·rw [HQ.out]
   have hb := D1.out.bel
   rw [HQ.out] at hb
   exact ((((hb.setCell (p := ⟨q + 2, 0, none⟩) (Nat.le_add_right _ _) _).setCell (p := ⟨q + 2, 1, none⟩) (Nat.le_add_right _ _) _).setCell (p := ⟨q + 3, 0, none⟩) (Nat.le_add_right _ _) _).setCell (p := ⟨q + 3, 1, none⟩) (Nat.le_add_right _ _) _).setCell (p := ⟨q + 3, 2, none⟩) (Nat.le_add_right _ _) _
end Go.Proofs.YtjbnfigpflambacGreatDoor
