/- (server).do: any statement. -/
import Derived.Test.YtjbnfigpflambabDoorDo1
namespace Go.Proofs.YtjbnfigpflambabDoor
open Go.ChangeShapes Go.WideShapes Go.ChangeAt Go.RowKit

theorem readS_size (t : ByteArray) : (readS t).key.size ≤ t.size ∧ (readS t).val.size ≤ t.size := by
  unfold readS
  split
  · exact ⟨part_size t 1, part_size t 2⟩
  · exact ⟨Nat.zero_le _, Nat.zero_le _⟩
/-- what Exec does, the session not failed -/
def execO (W : Wo) (i : Nat) : Option ByteArray → Wo × An
  | none => (W, noA tNotPrep)
  | some t => did1 W i (readS t)
theorem exec_eq (W : Wo) (i : Nat) (key val : ByteArray) (h : (W.se i).st ≠ 2) : did W i ⟨8, key, val⟩ = execO W i (atP (W.se i).pre key) := by
  unfold did
  rw [if_pos rfl]
  unfold execW
  rw [if_neg h]
  show (match atP (W.se i).pre key with | none => _ | some t => _) = _
  cases atP (W.se i).pre key <;> rfl
set_option maxHeartbeats 16000000 in
set_option maxRecDepth 100000 in
theorem exec_any (w0 w : World) (bv bw g cap i : Nat) (W : Wo) (x : St) (hS : SvAt w0 w bv bw g cap i W) (hG : Good W) (hT : Tabs w0) (hk : x.key.size ≤ maxLen) (hv : x.val.size ≤ maxLen) (h8 : x.k = 8) :
    Calls Tryd.prog 51 #[.pointer (some ⟨bv, 0, none⟩), .agg #[.int .i64 x.k, .string x.key, .string x.val]] w (SvR w0 w bv bw g cap i (did W i x)) := by
  have HT := Lib.hid hT
  clear hT
  have HG := Lib.hid hG
  have hfew := hG.few
  have hi := hS.hi
  have HKV := Lib.hid (And.intro hk hv)
  have D0 := Lib.hid (Dth.start (x := x) hS)
  obtain ⟨Ar, cr, A1, k1, A2, k2, A3, k3, A4, k4, V⟩ := hS.view
  have V0 := Lib.hid (V.keep (boxed2 w (.cells #[.int .i64 x.k, .string x.key, .string x.val] 23) (.cells #[.int .i64 0, .string ⟨#[]⟩, .int .i64 0] 48)))
  obtain ⟨n, hn⟩ : ∃ n, W.ses.length = n := ⟨_, rfl⟩
  rw [hn] at V0 hi hfew
  have HN := Lib.hid hn
  obtain ⟨K, key, val⟩ := x
  obtain rfl : K = 8 := h8
  obtain ⟨q, hq⟩ : ∃ q, w.heap.size = q := ⟨_, rfl⟩
  rw [hq] at D0
  have g1 : (i : Int) < (n : Int) := by omega
  have g2 : (0 : Int) ≤ (i : Int) := by omega
  clear hG hS V hn hk hv
  go_enter Tryd.func51, Tryd.ntmps51
  go_wp2_with fail
  generalize (w.alloc (.cells #[.int .i64 8, .string key, .string val] 23 (0, 0))).alloc (.cells #[.int .i64 0, .string ⟨#[]⟩, .int .i64 0] 48 (0, 0)) = x0 at D0 V0 ⊢
  have s0 := (V0.out.keep (Below.refl _ _).drew).s0
  have s1 := (V0.out.keep (Below.refl _ _).drew).s1
  have b1 := (V0.out.keep (Below.refl _ _).drew).b1
  refine region_segs [] (by kernel_rfl) ?_
  refine anyB_seg [0, 1, 2, 3, 4, 5, 6, 7, 8, 9, 10, 11, 12] 0 rfl (by kernel_rfl) (by kernel_rfl) (by kernel_rfl) (fun _ _ d _ _ h => by cases d <;> exact h) ?_
  simp only [pickOps, List.getElem?_toArray, List.getElem?_cons_zero, List.getElem?_cons_succ]
  go_wp2_with fail
  refine ⟨rfl, by rfl, ?_⟩
  refine anyB_done (by kernel_rfl) ?_ _
  have D1 := Lib.hid (D0.out.keep (Below.refl _ _).drew)
  have V1 := Lib.hid (V0.out.keep (Below.refl _ _).drew)
  clear s0 s1 b1 hq
  generalize x0.drew = x1 at D1 V1 ⊢
  clear D0 V0
  have c0 := V1.out.c0
  have a0 := D1.out.arg.cell_ 0 _ rfl
  have a1 := D1.out.arg.cell_ 1 _ rfl
  have a2 := D1.out.arg.cell_ 2 _ rfl
  obtain ⟨s, hs⟩ : ∃ s, (W.se i).st = s := ⟨_, rfl⟩
  rw [hs] at c0
  have XS := Lib.hid hs
  clear hs
  by_cases hf : s = 2
  · have q1 : (s == 2) = true := by simpa using hf
    have HRR := Lib.hid (show did W i ⟨8, key, val⟩ = (W, noA tFailed) by unfold did; rw [if_pos rfl]; unfold execW; rw [if_pos (by rw [XS.out]; exact hf)])
    clear hf
    go_wp2_with fail
    refine (failed_any _ _).mono ?_
    rintro e x4 ⟨rfl, b4⟩
    have D4 := Lib.hid (D1.out.keep b4)
    have z0 := D4.out.m.res.cell_ 0 _ rfl
    have z1 := D4.out.m.res.cell_ 1 _ rfl
    have z2 := D4.out.m.res.cell_ 2 _ rfl
    have fz := D4.out.m.res.frozen
    clear b4 c0
    go_wp2_with fail
    have RB := (((D4.out.m.res).set_ 0 (.int .i64 4)).set_ 1 (.string ⟨#[102, 97, 105, 108, 101, 100, 32, 97, 108, 114, 101, 97, 100, 121]⟩)).set_ 2 (.int .i64 0)
    have t0 := RB.cell_ 0 _ rfl
    have t1 := RB.cell_ 1 _ rfl
    have t2 := RB.cell_ 2 _ rfl
    clear z0 z1 z2 fz
    clear a0 a1 a2
    refine bodyPost_ret (v := .agg #[.int .i64 4, .string ⟨#[102, 97, 105, 108, 101, 100, 32, 97, 108, 114, 101, 97, 100, 121]⟩, .int .i64 0]) (by simp [results, Tryd.results51, go_sem, t0, t1, t2]) rfl ?_
    rw [HRR.out]
    exact D4.out.m.fin _ rfl _ _ _ _ rfl
  have q1 : (s == 2) = false := by simpa using hf
  obtain ⟨o, hA⟩ : ∃ o, atP (W.se i).pre key = o := ⟨_, rfl⟩
  have HA := Lib.hid hA
  have HF := Lib.hid (show did W i ⟨8, key, val⟩ = execO W i o by rw [exec_eq W i key val (by rw [XS.out]; exact hf), hA])
  clear hf hA
  go_upto_region 22 with fail
  clear a0 a1 a2 c0
  have c2 := (V1.out.keep (Below.refl _ _).drew).c2
  have a1 := (D1.out.keep (Below.refl _ _).drew).arg.cell_ 1 _ rfl
  refine region_segs [] (by kernel_rfl) ?_
  refine anyB_seg [0, 1, 2, 3, 4, 5] 6 rfl (by kernel_rfl) (by kernel_rfl) (by kernel_rfl) (fun _ _ d _ _ h => by cases d <;> exact h) ?_
  simp only [pickOps, List.getElem?_toArray, List.getElem?_cons_zero, List.getElem?_cons_succ]
  go_wp2_with fail
  refine ⟨rfl, by rfl, ?_⟩
  refine anyB_one (i := 6) (by kernel_rfl) rfl (fun K hK => ?_)
  go_simp
  have D2 := Lib.hid (D1.out.keep (Below.refl _ _).drew)
  have V2 := Lib.hid (V1.out.keep (Below.refl _ _).drew)
  clear c2 a1
  generalize World.drew _ = x2 at D2 V2 hK ⊢
  clear D1 V1
  refine (bvalue_any _ _ (W.se i).pre key V2.out.o2.pl (HG.out.se (by rw [HN.out]; exact hi)).preS).mono ?_
  rintro e x3 ⟨rfl, b3⟩
  rw [HA.out]
  refine hK.out _ _ (fun _ => b3) ?_
  clear hK K
  have D3 := Lib.hid (D2.out.keep b3)
  have V3 := Lib.hid (V2.out.keep b3)
  clear b3 D2 V2
  cases o with
  | none =>
    unfold valV
    refine anyB_seg [7, 8, 9, 10, 11] 0 rfl (by kernel_rfl) (by kernel_rfl) (by kernel_rfl) (fun _ _ d _ _ h => by cases d <;> exact h) ?_
    simp only [pickOps, List.getElem?_toArray, List.getElem?_cons_zero, List.getElem?_cons_succ]
    go_wp2_with fail
    refine ⟨rfl, by rfl, ?_⟩
    refine anyB_done (by kernel_rfl) ?_ _
    have HRR := HF
    go_wp2_with fail
    refine (failed_any _ _).mono ?_
    rintro e x4 ⟨rfl, b4⟩
    have D4 := Lib.hid (D3.out.keep b4)
    have z0 := D4.out.m.res.cell_ 0 _ rfl
    have z1 := D4.out.m.res.cell_ 1 _ rfl
    have z2 := D4.out.m.res.cell_ 2 _ rfl
    have fz := D4.out.m.res.frozen
    clear b4
    go_wp2_with fail
    have RB := (((D4.out.m.res).set_ 0 (.int .i64 4)).set_ 1 (.string ⟨#[110, 111, 116, 32, 112, 114, 101, 112, 97, 114, 101, 100]⟩)).set_ 2 (.int .i64 0)
    have t0 := RB.cell_ 0 _ rfl
    have t1 := RB.cell_ 1 _ rfl
    have t2 := RB.cell_ 2 _ rfl
    clear z0 z1 z2 fz
    refine bodyPost_ret (v := .agg #[.int .i64 4, .string ⟨#[110, 111, 116, 32, 112, 114, 101, 112, 97, 114, 101, 100]⟩, .int .i64 0]) (by simp [results, Tryd.results51, go_sem, t0, t1, t2]) rfl ?_
    rw [HRR.out]
    exact D4.out.m.fin _ rfl _ _ _ _ rfl
  | some t =>
    unfold valV
    refine anyB_seg [7, 8, 9, 10, 11] 0 rfl (by kernel_rfl) (by kernel_rfl) (by kernel_rfl) (fun _ _ d _ _ h => by cases d <;> exact h) ?_
    simp only [pickOps, List.getElem?_toArray, List.getElem?_cons_zero, List.getElem?_cons_succ]
    go_wp2_with fail
    refine ⟨rfl, by rfl, ?_⟩
    refine anyB_done (by kernel_rfl) ?_ _
    have hpo := (HG.out.se (show i < W.ses.length by rw [HN.out]; exact hi)).preOk HA.out
    have hts : t.size ≤ maxLen := (V3.out.o2.fits.2 _ (atP_mem' HA.out)).2
    have hys := readS_size t
    have HY := Lib.hid hys
    have HPO := Lib.hid hpo
    have HTS := Lib.hid hts
    have HRR := HF
    clear hpo hts hys
    go_wp2_with fail
    refine (read_any t HTS.out _ (HT.out.below D3.out.m.sv.bel)).mono ?_
    rintro e x4 ⟨rfl, b4⟩
    have D4 := Lib.hid (D3.out.keep b4)
    obtain ⟨y, hy⟩ : ∃ y, readS t = y := ⟨_, rfl⟩
    obtain ⟨z, hz⟩ : ∃ z, readE t = z := ⟨_, rfl⟩
    have XY := Lib.hid hy
    rw [hy] at HY HPO ⊢
    rw [hz]
    obtain ⟨yk, yy, yv⟩ := y
    unfold St.v
    clear b4 hy hz D3 V3
    go_wp2_with fail
    have D5 := Lib.hid (D4.out.keep (boxed _ (.cells #[.int .i64 yk, .string yy, .string yv] 23)))
    refine (do1_any w0 _ bv bw g cap i W ⟨yk, yy, yv⟩ D5.out.m.sv HG.out (Nat.le_trans HY.out.1 HTS.out) (Nat.le_trans HY.out.2 HTS.out) (by have h3 : yk = 6 ∨ yk = 7 ∨ yk = 10 := HPO.out.2; show 1 ≤ yk ∧ yk ≤ 11 ∧ yk ≠ 8; omega)).mono ?_
    rintro e x6 ⟨rfl, sv6, o6⟩
    have D6 := Lib.hid (D5.out.step sv6 o6)
    obtain ⟨A, hA⟩ : ∃ A, (did1 W i ⟨yk, yy, yv⟩).2 = A := ⟨_, rfl⟩
    rw [hA]
    have XA := Lib.hid hA
    unfold anV
    have z0 := D6.out.m.res.cell_ 0 _ rfl
    have z1 := D6.out.m.res.cell_ 1 _ rfl
    have z2 := D6.out.m.res.cell_ 2 _ rfl
    have fz := D6.out.m.res.frozen
    clear sv6 o6 hA
    go_wp2_with fail
    have RB := (((D6.out.m.res).set_ 0 (.int .i64 A.kind)).set_ 1 (.string A.text)).set_ 2 (.int .i64 A.st)
    have t0 := RB.cell_ 0 _ rfl
    have t1 := RB.cell_ 1 _ rfl
    have t2 := RB.cell_ 2 _ rfl
    clear z0 z1 z2 fz
    refine bodyPost_ret (v := .agg #[.int .i64 A.kind, .string A.text, .int .i64 A.st]) (by simp [results, Tryd.results51, go_sem, t0, t1, t2]) rfl ?_
    rw [HRR.out]
    show SvR w0 w bv bw g cap i (did1 W i (readS t)) _ _
    rw [XY.out]
    exact D6.out.m.fin (did1 W i ⟨yk, yy, yv⟩) rfl _ _ _ _ (by rw [XA.out]; rfl)
theorem do_any (w0 w : World) (bv bw g cap i : Nat) (W : Wo) (x : St) (hS : SvAt w0 w bv bw g cap i W) (hG : Good W) (hT : Tabs w0) (hk : x.key.size ≤ maxLen) (hv : x.val.size ≤ maxLen) (hx : 1 ≤ x.k ∧ x.k ≤ 11) :
    Calls Tryd.prog 51 #[.pointer (some ⟨bv, 0, none⟩), .agg #[.int .i64 x.k, .string x.key, .string x.val]] w (SvR w0 w bv bw g cap i (did W i x)) := by
  by_cases h8 : x.k = 8
  · exact exec_any w0 w bv bw g cap i W x hS hG hT hk hv h8
  · have e : did W i x = did1 W i x := by unfold did; rw [if_neg h8]
    rw [e]
    exact do1_any w0 w bv bw g cap i W x hS hG hk hv ⟨hx.1, hx.2, h8⟩
end Go.Proofs.YtjbnfigpflambabDoor
