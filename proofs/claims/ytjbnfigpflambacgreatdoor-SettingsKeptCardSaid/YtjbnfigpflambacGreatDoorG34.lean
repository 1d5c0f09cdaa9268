/- pool.Run, its input good: its walk. -/
import Derived.Test.YtjbnfigpflambacGreatDoorG27
import Derived.Test.YtjbnfigpflambacGreatDoorG29
import Derived.Test.YtjbnfigpflambacGreatDoorG32
import Derived.Test.YtjbnfigpflambacGreatDoorG33
/- pool.Run, its input good: its walk. -/
namespace Go.Proofs.YtjbnfigpflambacGreatDoor
open Go.ChangeShapes Go.WideShapes Go.ChangeAt Go.RowKit
structure Outc where
 sent : List ByteArray
 deeds : List De
 rows : List Pr
noncomputable def outM (mode : Int) (n : Nat) (l : List Ac) : Outc :=
 ⟨(List.range 6).map fun c => ((runM poolB (startF mode n, startP n) l).1.c c).sent, (runM poolB (startF mode n, startP n) l).1.deeds, (runM poolB (startF mode n, startP n) l).2.w.rows⟩
structure OutR (w : World) (B : Nat) (vs vd vr : Value) (o : Outc) : Prop where
 sent : OwnO w B 9 1 vs o.sent.length (o.sent.map .string)
 deeds : OwnO w B 71 7 vd o.deeds.length (deV o.deeds)
 rows : OPL w B vr o.rows
theorem ac_at {w : World} {B : Nat} {A : Option Addr} {cap L : Nat} {l : List Ac} (h : AcL w B (.slice A L cap) l) (hL : l.length = L) {i : Nat} (hi : i < L) : ∃ ad : Addr, A = some ad ∧ ad.block < B ∧ AcAt w (ad.add (i * 3)) (l.getD i ⟨0, 0, ⟨#[]⟩⟩) := by
 obtain ⟨A', c', e, h3⟩ := h
 injection e with e1 e2 e3
 subst e1
 obtain ⟨ad, h1, h2, h3⟩ := h3 (by omega)
 refine ⟨ad, h1, h2, ?_⟩
 rw [List.getD_eq_getElem?_getD, List.getElem?_eq_getElem (by omega)]
 exact h3 i (by omega)
structure RunS (wr wx : World) (n : Nat) (x o k : Option Nat) : Prop where
 hb : Below wr.heap.size wr wx
 bx : ∀ y, x = some y → wx.cell? ⟨y, 0, none⟩ = some (.int .i64 (-1))
 bo : ∀ y, o = some y → wr.heap.size ≤ y ∧ ∃ cs : Array Value, Blk wx y 3 cs ∧ cs.size = n ∧ ∀ j, j < n → cs[j]? = some (.int .i64 (-1))
 bk : ∀ y, k = some y → wr.heap.size ≤ y ∧ Blk wx y 92 ((List.replicate n kv0).flatMap KV.cells).toArray
section
variable {wr wx wy : World} {n : Nat} {x o k : Option Nat}
theorem RunS.start (wr : World) (n : Nat) : RunS wr wr n none none none := ⟨Below.refl _ _, fun _ h => (by cases h), fun _ h => (by cases h), fun _ h => (by cases h)⟩
theorem RunS.keep (h : RunS wr wx n x o k) (hb : Below wx.heap.size wx wy) : RunS wr wy n x o k :=
 ⟨below_step h.hb (Nat.le_refl _) hb, fun y e => keep_cell hb (h.bx y e), fun y e => (by obtain ⟨l, cs, b, r⟩ := h.bo y e; exact ⟨l, cs, b.keep hb, r⟩), fun y e => ⟨(h.bk y e).1, (h.bk y e).2.keep hb⟩⟩
theorem RunS.fx (h : RunS wr wx n none o k) : RunS wr (wx.alloc (.cells #[.int .i64 (-1)] 3)) n (some wx.heap.size) o k := by
 have s := h.keep (boxed wx (.cells #[.int .i64 (-1)] 3))
 exact ⟨s.hb, fun y e => (by injection e with e; subst e; exact (Blk.new wx _ _).cell_ 0 _ rfl), s.bo, s.bk⟩
theorem RunS.fo (h : RunS wr wx n x none k) (hb : Below wx.heap.size wx wy) {y : Nat} {cs : Array Value} (b : Blk wy y 3 cs) (hs : cs.size = n) (hc : ∀ j, j < n → cs[j]? = some (.int .i64 (-1))) (hy : wx.heap.size ≤ y) : RunS wr wy n x (some y) k := by
 have s := h.keep hb
 exact ⟨s.hb, s.bx, fun z e => (by injection e with e; subst e; exact ⟨Nat.le_trans h.hb.size hy, cs, b, hs, hc⟩), s.bk⟩
theorem RunS.fk (h : RunS wr wx n x o none) : RunS wr (wx.alloc (.cells ((List.replicate n kv0).flatMap KV.cells).toArray 92)) n x o (some wx.heap.size) := by
 have s := h.keep (boxed wx (.cells ((List.replicate n kv0).flatMap KV.cells).toArray 92))
 exact ⟨s.hb, s.bx, s.bo, fun y e => (by injection e with e; subst e; exact ⟨h.hb.size, Blk.new wx _ _⟩)⟩
theorem RunS.fin {zo zk B : Nat} {mode : Int} (h : RunS wr wx n x (some zo) (some zk)) {p : Nat} (D : Blk wy p 101 (pool00 mode n zo zk)) (hb : Below wx.heap.size wx wy) (hB : B ≤ wr.heap.size) (hn : n ≤ 1000) (hp : B ≤ p) :
  PoolR wy B p (V00 n zo zk) (List.replicate n kv0) (M00 mode n) := by
 obtain ⟨l1, cs, b1, hs, hc⟩ := (h.keep hb).bo _ rfl
 obtain ⟨l2, b2⟩ := (h.keep hb).bk _ rfl
 exact start_pool D b1 hs hc b2 hp (by omega) (by omega) hn
end
set_option maxHeartbeats 16000000 in
set_option maxRecDepth 100000 in
theorem run_any (w : World) (mode : Int) (n : Nat) (v : Value) (l : List Ac) (hm : setupE mode n = 0) (hn1 : 1 ≤ n) (hn4 : n ≤ 4) (hl : AcL w w.heap.size v l) (hlen : l.length ≤ 300) (hok : ∀ a ∈ l, AcOk a) (hT : Tabs w) :
  Calls Tryz.prog 12 #[.agg #[.int .i64 mode, .int .i64 (n : Int)], v] w fun e w' => ∃ vs vd vr, e = .returned (.tuple #[.agg #[vs, vd, vr], .int .i64 0]) ∧ OutR w' w.heap.size vs vd vr (outM mode n l) ∧ Below w.heap.size w w' := by
 have hs := fun w => setup_any mode n w
 rw [hm] at hs
 have XS := Lib.hid hs
 have HAL := Lib.hid hl
 have HT := Lib.hid hT
 have HOK := Lib.hid hok
 obtain ⟨A, cap, rfl, _⟩ := hl
 obtain ⟨L, hL⟩ : ∃ L, l.length = L := ⟨_, rfl⟩
 rw [hL] at hlen HAL ⊢
 have HL := Lib.hid hL
 have q1 : (L : Int) ≤ 300 := by omega
 have hgd : ∀ i, i < L → AcOk (l.getD i ⟨0, 0, ⟨#[]⟩⟩) := fun i hi => by
  rw [List.getD_eq_getElem?_getD, List.getElem?_eq_getElem (by omega)]
  exact hok _ (List.getElem_mem _)
 have HGD := Lib.hid hgd
 clear hs hm hT hok hL hgd
 go_enter Tryz.func12, Tryz.ntmps12
 go_wp2_with fail
 refine (XS.out _).mono ?_
 rintro e w1 ⟨rfl, hb1⟩
 have HU := Lib.hid (RU.after hb1)
 clear hb1
 go_upto_block 0 with fail
 go_cut [] (fun wx => RU w mode n wx)
 case first =>
  go_wp2_with fail
  go_loopw [27] (fun i wx => ∃ m : Nat, m ≤ L ∧ i = .int .i64 m ∧ Hid (RU w mode n wx)) (fun i _ => L - (intOf i).toNat)
  case atStart => exact ⟨0, Nat.zero_le _, rfl, HU⟩
  case round =>
   obtain ⟨m, hmL, rfl, HR⟩ := hrel
   by_cases hlt : m < L
   ·have g1 : (m : Int) < (L : Int) := by omega
    have g2 : (0 : Int) ≤ (m : Int) := by omega
    obtain ⟨ad, hA, hB, ha⟩ := ac_at (HAL.out.below HR.out.bel) HL.out hlt
    obtain ⟨k1, c0, c6, d1⟩ := HGD.out m hlt
    subst hA
    obtain ⟨⟨ak, ac, adt⟩, hx⟩ : ∃ x, l.getD m ⟨0, 0, ⟨#[]⟩⟩ = x := ⟨_, rfl⟩
    rw [hx] at ha k1 c0 c6 d1
    obtain ⟨a0, a1, a2⟩ := ha
    simp only at a0 a1 a2 k1 c0 c6 d1
    have d2 : (adt.size : Int) ≤ 1000 := by omega
    have HS := Lib.hid (HR.out.keep (boxed wr (.cells #[.int .i64 ak, .int .i64 ac, .string adt] 54)))
    clear hx
    rcases k1 with rfl | rfl
    all_goals
     go_wp2_with fail
     go_roundw
     case rel => exact ⟨m + 1, by omega, by go_num, HS⟩
     case measure => simp [intOf]; omega
   ·have g1 : (L : Int) ≤ (m : Int) := by omega
    go_wp2_with fail
    go_meet
    exact HR.out
 case rest =>
  have HR := Lib.hid hcut
  clear hcut HU
  have s0 := HR.out.set.cell_ 0 _ rfl
  have s1 := HR.out.set.cell_ 1 _ rfl
  have HMO := Lib.hid (made_own n hn1 hn4)
  have HMS := Lib.hid (made_ses n hn1 hn4)
  go_upto_region 16 with fail
  go_cut [9] (fun p9 wx => ∃ p, p9 = .pointer (some ⟨p, 0, none⟩) ∧ ∃ zo zk, PoolR wx w.heap.size p (V00 n zo zk) (List.replicate n kv0) (M00 mode n) ∧ RU w mode n wx)
  case first =>
   refine region_segs [] (by kernel_rfl) ?_
   refine anyB_seg [0, 2, 3, 5, 6] 6 rfl (by kernel_rfl) (by kernel_rfl) (by kernel_rfl) (fun _ _ d _ _ h => by cases d <;> exact h) ?_
   simp only [pickOps, List.getElem?_toArray, List.getElem?_cons_zero, List.getElem?_cons_succ]
   go_wp2_with fail
   refine ⟨rfl, by rfl, ?_⟩
   have S0 := Lib.hid ((RunS.start wc n).keep (Below.refl _ _).drew)
   clear s0 s1
   generalize wc.drew = x0 at S0 ⊢
   refine anyB_two (i := 1) (j := 7) (by kernel_rfl) rfl rfl (fun K hK => ?_) (fun K hK => ?_)
   ·go_simp
    refine hK.out _ _ (fun _ => (boxed _ _)) ?_
    clear hK K
    have S1 := Lib.hid S0.out.fx
    obtain ⟨zx, hz⟩ : ∃ z, x0.heap.size = z := ⟨_, rfl⟩
    rw [hz] at S1 ⊢
    generalize World.alloc _ _ = x1 at S1 ⊢
    clear S0 hz
    refine anyB_two (i := 4) (j := 7) (by kernel_rfl) rfl rfl (fun K hK => ?_) (fun K hK => ?_)
    ·go_simp
     refine (rep_any _ zx n hn1 (by omega) (S1.out.bx _ rfl)).mono ?_
     rintro e x2 ⟨zo, cs, rfl, b, hcs, hc1, hzo, hb⟩
     refine hK.out _ _ (fun _ => hb) ?_
     clear hK K
     have S2 := Lib.hid (S1.out.fo hb b hcs hc1 hzo)
     clear b hcs hc1 hzo hb S1
     refine anyB_one (i := 7) (by kernel_rfl) rfl (fun K hK => ?_)
     go_simp
     rw [HMO.out]
     go_simp
     refine hK.out _ _ (fun _ => (boxed _ _)) ?_
     clear hK K
     have S3 := Lib.hid S2.out.fk
     obtain ⟨zk, hz⟩ : ∃ z, x2.heap.size = z := ⟨_, rfl⟩
     rw [hz] at S3 ⊢
     generalize World.alloc _ _ = x3 at S3 ⊢
     clear S2 hz
     refine anyB_seg [8] 2 rfl (by kernel_rfl) (by kernel_rfl) (by kernel_rfl) (fun _ _ d _ _ h => by cases d <;> exact h) ?_
     simp only [pickOps, List.getElem?_toArray, List.getElem?_cons_zero, List.getElem?_cons_succ]
     go_wp2_with fail
     refine ⟨rfl, by rfl, ?_⟩
     refine anyB_one (i := 9) (by kernel_rfl) rfl (fun K hK => ?_)
     go_simp
     refine hK.out _ _ (fun _ => (boxed _ _)) ?_
     clear hK K
     refine anyB_seg [10] 0 rfl (by kernel_rfl) (by kernel_rfl) (by kernel_rfl) (fun _ _ d _ _ h => by cases d <;> exact h) ?_
     simp only [pickOps, List.getElem?_toArray, List.getElem?_cons_zero, List.getElem?_cons_succ]
     go_wp2_with fail
     refine ⟨rfl, by rfl, ?_⟩
     refine anyB_done (by kernel_rfl) ?_ _
     have D := Blk.new x3 101 (pool00 mode n zo zk)
     have HB9 := Lib.hid (boxed x3 (.cells (pool00 mode n zo zk) 101))
     have R9 := Lib.hid (S3.out.fin D HB9.out HR.out.bel.size (by omega) (Nat.le_trans HR.out.bel.size S3.out.hb.size))
     have U9 := Lib.hid ((HR.out.keep S3.out.hb).keep HB9.out)
     clear D HB9 S3
     go_wp2_with fail
     go_meet
     refine ⟨_, rfl, zo, zk, ?_, ?_⟩
     ·exact R9.out
     ·exact U9.out
    ·go_simp
     rw [HMO.out]
     go_simp
     refine hK.out _ _ (fun _ => (boxed _ _)) ?_
     clear hK K
     have S2 := Lib.hid S1.out.fk
     obtain ⟨zk, hz⟩ : ∃ z, x1.heap.size = z := ⟨_, rfl⟩
     rw [hz] at S2 ⊢
     generalize World.alloc _ _ = x2 at S2 ⊢
     clear S1 hz
     refine anyB_one (i := 4) (by kernel_rfl) rfl (fun K hK => ?_)
     go_simp
     refine (rep_any _ zx n hn1 (by omega) (S2.out.bx _ rfl)).mono ?_
     rintro e x3 ⟨zo, cs, rfl, b, hcs, hc1, hzo, hb⟩
     refine hK.out _ _ (fun _ => hb) ?_
     clear hK K
     have S3 := Lib.hid (S2.out.fo hb b hcs hc1 hzo)
     clear b hcs hc1 hzo hb S2
     refine anyB_seg [8] 2 rfl (by kernel_rfl) (by kernel_rfl) (by kernel_rfl) (fun _ _ d _ _ h => by cases d <;> exact h) ?_
     simp only [pickOps, List.getElem?_toArray, List.getElem?_cons_zero, List.getElem?_cons_succ]
     go_wp2_with fail
     refine ⟨rfl, by rfl, ?_⟩
     refine anyB_one (i := 9) (by kernel_rfl) rfl (fun K hK => ?_)
     go_simp
     refine hK.out _ _ (fun _ => (boxed _ _)) ?_
     clear hK K
     refine anyB_seg [10] 0 rfl (by kernel_rfl) (by kernel_rfl) (by kernel_rfl) (fun _ _ d _ _ h => by cases d <;> exact h) ?_
     simp only [pickOps, List.getElem?_toArray, List.getElem?_cons_zero, List.getElem?_cons_succ]
     go_wp2_with fail
     refine ⟨rfl, by rfl, ?_⟩
     refine anyB_done (by kernel_rfl) ?_ _
     have D := Blk.new x3 101 (pool00 mode n zo zk)
     have HB9 := Lib.hid (boxed x3 (.cells (pool00 mode n zo zk) 101))
     have R9 := Lib.hid (S3.out.fin D HB9.out HR.out.bel.size (by omega) (Nat.le_trans HR.out.bel.size S3.out.hb.size))
     have U9 := Lib.hid ((HR.out.keep S3.out.hb).keep HB9.out)
     clear D HB9 S3
     go_wp2_with fail
     go_meet
     refine ⟨_, rfl, zo, zk, ?_, ?_⟩
     ·exact R9.out
     ·exact U9.out
   ·go_simp
    rw [HMO.out]
    go_simp
    refine hK.out _ _ (fun _ => (boxed _ _)) ?_
    clear hK K
    have S1 := Lib.hid S0.out.fk
    obtain ⟨zk, hz⟩ : ∃ z, x0.heap.size = z := ⟨_, rfl⟩
    rw [hz] at S1 ⊢
    generalize World.alloc _ _ = x1 at S1 ⊢
    clear S0 hz
    refine anyB_one (i := 1) (by kernel_rfl) rfl (fun K hK => ?_)
    go_simp
    refine hK.out _ _ (fun _ => (boxed _ _)) ?_
    clear hK K
    have S2 := Lib.hid S1.out.fx
    obtain ⟨zx, hz⟩ : ∃ z, x1.heap.size = z := ⟨_, rfl⟩
    rw [hz] at S2 ⊢
    generalize World.alloc _ _ = x2 at S2 ⊢
    clear S1 hz
    refine anyB_one (i := 4) (by kernel_rfl) rfl (fun K hK => ?_)
    go_simp
    refine (rep_any _ zx n hn1 (by omega) (S2.out.bx _ rfl)).mono ?_
    rintro e x3 ⟨zo, cs, rfl, b, hcs, hc1, hzo, hb⟩
    refine hK.out _ _ (fun _ => hb) ?_
    clear hK K
    have S3 := Lib.hid (S2.out.fo hb b hcs hc1 hzo)
    clear b hcs hc1 hzo hb S2
    refine anyB_seg [8] 2 rfl (by kernel_rfl) (by kernel_rfl) (by kernel_rfl) (fun _ _ d _ _ h => by cases d <;> exact h) ?_
    simp only [pickOps, List.getElem?_toArray, List.getElem?_cons_zero, List.getElem?_cons_succ]
    go_wp2_with fail
    refine ⟨rfl, by rfl, ?_⟩
    refine anyB_one (i := 9) (by kernel_rfl) rfl (fun K hK => ?_)
    go_simp
    refine hK.out _ _ (fun _ => (boxed _ _)) ?_
    clear hK K
    refine anyB_seg [10] 0 rfl (by kernel_rfl) (by kernel_rfl) (by kernel_rfl) (fun _ _ d _ _ h => by cases d <;> exact h) ?_
    simp only [pickOps, List.getElem?_toArray, List.getElem?_cons_zero, List.getElem?_cons_succ]
    go_wp2_with fail
    refine ⟨rfl, by rfl, ?_⟩
    refine anyB_done (by kernel_rfl) ?_ _
    have D := Blk.new x3 101 (pool00 mode n zo zk)
    have HB9 := Lib.hid (boxed x3 (.cells (pool00 mode n zo zk) 101))
    have R9 := Lib.hid (S3.out.fin D HB9.out HR.out.bel.size (by omega) (Nat.le_trans HR.out.bel.size S3.out.hb.size))
    have U9 := Lib.hid ((HR.out.keep S3.out.hb).keep HB9.out)
    clear D HB9 S3
    go_wp2_with fail
    go_meet
    refine ⟨_, rfl, zo, zk, ?_, ?_⟩
    ·exact R9.out
    ·exact U9.out

  case rest =>
   obtain ⟨p, rfl, zo, zk, r0, u0⟩ := hcut
   have y3 : wc.cell? ⟨p, 3, none⟩ = some (.slice none 0 0) := r0.b.cell (j := 3) (by decide)
   have s1 := u0.set.cell_ 1 _ rfl
   have fp := r0.b.frozen
   have hlp := r0.b.lt
   have npz := Nat.ne_of_lt hlp
   have hbx := boxed wc (.cells (zcS n).toArray 133)
   have y3' := keep_cell hbx y3
   have r1 := (r0.below hbx).put_ses (v := .slice (some ⟨wc.heap.size, 0, none⟩) n n) (l := List.replicate n Se.new) ⟨_, zcS_osl (Blk.new wc _ _) (Nat.le_trans r0.o.lb (Nat.le_of_lt hlp)) (by omega)⟩
   have ew := World.setCell_alloc_past (w := wc) (.cells (zcS n).toArray 133) p 3 (.slice (some ⟨wc.heap.size, 0, none⟩) n n) hlp
   rw [ew] at r1
   have e0 := m01_zero mode n
   have R1 := Lib.hid (show PoolR ((wc.setCell ⟨p, 3, none⟩ (.slice (some ⟨wc.heap.size, 0, none⟩) n n)).alloc (.cells (zcS n).toArray 133)) w.heap.size p { V00 n zo zk with ses := .slice (some ⟨wc.heap.size, 0, none⟩) n n } (List.replicate n kv0) (M01 mode n 0) by rw [← e0]; exact r1.1)
   have O1 := Lib.hid ((RO.mk (u0.bel) u0.out).keep hbx |>.turn (r0.below hbx) r1.2)
   have hms := HMS.out
   clear e0 r0 u0 hbx r1 HR ew
   go_upto_region 18 with fail
   clear y3 y3' s1 fp hlp npz hms
   obtain ⟨V1, hV1⟩ : ∃ V1, ({ V00 n zo zk with ses := .slice (some ⟨wc.heap.size, 0, none⟩) n n } : PV) = V1 := ⟨_, rfl⟩
   rw [hV1] at R1
   clear hV1
   generalize World.alloc _ _ = x1 at R1 O1 ⊢
   have HTB := Lib.hid ((TabB.start HT.out).bel O1.out.bel)
   go_upto_block 3 with fail
   go_cut [] (fun wx => ∃ V' ks', PoolR wx w.heap.size p V' ks' (MV.of (startF mode n) (startP n)) ∧ Turn p x1 V1 wx V')
   case first =>
    go_wp2_with fail
    go_loopw [75] (fun i wx => ∃ m : Nat, m ≤ 6 ∧ i = .int .i64 m ∧ Hid (∃ V' ks', PoolR wx w.heap.size p V' ks' (M01 mode n m) ∧ Turn p x1 V1 wx V')) (fun i _ => 6 - (intOf i).toNat)
    case atStart => exact ⟨0, Nat.zero_le _, rfl, Lib.hid ⟨V1, _, R1.out, Turn.refl _ _ _⟩⟩
    case round =>
     obtain ⟨m, hm6, rfl, HL⟩ := hrel
     by_cases hlt : m < 6
     ·have g1 : (m : Int) < 6 := by omega
      have g2 : (0 : Int) ≤ (m : Int) := by omega
      obtain ⟨V2, ks2, r2, t2⟩ := HL.out
      have y : ∃ u, wr.cell? ⟨p, 6 + m * 10 + 3, none⟩ = some u := ⟨_, r2.b.cellC (k := 3) hlt (by decide)⟩
      obtain ⟨u, y⟩ := y
      have fp := r2.b.frozen
      have r3 := r2.put_srv hlt (-1)
      rw [m01_step] at r3
      have HF := Lib.hid (show ∃ V' ks', PoolR (wr.setCell ⟨p, 6 + m * 10 + 3, none⟩ (.int .i64 (-1))) w.heap.size p V' ks' (M01 mode n (m + 1)) ∧ Turn p x1 V1 (wr.setCell ⟨p, 6 + m * 10 + 3, none⟩ (.int .i64 (-1))) V' from ⟨_, _, r3.1, t2.trans r3.2⟩)
      clear r2 t2 r3 HL
      go_wp2_with fail
      go_roundw
      case rel => exact ⟨m + 1, by omega, by go_num, HF⟩
      case measure => simp [intOf]; omega
     ·obtain rfl : m = 6 := by omega
      obtain ⟨V2, ks2, r2, t2⟩ := HL.out
      have HF := Lib.hid (And.intro (m01_end r2) t2)
      clear r2 t2 HL
      go_wp2_with fail
      go_meet
      exact ⟨V2, ks2, HF.out.1, HF.out.2⟩
   case rest =>
    obtain ⟨V2, ks2, r2, t2⟩ := hcut
    have R2 := Lib.hid r2
    have T2 := Lib.hid t2
    clear r2 t2
    go_upto_block 5 with fail
    go_cut [] (fun wx => ∃ V' ks', PoolR wx w.heap.size p V' ks' (MV.of (runM poolB (startF mode n, startP n) l).1 (runM poolB (startF mode n, startP n) l).2) ∧ Turn p x1 V1 wx V')
    case first =>
     go_wp2_with fail
     go_loopw [87] (fun i wx => ∃ m : Nat, m ≤ L ∧ i = .int .i64 m ∧ Hid (∃ V' ks', PoolR wx w.heap.size p V' ks' (MV.of (runM poolB (startF mode n, startP n) (l.take m)).1 (runM poolB (startF mode n, startP n) (l.take m)).2) ∧ Turn p x1 V1 wx V')) (fun i _ => L - (intOf i).toNat)
     case atStart => exact ⟨0, Nat.zero_le _, rfl, Lib.hid ⟨V2, ks2, R2.out, T2.out⟩⟩
     case round =>
      obtain ⟨m, hmL, rfl, HL2⟩ := hrel
      by_cases hlt : m < L
      ·have g1 : (m : Int) < (L : Int) := by omega
       have g2 : (0 : Int) ≤ (m : Int) := by omega
       have hml : m < l.length := by rw [HL.out]; exact hlt
       have hst := run_step (startF mode n, startP n) l hml
       have hok := run_take_ok mode n (by omega) HOK.out m (Nat.le_of_lt hml)
       obtain ⟨V3, ks3, r3, t3⟩ := HL2.out
       have hro := O1.out.turn R1.out t3
       obtain ⟨ad, hA, hB, ha⟩ := ac_at (HAL.out.below hro.bel) HL.out hlt
       obtain ⟨k1, c0, c6, d1⟩ := HGD.out m hlt
       subst hA
       rw [show l.getD m ⟨0, 0, ⟨#[]⟩⟩ = l[m] by rw [List.getD_eq_getElem?_getD, List.getElem?_eq_getElem hml]; rfl] at ha k1 c0 c6 d1
       obtain ⟨⟨ak, ac, adt⟩, hx⟩ : ∃ x, l[m] = x := ⟨_, rfl⟩
       rw [hx] at ha k1 c0 c6 d1 hst
       obtain ⟨a0, a1, a2⟩ := ha
       simp only at a0 a1 a2 k1 c0 c6 d1
       obtain ⟨cn, hcn⟩ : ∃ c : Nat, ac = (c : Int) := ⟨ac.toNat, by omega⟩
       subst hcn
       obtain ⟨⟨f3, b3⟩, hz3⟩ : ∃ z, runM poolB (startF mode n, startP n) (l.take m) = z := ⟨_, rfl⟩
       rw [hz3] at r3 hst hok
       have hbx := boxed wr (.cells #[.int .i64 ak, .int .i64 (cn : Int), .string adt] 54)
       have R3 := Lib.hid (r3.below hbx)
       have T3 := Lib.hid (t3.below hbx)
       have HT3 := Lib.hid ((TabB.start HT.out).bel ((O1.out.turn R1.out (t3.below hbx)).bel))
       have HOK3 := Lib.hid hok
       have HST := Lib.hid hst
       have HC6 := Lib.hid (show cn < 6 by omega)
       have HN3 := Lib.hid (show m * 1000 + adt.size ≤ 1000000 by omega)
       clear hst hok r3 t3 hro hx hz3 hbx HL2
       rcases k1 with rfl | rfl
       ·have HA := Lib.hid (show actM poolB (f3, b3) ⟨1, (cn : Int), adt⟩ = deliverM poolB (f3, b3) cn adt by unfold actM; rw [if_neg (show ¬ (1 : Int) = 2 by decide)]; rfl)
        go_wp2_with fail
        refine (deliver_any _ w.heap.size p V3 ks3 f3 b3 (m * 1000) R3.out HT3.out HOK3.out cn HC6.out adt HN3.out).mono ?_
        rintro e w5 ⟨rfl, ⟨V5, ks5, r5, t5⟩⟩
        have HF := Lib.hid (show ∃ V' ks', PoolR w5 w.heap.size p V' ks' (MV.of (runM poolB (startF mode n, startP n) (l.take (m + 1))).1 (runM poolB (startF mode n, startP n) (l.take (m + 1))).2) ∧ Turn p x1 V1 w5 V' from ⟨V5, ks5, by rw [HST.out, HA.out]; exact r5, T3.out.trans t5⟩)
        clear r5 t5
        go_wp2_with fail
        go_roundw
        case rel => exact ⟨m + 1, by omega, by go_num, HF⟩
        case measure => simp [intOf]; omega
       ·have HA := Lib.hid (show actM poolB (f3, b3) ⟨2, (cn : Int), adt⟩ = pumpM poolB (closeM poolB (f3, b3) cn) by unfold actM; rw [if_pos rfl]; rfl)
        go_wp2_with fail
        refine (close_any _ w.heap.size p V3 ks3 f3 b3 (m * 1000) R3.out HT3.out HOK3.out cn HC6.out).mono ?_
        rintro e w5 ⟨rfl, ⟨V5, ks5, r5, t5⟩⟩
        have HK5 := Lib.hid (HOK3.out.close HC6.out)
        obtain ⟨⟨f5, b5⟩, h5⟩ : ∃ z, closeM poolB (f3, b3) cn = z := ⟨_, rfl⟩
        rw [h5] at r5 HK5 HA
        have R5 := Lib.hid r5
        have T5 := Lib.hid t5
        clear r5 t5 h5
        go_wp2_with fail
        refine (pump_any _ w.heap.size p V5 ks5 f5 b5 (m * 1000) R5.out (HT3.out.turn R3.out.o T5.out) HK5.out (by have := HN3.out; omega)).mono ?_
        rintro e w6 ⟨rfl, ⟨V6, ks6, r6, t6⟩⟩
        have HF := Lib.hid (show ∃ V' ks', PoolR w6 w.heap.size p V' ks' (MV.of (runM poolB (startF mode n, startP n) (l.take (m + 1))).1 (runM poolB (startF mode n, startP n) (l.take (m + 1))).2) ∧ Turn p x1 V1 w6 V' from ⟨V6, ks6, by rw [HST.out, HA.out]; exact r6, (T3.out.trans T5.out).trans t6⟩)
        clear r6 t6
        go_wp2_with fail
        go_roundw
        case rel => exact ⟨m + 1, by omega, by go_num, HF⟩
        case measure => simp [intOf]; omega
      ·have g1 : (L : Int) ≤ (m : Int) := by omega
       have HF := Lib.hid (show ∃ V' ks', PoolR wr w.heap.size p V' ks' (MV.of (runM poolB (startF mode n, startP n) l).1 (runM poolB (startF mode n, startP n) l).2) ∧ Turn p x1 V1 wr V' by
        have := HL2.out
        rw [List.take_of_length_le (by rw [HL.out]; omega)] at this
        exact this)
       go_wp2_with fail
       go_meet
       exact HF.out
    case rest =>
     obtain ⟨V3, ks3, r3, t3⟩ := hcut
     have OB := Lib.hid (O1.out.turn R1.out t3)
     obtain ⟨Mz, hMz⟩ : ∃ M, MV.of (runM poolB (startF mode n, startP n) l).1 (runM poolB (startF mode n, startP n) l).2 = M := ⟨_, rfl⟩
     rw [hMz] at r3
     have HMZ := Lib.hid hMz
     have Z0 := Lib.hid r3
     clear t3 r3 hMz R2 T2 R1 O1 HTB
     obtain ⟨Ad, kd, ed, _⟩ := Z0.out.o.deeds.form
     obtain ⟨nd, hnd⟩ : ∃ n, Mz.deeds.length = n := ⟨_, rfl⟩
     rw [hnd] at ed
     obtain ⟨Aw, kw, ew⟩ := Z0.out.o.rows.form
     have y67 : wc.cell? ⟨p, 67, none⟩ = some V3.deeds := Z0.out.b.cell (j := 67) (by decide)
     have y2 : wc.cell? ⟨p, 2, none⟩ = some V3.rows := Z0.out.b.cell (j := 2) (by decide)
     rw [ed] at y67
     rw [ew] at y2
     obtain ⟨nw, hnw⟩ : ∃ n, Mz.w.rows.length = n := ⟨_, rfl⟩
     rw [hnw] at ew y2
     have ED := Lib.hid ed
     have ERW := Lib.hid ew
     clear ed ew hnd hnw
     go_upto_region 31 with fail
     go_cut [13] (fun p13 wx => ∃ z13 vr, p13 = .pointer (some ⟨z13, 0, none⟩) ∧ RunE w wx p V3 Mz z13 0 0 (.slice none 0 0) vr)
     case first =>
      refine region_segs [12] (by kernel_rfl) ?_
      refine anyB_seg [0, 1, 2, 3, 4, 5, 6, 7, 8] 4 rfl (by kernel_rfl) (by kernel_rfl) (by kernel_rfl) (fun _ _ d _ _ h => by cases d <;> exact h) ?_
      simp only [pickOps, List.getElem?_toArray, List.getElem?_cons_zero, List.getElem?_cons_succ]
      go_wp2_with fail
      refine ⟨rfl, by rfl, ?_⟩
      have S0 := Lib.hid ((RunC.start w.heap.size wc Mz.w.rows).keep (Below.refl _ _).drew)
      clear y67 y2
      generalize wc.drew = x0 at S0 ⊢
      refine anyB_two (i := 9) (j := 11) (by kernel_rfl) rfl rfl (fun K hK => ?_) (fun K hK => ?_)
      ·go_simp
       have pl := ((Z0.out.o.rows.keeps (.of_below S0.out.hb)).pl)
       rw [ERW.out] at pl
       refine (clone_own _ w.heap.size _ _ pl (Nat.le_trans OB.out.bel.size S0.out.hb.size)).mono ?_
       rintro e x1 ⟨vr, rfl, o, hb⟩
       refine hK.out _ _ (fun _ => hb) ?_
       clear hK K
       have S1 := Lib.hid (S0.out.fv hb o)
       obtain ⟨Ar, kr, er⟩ := o.form
       subst er
       clear o hb pl S0
       refine anyB_seg [10] 2 rfl (by kernel_rfl) (by kernel_rfl) (by kernel_rfl) (fun _ _ d _ _ h => by cases d <;> exact h) ?_
       simp only [pickOps, List.getElem?_toArray, List.getElem?_cons_zero, List.getElem?_cons_succ]
       go_wp2_with fail
       refine ⟨rfl, by rfl, ?_⟩
       refine anyB_one (i := 11) (by kernel_rfl) rfl (fun K hK => ?_)
       go_simp
       refine hK.out _ _ (fun _ => (boxed _ _)) ?_
       clear hK K
       have S2 := Lib.hid S1.out.fz
       obtain ⟨z13, hz⟩ : ∃ z, x1.heap.size = z := ⟨_, rfl⟩
       rw [hz] at S2 ⊢
       generalize World.alloc _ _ = x2 at S2 ⊢
       clear S1 hz
       obtain ⟨bz, -⟩ := S2.out.bz _ rfl
       have f0 := bz.cell_ 0 _ rfl
       have f1 := bz.cell_ 1 _ rfl
       have f2 := bz.cell_ 2 _ rfl
       have ff := bz.frozen
       clear bz
       refine anyB_one (i := 12) (by kernel_rfl) rfl (fun K hK => ?_)
       go_simp
       refine hK.out _ _ (fun h => absurd (by decide) h) ?_
       clear hK K
       refine anyB_done (by kernel_rfl) ?_ _
       have FN := Lib.hid (S2.out.fin OB.out Z0.out (.slice none 0 0) (.slice Ad nd kd) _ rfl ED.out.symm rfl rfl)
       clear f0 f1 f2 ff S2
       generalize World.setCell _ _ _ = x9 at FN ⊢
       go_wp2_with fail
       go_meet
       exact ⟨z13, _, rfl, FN.out⟩
      ·go_simp
       refine hK.out _ _ (fun _ => (boxed _ _)) ?_
       clear hK K
       have S1 := Lib.hid S0.out.fz
       obtain ⟨z13, hz⟩ : ∃ z, x0.heap.size = z := ⟨_, rfl⟩
       rw [hz] at S1 ⊢
       generalize World.alloc _ _ = x1 at S1 ⊢
       clear S0 hz
       refine anyB_one (i := 9) (by kernel_rfl) rfl (fun K hK => ?_)
       go_simp
       have pl := ((Z0.out.o.rows.keeps (.of_below S1.out.hb)).pl)
       rw [ERW.out] at pl
       refine (clone_own _ w.heap.size _ _ pl (Nat.le_trans OB.out.bel.size S1.out.hb.size)).mono ?_
       rintro e x2 ⟨vr, rfl, o, hb⟩
       refine hK.out _ _ (fun _ => hb) ?_
       clear hK K
       have S2 := Lib.hid (S1.out.fv hb o)
       obtain ⟨Ar, kr, er⟩ := o.form
       subst er
       clear o hb pl S1
       refine anyB_seg [10] 1 rfl (by kernel_rfl) (by kernel_rfl) (by kernel_rfl) (fun _ _ d _ _ h => by cases d <;> exact h) ?_
       simp only [pickOps, List.getElem?_toArray, List.getElem?_cons_zero, List.getElem?_cons_succ]
       go_wp2_with fail
       refine ⟨rfl, by rfl, ?_⟩
       obtain ⟨bz, -⟩ := S2.out.bz _ rfl
       have f0 := bz.cell_ 0 _ rfl
       have f1 := bz.cell_ 1 _ rfl
       have f2 := bz.cell_ 2 _ rfl
       have ff := bz.frozen
       clear bz
       refine anyB_one (i := 12) (by kernel_rfl) rfl (fun K hK => ?_)
       go_simp
       refine hK.out _ _ (fun h => absurd (by decide) h) ?_
       clear hK K
       refine anyB_done (by kernel_rfl) ?_ _
       have FN := Lib.hid (S2.out.fin OB.out Z0.out (.slice none 0 0) (.slice Ad nd kd) _ rfl ED.out.symm rfl rfl)
       clear f0 f1 f2 ff S2
       generalize World.setCell _ _ _ = x9 at FN ⊢
       go_wp2_with fail
       go_meet
       exact ⟨z13, _, rfl, FN.out⟩

     case rest =>
      obtain ⟨z13, vr, rfl, e0⟩ := hcut
      have E0 := Lib.hid e0
      clear e0 y67 y2
      go_upto_block 7 with fail
      go_cut [] (fun wx => ∃ vs, RunE w wx p V3 Mz z13 6 6 vs vr)
      case first =>
       go_wp2_with fail
       go_loopw [118] (fun i wx => ∃ m : Nat, m ≤ 6 ∧ i = .int .i64 m ∧ Hid (∃ vs, RunE w wx p V3 Mz z13 m m vs vr)) (fun i _ => 6 - (intOf i).toNat)
       case atStart => exact ⟨0, Nat.zero_le _, rfl, Lib.hid ⟨_, E0.out⟩⟩
       case round =>
        obtain ⟨m, hm6, rfl, HE⟩ := hrel
        by_cases hlt : m < 6
        ·have g1 : (m : Int) < 6 := by omega
         have g2 : (0 : Int) ≤ (m : Int) := by omega
         have H6 := Lib.hid hlt
         obtain ⟨vs, es⟩ := HE.out
         obtain ⟨As, ks, e5, _⟩ := es.sent.form
         subst e5
         have S0 := Lib.hid (es.keep (Below.refl _ _).drew)
         have y0 := es.box.cell_ 0 _ rfl
         clear es HE
         go_upto_region 35 with fail
         refine region_segs [8, 10, 12] (by kernel_rfl) ?_
         refine anyB_seg [0, 2, 3, 4, 5, 6, 7] 6 rfl (by kernel_rfl) (by kernel_rfl) (by kernel_rfl) (fun _ _ d _ _ h => by cases d <;> exact h) ?_
         simp only [pickOps, List.getElem?_toArray, List.getElem?_cons_zero, List.getElem?_cons_succ]
         go_wp2_with fail
         refine ⟨rfl, by rfl, ?_⟩
         clear y0
         generalize wr.drew = x0 at S0 ⊢
         refine anyB_two (i := 1) (j := 8) (by kernel_rfl) rfl rfl (fun K hK => ?_) (fun K hK => ?_)
         ·have y := S0.out.box.cell_ 0 _ rfl
          go_simp
          refine hK.out _ _ (fun _ => (Below.refl _ _)) ?_
          clear hK K
          clear y
          generalize hx : x0 = x1 at S0 ⊢
          have S1 := S0
          try rw [hx] at HD
          clear S0 hx
          refine anyB_one (i := 8) (by kernel_rfl) rfl (fun K hK => ?_)
          go_simp
          have hx : x1.cell? ⟨p, 6 + m * 10 + 9, none⟩ = some (V3.buf m) := S1.out.pb.cellC (k := 9) H6.out (by decide)
          refine (string_any _ w.heap.size p m H6.out _ _ hx (S1.out.buf m (Nat.le_refl _) H6.out)).mono ?_
          rintro e x2 ⟨rfl, g⟩
          refine hK.out _ _ (fun h => absurd (by decide) h) ?_
          clear hK K
          have S2 := Lib.hid (S1.out.read H6.out g)
          clear hx g S1
          refine anyB_one (i := 9) (by kernel_rfl) rfl (fun K hK => ?_)
          go_simp
          refine hK.out _ _ (fun _ => (boxed _ _)) ?_
          clear hK K
          have HD := Lib.hid (Blk.new x2 9 #[.string (Mz.sent m)])
          have S3 := Lib.hid (S2.out.keep (boxed x2 (.cells #[.string (Mz.sent m)] 9)))
          obtain ⟨zs, hz⟩ : ∃ z, x2.heap.size = z := ⟨_, rfl⟩
          rw [hz] at HD ⊢
          generalize World.alloc _ _ = x3 at HD S3 ⊢
          clear S2 hz
          obtain ⟨i0, hi0, hz0, hz1, hz2⟩ := info_parts str_info
          have HSE := Lib.hid S3.out.sent
          have HBS := Lib.hid S3.out.ro.bel.size
          refine anyB_one (i := 10) (by kernel_rfl) rfl (fun K hK => ?_)
          rw [if_pos (by rfl)]
          refine wp_append_o _ _ _ _ rfl w.heap.size 9 i0 _ 1 16 Tryz.underlying25 hi0 hz0 hz1 hz2 rfl (by decide) (.slice As m ks) m _ rfl HSE.out x3.heap.size (some ⟨zs, 0, none⟩) 1 1 [.string (Mz.sent m)] rfl (reads_one HD.out rfl) (by intro u hu; simp only [List.mem_cons, List.not_mem_nil, or_false] at hu; subst hu; rfl) (le_maxLen (by omega)) (by omega) HBS.out ?_
          intro v' x4 ho hg hn
          refine hK.out _ _ (fun h => absurd (by decide) h) ?_
          clear hK K
          obtain ⟨A7, k7, e7, _⟩ := ho.form
          have ad := S3.out.add ho hg
          subst e7
          have y0 := ad.2.1
          have fp := ad.2.2
          have S4 := Lib.hid ad.1
          clear ad ho hg hn hi0 hz0 hz1 hz2 HD HSE HBS S3
          refine anyB_seg [11] 1 rfl (by kernel_rfl) (by kernel_rfl) (by kernel_rfl) (fun _ _ d _ _ h => by cases d <;> exact h) ?_
          simp only [pickOps, List.getElem?_toArray, List.getElem?_cons_zero, List.getElem?_cons_succ]
          go_wp2_with fail
          refine ⟨rfl, by rfl, ?_⟩
          refine anyB_one (i := 12) (by kernel_rfl) rfl (fun K hK => ?_)
          go_simp
          refine hK.out _ _ (fun h => absurd (by decide) h) ?_
          clear hK K
          refine anyB_done (by kernel_rfl) ?_ _
          clear y0 fp
          generalize World.setCell _ _ _ = x9 at S4 ⊢
          go_wp2_with fail
          go_roundw
          case rel => exact ⟨m + 1, by omega, by go_num, Lib.hid ⟨_, S4.out⟩⟩
          case measure => simp [intOf]; omega
         ·go_simp
          have hx : x0.cell? ⟨p, 6 + m * 10 + 9, none⟩ = some (V3.buf m) := S0.out.pb.cellC (k := 9) H6.out (by decide)
          refine (string_any _ w.heap.size p m H6.out _ _ hx (S0.out.buf m (Nat.le_refl _) H6.out)).mono ?_
          rintro e x1 ⟨rfl, g⟩
          refine hK.out _ _ (fun h => absurd (by decide) h) ?_
          clear hK K
          have S1 := Lib.hid (S0.out.read H6.out g)
          clear hx g S0
          refine anyB_two (i := 1) (j := 9) (by kernel_rfl) rfl rfl (fun K hK => ?_) (fun K hK => ?_)
          ·have y := S1.out.box.cell_ 0 _ rfl
           go_simp
           refine hK.out _ _ (fun _ => (Below.refl _ _)) ?_
           clear hK K
           clear y
           generalize hx : x1 = x2 at S1 ⊢
           have S2 := S1
           try rw [hx] at HD
           clear S1 hx
           refine anyB_one (i := 9) (by kernel_rfl) rfl (fun K hK => ?_)
           go_simp
           refine hK.out _ _ (fun _ => (boxed _ _)) ?_
           clear hK K
           have HD := Lib.hid (Blk.new x2 9 #[.string (Mz.sent m)])
           have S3 := Lib.hid (S2.out.keep (boxed x2 (.cells #[.string (Mz.sent m)] 9)))
           obtain ⟨zs, hz⟩ : ∃ z, x2.heap.size = z := ⟨_, rfl⟩
           rw [hz] at HD ⊢
           generalize World.alloc _ _ = x3 at HD S3 ⊢
           clear S2 hz
           obtain ⟨i0, hi0, hz0, hz1, hz2⟩ := info_parts str_info
           have HSE := Lib.hid S3.out.sent
           have HBS := Lib.hid S3.out.ro.bel.size
           refine anyB_one (i := 10) (by kernel_rfl) rfl (fun K hK => ?_)
           rw [if_pos (by rfl)]
           refine wp_append_o _ _ _ _ rfl w.heap.size 9 i0 _ 1 16 Tryz.underlying25 hi0 hz0 hz1 hz2 rfl (by decide) (.slice As m ks) m _ rfl HSE.out x3.heap.size (some ⟨zs, 0, none⟩) 1 1 [.string (Mz.sent m)] rfl (reads_one HD.out rfl) (by intro u hu; simp only [List.mem_cons, List.not_mem_nil, or_false] at hu; subst hu; rfl) (le_maxLen (by omega)) (by omega) HBS.out ?_
           intro v' x4 ho hg hn
           refine hK.out _ _ (fun h => absurd (by decide) h) ?_
           clear hK K
           obtain ⟨A7, k7, e7, _⟩ := ho.form
           have ad := S3.out.add ho hg
           subst e7
           have y0 := ad.2.1
           have fp := ad.2.2
           have S4 := Lib.hid ad.1
           clear ad ho hg hn hi0 hz0 hz1 hz2 HD HSE HBS S3
           refine anyB_seg [11] 1 rfl (by kernel_rfl) (by kernel_rfl) (by kernel_rfl) (fun _ _ d _ _ h => by cases d <;> exact h) ?_
           simp only [pickOps, List.getElem?_toArray, List.getElem?_cons_zero, List.getElem?_cons_succ]
           go_wp2_with fail
           refine ⟨rfl, by rfl, ?_⟩
           refine anyB_one (i := 12) (by kernel_rfl) rfl (fun K hK => ?_)
           go_simp
           refine hK.out _ _ (fun h => absurd (by decide) h) ?_
           clear hK K
           refine anyB_done (by kernel_rfl) ?_ _
           clear y0 fp
           generalize World.setCell _ _ _ = x9 at S4 ⊢
           go_wp2_with fail
           go_roundw
           case rel => exact ⟨m + 1, by omega, by go_num, Lib.hid ⟨_, S4.out⟩⟩
           case measure => simp [intOf]; omega
          ·go_simp
           refine hK.out _ _ (fun _ => (boxed _ _)) ?_
           clear hK K
           have HD := Lib.hid (Blk.new x1 9 #[.string (Mz.sent m)])
           have S2 := Lib.hid (S1.out.keep (boxed x1 (.cells #[.string (Mz.sent m)] 9)))
           obtain ⟨zs, hz⟩ : ∃ z, x1.heap.size = z := ⟨_, rfl⟩
           rw [hz] at HD ⊢
           generalize World.alloc _ _ = x2 at HD S2 ⊢
           clear S1 hz
           refine anyB_one (i := 1) (by kernel_rfl) rfl (fun K hK => ?_)
           have y := S2.out.box.cell_ 0 _ rfl
           go_simp
           refine hK.out _ _ (fun _ => (Below.refl _ _)) ?_
           clear hK K
           clear y
           generalize hx : x2 = x3 at S2 ⊢
           have S3 := S2
           try rw [hx] at HD
           clear S2 hx
           obtain ⟨i0, hi0, hz0, hz1, hz2⟩ := info_parts str_info
           have HSE := Lib.hid S3.out.sent
           have HBS := Lib.hid S3.out.ro.bel.size
           refine anyB_one (i := 10) (by kernel_rfl) rfl (fun K hK => ?_)
           rw [if_pos (by rfl)]
           refine wp_append_o _ _ _ _ rfl w.heap.size 9 i0 _ 1 16 Tryz.underlying25 hi0 hz0 hz1 hz2 rfl (by decide) (.slice As m ks) m _ rfl HSE.out x3.heap.size (some ⟨zs, 0, none⟩) 1 1 [.string (Mz.sent m)] rfl (reads_one HD.out rfl) (by intro u hu; simp only [List.mem_cons, List.not_mem_nil, or_false] at hu; subst hu; rfl) (le_maxLen (by omega)) (by omega) HBS.out ?_
           intro v' x4 ho hg hn
           refine hK.out _ _ (fun h => absurd (by decide) h) ?_
           clear hK K
           obtain ⟨A7, k7, e7, _⟩ := ho.form
           have ad := S3.out.add ho hg
           subst e7
           have y0 := ad.2.1
           have fp := ad.2.2
           have S4 := Lib.hid ad.1
           clear ad ho hg hn hi0 hz0 hz1 hz2 HD HSE HBS S3
           refine anyB_seg [11] 1 rfl (by kernel_rfl) (by kernel_rfl) (by kernel_rfl) (fun _ _ d _ _ h => by cases d <;> exact h) ?_
           simp only [pickOps, List.getElem?_toArray, List.getElem?_cons_zero, List.getElem?_cons_succ]
           go_wp2_with fail
           refine ⟨rfl, by rfl, ?_⟩
           refine anyB_one (i := 12) (by kernel_rfl) rfl (fun K hK => ?_)
           go_simp
           refine hK.out _ _ (fun h => absurd (by decide) h) ?_
           clear hK K
           refine anyB_done (by kernel_rfl) ?_ _
           clear y0 fp
           generalize World.setCell _ _ _ = x9 at S4 ⊢
           go_wp2_with fail
           go_roundw
           case rel => exact ⟨m + 1, by omega, by go_num, Lib.hid ⟨_, S4.out⟩⟩
           case measure => simp [intOf]; omega

        ·obtain rfl : m = 6 := by omega
         go_wp2_with fail
         go_meet
         exact HE.out
      case rest =>
       obtain ⟨vs, es⟩ := hcut
       obtain ⟨As, ks, e5, _⟩ := es.sent.form
       subst e5
       obtain ⟨Ad, kd, ed, _⟩ := es.deeds.form
       obtain ⟨Aw, kw, ew⟩ := es.rows.form
       obtain ⟨nd2, hnd2⟩ : ∃ n, Mz.deeds.length = n := ⟨_, rfl⟩
       obtain ⟨nw2, hnw2⟩ : ∃ n, Mz.w.rows.length = n := ⟨_, rfl⟩
       have ed : V3.deeds = .slice Ad nd2 kd := by rw [← hnd2]; exact ed
       rw [hnw2] at ew
       subst ew
       have y0 := es.box.cell_ 0 _ rfl
       have y1 := es.box.cell_ 1 _ rfl
       have y2 := es.box.cell_ 2 _ rfl
       rw [ed] at y1
       have c0 := es.ro.out.cell_ 0 _ rfl
       have c1 := es.ro.out.cell_ 1 _ rfl
       have c2 := es.ro.out.cell_ 2 _ rfl
       have fr := es.ro.out.frozen
       have nz := es.ne
       have nz2 : w.heap.size + 1 ≠ z13 := fun e => nz e.symm
       have HES := Lib.hid es
       have HED := Lib.hid ed
       clear es ed hnd2 hnw2 E0
       go_wp2_with fail
       have k : ∀ t, 29 ≠ t → Keeps t wc (((wc.setCell ⟨w.heap.size + 1, 0, none⟩ (.slice As 6 ks)).setCell ⟨w.heap.size + 1, 1, none⟩ (.slice Ad nd2 kd)).setCell ⟨w.heap.size + 1, 2, none⟩ (.slice Aw nw2 kw)) := fun t ht =>
        ((Keeps.set_ (p := ⟨w.heap.size + 1, 0, none⟩) (show wc.heap[w.heap.size + 1]? = _ from HES.out.ro.out) ht _).trans (Keeps.set_ (p := ⟨w.heap.size + 1, 1, none⟩) (HES.out.ro.out.set_ 0 _) ht _)).trans (Keeps.set_ (p := ⟨w.heap.size + 1, 2, none⟩) ((HES.out.ro.out.set_ 0 _).set_ 1 _) ht _)
       have B := ((HES.out.ro.out.set_ 0 (.slice As 6 ks)).set_ 1 (.slice Ad nd2 kd)).set_ 2 (.slice Aw nw2 kw)
       have t0 := B.cell_ 0 _ rfl
       have t1 := B.cell_ 1 _ rfl
       have t2 := B.cell_ 2 _ rfl
       have HB := Lib.hid ((((HES.out.ro.bel.setCell (p := ⟨w.heap.size + 1, 0, none⟩) (Nat.le_succ _) (.slice As 6 ks)).setCell (p := ⟨w.heap.size + 1, 1, none⟩) (Nat.le_succ _) (.slice Ad nd2 kd)).setCell (p := ⟨w.heap.size + 1, 2, none⟩) (Nat.le_succ _) (.slice Aw nw2 kw)))
       have hd := HES.out.deeds
       rw [HED.out] at hd
       have HO := Lib.hid (show OutR (((wc.setCell ⟨w.heap.size + 1, 0, none⟩ (.slice As 6 ks)).setCell ⟨w.heap.size + 1, 1, none⟩ (.slice Ad nd2 kd)).setCell ⟨w.heap.size + 1, 2, none⟩ (.slice Aw nw2 kw)) w.heap.size (.slice As 6 ks) (.slice Ad nd2 kd) (.slice Aw nw2 kw) (outM mode n l) from ⟨by
        have hs := HES.out.sent.ofKeeps (k _ (by decide))
        rw [← HMZ.out] at hs
        unfold outM
        rw [List.map_map]
        exact hs, by
        have hs := hd.ofKeeps (k _ (by decide))
        rw [← HMZ.out] at hs
        exact hs, by
        have hs := HES.out.rows.keeps (k _ (by decide))
        rw [← HMZ.out] at hs
        exact hs⟩)
       clear k B hd
       refine bodyPost_ret (v := .tuple #[.agg #[.slice As 6 ks, .slice Ad nd2 kd, .slice Aw nw2 kw], .int .i64 0]) ?_ rfl ⟨_, _, _, rfl, ?_, ?_⟩
       ·simp [results, Tryz.results12, go_sem, t0, t1, t2]
       ·exact HO.out
       ·exact HB.out
end Go.Proofs.YtjbnfigpflambacGreatDoor
