/- (pool).do: its walk. slices.Equal on pairs that are the same. slices.Equal on pairs: whether they are the same. (pool).free: its walk. -/
import Derived.Test.YtjbnfigpflambacGreatDoorG06
import Derived.Test.YtjbnfigpflambacGreatDoorG09
import Derived.Test.YtjbnfigpflambacGreatDoorG19
import Derived.Test.YtjbnfigpflambacGreatDoorG23
/- (pool).do: its walk. -/
namespace Go.Proofs.YtjbnfigpflambacGreatDoor
open Go.ChangeShapes Go.WideShapes Go.ChangeAt Go.RowKit
structure TabB (w : World) (B : Nat) : Prop where
 tabs : Tabs w
 l1 : 0 < B
 l2 : 1 < B
theorem TabB.start {w : World} (h : Tabs w) : TabB w w.heap.size := by
 obtain ⟨m, hm⟩ := h.maxLen
 exact ⟨h, World.block_lt_of_cell? w _ (h.words 0 (by decide)), World.block_lt_of_cell? w _ hm⟩
theorem TabB.bel {w w' : World} {B : Nat} (h : TabB w B) (hb : Below B w w') : TabB w' B := by
 refine ⟨⟨fun i hi => ?_, ?_⟩, h.l1, h.l2⟩
 ·exact (hb.cell (by exact h.l1)).trans (h.tabs.words i hi)
 ·obtain ⟨m, hm⟩ := h.tabs.maxLen
  exact ⟨m, (hb.cell (by exact h.l2)).trans hm⟩
theorem PoolO.leB {w : World} {B p : Nat} {V : PV} {ks : List KV} {M : MV} (h : PoolO w B p V ks M) : B ≤ w.heap.size := by
 obtain ⟨cs, hb⟩ := h.blk
 exact Nat.le_of_lt (Nat.lt_of_le_of_lt h.lb hb.lt)
theorem TabB.turn {w w' : World} {B p : Nat} {V V' : PV} {ks : List KV} {M : MV} (h : TabB w B) (r : PoolO w B p V ks M) (t : Turn p w V w' V') : TabB w' B := h.bel (t.bel r.leB fun _ hk => (r.lt hk).1)
theorem TabB.below {w w' : World} {B : Nat} (h : TabB w B) (hB : B ≤ w.heap.size) (hb : Below w.heap.size w w') : TabB w' B := h.bel (hb.mono hB)
theorem PoolR.wl {w : World} {B p : Nat} {V : PV} {ks : List KV} {M : MV} (h : PoolR w B p V ks M) (h8 : M.w.ses.length ≤ 1000) {u : World} (hb : Below w.heap.size w u) : WL u u.heap.size V.rows V.ses M.w := by
 obtain ⟨cs, o2⟩ := h.o.ses
 exact ⟨(h.o.rows.keeps (.of_below hb)).pl, (osl_keeps o2 (.of_below hb) (.of_below hb)).sl (by omega)⟩
theorem PoolR.kp {w : World} {B p : Nat} {V : PV} {ks : List KV} {M : MV} (h : PoolR w B p V ks M) (j : Nat) (x : Value) {t : TypeId} (ht : ∀ r : Role, r.ty ≠ t) : Keeps t w (w.setCell ⟨p, j, none⟩ x) := by
 obtain ⟨cs, hb, _⟩ := h.b.blk
 exact Keeps.set_ (p := ⟨p, j, none⟩) (show w.heap[p]? = some (.cells cs 101 (0, 0)) from hb) (ht .pool) x
def poR (W : Wo) (s : Int) (x : St) : Wo × An := if doE W s x = 0 then doW W s.toNat x else (W, ⟨4, tLost, 0⟩)
set_option maxHeartbeats 4000000 in
set_option maxRecDepth 100000 in
theorem pdo_any (w : World) (B p : Nat) (V : PV) (ks : List KV) (M : MV) (h : PoolR w B p V ks M) (hT : TabB w B) (s : Int) (hs : (Lit.int .i64 s).wf = true) (x : St) (hx : x.key.size ≤ maxLen ∧ x.val.size ≤ maxLen) (h8 : M.w.ses.length ≤ 1000) :
  Calls Tryz.prog 70 #[.pointer (some ⟨p, 0, none⟩), .int .i64 s, .agg #[.int .i64 x.k, .string x.key, .string x.val]] w
   fun e w' => e = .returned (anV (poR M.w s x).2) ∧ Done w B p V { M with w := (poR M.w s x).1 } w' := by
 obtain ⟨xk, key, val⟩ := x
 obtain ⟨Rz, hRz⟩ : ∃ R, poR M.w s ⟨xk, key, val⟩ = R := ⟨_, rfl⟩
 rw [hRz]
 have HRZ := Lib.hid hRz
 have HX := Lib.hid hx
 have HT := Lib.hid hT
 have H8 := Lib.hid h8
 have HI := Lib.hid hs
 have HR := Lib.hid h
 obtain ⟨q, hq⟩ : ∃ q, w.heap.size = q := ⟨_, rfl⟩
 have HQ := Lib.hid hq
 have hp := h.b.lt
 have HP := Lib.hid hp
 clear hRz hx hs hT h8 h hp
 go_enter Tryz.func70, Tryz.ntmps70
 go_upto_region 1 with fail
 have r1 := HR.out.below (boxed2 w (.cells #[.int .i64 xk, .string key, .string val] 41) (.cells #[.int .i64 0, .string ⟨#[]⟩, .int .i64 0] 46))
 have tb1 := HT.out.below HR.out.o.leB (boxed2 w (.cells #[.int .i64 xk, .string key, .string val] 41) (.cells #[.int .i64 0, .string ⟨#[]⟩, .int .i64 0] 46))
 have T1 := Lib.hid ((Turn.refl p w V).below (boxed2 w (.cells #[.int .i64 xk, .string key, .string val] 41) (.cells #[.int .i64 0, .string ⟨#[]⟩, .int .i64 0] 46)))
 have bx := (Blk.new w 41 #[.int .i64 xk, .string key, .string val]).alloc (.cells #[.int .i64 0, .string ⟨#[]⟩, .int .i64 0] 46)
 have ba := Blk.new1 w (.cells #[.int .i64 xk, .string key, .string val] 41) 46 #[.int .i64 0, .string ⟨#[]⟩, .int .i64 0]
 rw [hq] at bx ba
 obtain ⟨A0, k0, e0⟩ := HR.out.o.rows.form
 obtain ⟨A9, k9, e9⟩ : ∃ A k, V.ses = .slice A M.w.ses.length k := by
  obtain ⟨cs, o⟩ := HR.out.o.ses
  exact own_slice o.own
 have hqp1 : q + 1 ≠ p := by have := HP.out; omega
 clear hq
 generalize World.alloc _ _ = x1 at r1 tb1 T1 bx ba ⊢
 have R1 := Lib.hid r1
 have TB1 := Lib.hid tb1
 have BA := Lib.hid ba
 have b0 := bx.cell_ 0 _ rfl
 have b1 := bx.cell_ 1 _ rfl
 have b2 := bx.cell_ 2 _ rfl
 have y2 : x1.cell? ⟨p, 2, none⟩ = some V.rows := r1.b.cell (j := 2) (by decide)
 have y3 : x1.cell? ⟨p, 3, none⟩ = some V.ses := r1.b.cell (j := 3) (by decide)
 rw [e0] at y2
 rw [e9] at y3
 have HE0 := Lib.hid e0
 have HE9 := Lib.hid e9
 clear r1 tb1 bx ba e0 e9
 obtain ⟨Rd, hRd⟩ : ∃ R, doR M.w s ⟨xk, key, val⟩ = R := ⟨_, rfl⟩
 obtain ⟨er, her⟩ : ∃ e, doE M.w s ⟨xk, key, val⟩ = e := ⟨_, rfl⟩
 obtain ⟨Wd, aN⟩ := Rd
 have HD := Lib.hid hRd
 have HE := Lib.hid her
 clear hRd her
 go_cut [7, 8, 9] (fun p7 p8 e wc => ∃ z7 z8 r s', p7 = .pointer (some ⟨z7, 0, none⟩) ∧ p8 = .pointer (some ⟨z8, 0, none⟩) ∧ e = .int .i64 er ∧ DoN B x1 wc z7 z8 r s' Wd aN)
 case first =>
  refine region_segs [13, 14] (by kernel_rfl) ?_
  refine anyB_seg [0, 1, 2, 3, 4, 5] 10 rfl (by kernel_rfl) (by kernel_rfl) (by kernel_rfl) (fun _ _ d _ _ h => by cases d <;> exact h) ?_
  simp only [pickOps, List.getElem?_toArray, List.getElem?_cons_zero, List.getElem?_cons_succ]
  go_wp2_with fail
  refine ⟨rfl, by rfl, ?_⟩
  have S0 := Lib.hid ((DoS.start B x1).keep (Below.refl _ _).drew)
  have HWL : Hid (∀ u, Below x1.heap.size x1 u → WL u u.heap.size (.slice A0 M.w.rows.length k0) (.slice A9 M.w.ses.length k9) M.w) := Lib.hid (fun u hb => by rw [← HE0.out, ← HE9.out]; exact R1.out.wl H8.out hb)
  have HTB : Hid (∀ u, Below x1.heap.size x1 u → Tabs u) := Lib.hid (fun u hb => (TB1.out.below R1.out.o.leB hb).tabs)
  have HB := Lib.hid R1.out.o.leB
  obtain ⟨aK, aT, aS⟩ := aN
  clear b0 b1 b2 y2 y3
  generalize x1.drew = x0 at S0 ⊢
  refine anyB_three (i := 6) (j := 11) (k := 12) (by kernel_rfl) rfl rfl rfl (fun K hK => ?_) (fun K hK => ?_) (fun K hK => ?_)
  ·go_simp
   refine (do_world _ _ _ M.w _ ⟨xk, key, val⟩ (HTB.out _ S0.out.hb) (HWL.out _ S0.out.hb) HI.out HX.out.1 HX.out.2).mono ?_
   rintro e x1 ⟨r', s', cs', rfl, o1, o2, b⟩
   refine hK.out _ _ (fun _ => b) ?_
   clear hK K
   rw [HD.out] at o1 o2 ⊢
   rw [HE.out]
   obtain ⟨A1, k1, rfl⟩ := o1.form
   obtain ⟨A2, k2, rfl⟩ := own_slice o2.own
   have S1 := Lib.hid (S0.out.did (Nat.le_trans HB.out S0.out.hb.size) o1 o2 b)
   clear b S0 o1 o2
   unfold anV
   refine anyB_seg [7, 8, 9, 10] 5 rfl (by kernel_rfl) (by kernel_rfl) (by kernel_rfl) (fun _ _ d _ _ h => by cases d <;> exact h) ?_
   simp only [pickOps, List.getElem?_toArray, List.getElem?_cons_zero, List.getElem?_cons_succ]
   go_wp2_with fail
   refine ⟨rfl, by rfl, ?_⟩
   refine anyB_two (i := 11) (j := 12) (by kernel_rfl) rfl rfl (fun K hK => ?_) (fun K hK => ?_)
   ·go_simp
    refine hK.out _ _ (fun _ => (boxed _ _)) ?_
    clear hK K
    have S2 := Lib.hid S1.out.f12
    obtain ⟨z7, hz⟩ : ∃ z, x1.heap.size = z := ⟨_, rfl⟩
    rw [hz] at S2 ⊢
    generalize World.alloc _ _ = x2 at S2 ⊢
    clear S1 hz
    refine anyB_one (i := 12) (by kernel_rfl) rfl (fun K hK => ?_)
    go_simp
    refine hK.out _ _ (fun _ => (boxed _ _)) ?_
    clear hK K
    have S3 := Lib.hid S2.out.f13
    obtain ⟨z8, hz⟩ : ∃ z, x2.heap.size = z := ⟨_, rfl⟩
    rw [hz] at S3 ⊢
    generalize World.alloc _ _ = x3 at S3 ⊢
    clear S2 hz
    obtain ⟨b12, l12⟩ := S3.out.b12 _ rfl
    obtain ⟨b13, l13⟩ := S3.out.b13 _ rfl
    have n12 : ¬ (z8 = z7) := b13.ne_ b12 (by decide)
    have f0 := b12.cell_ 0 _ rfl
    have f1 := b12.cell_ 1 _ rfl
    have f2 := b13.cell_ 0 _ rfl
    have f3 := b13.cell_ 1 _ rfl
    have f4 := b13.cell_ 2 _ rfl
    have ff := b12.frozen
    have fg := b13.frozen
    clear b12 b13 l12 l13
    refine anyB_one (i := 13) (by kernel_rfl) rfl (fun K hK => ?_)
    go_simp
    refine hK.out _ _ (fun h => absurd (by decide) h) ?_
    clear hK K
    refine anyB_one (i := 14) (by kernel_rfl) rfl (fun K hK => ?_)
    go_simp
    refine hK.out _ _ (fun h => absurd (by decide) h) ?_
    clear hK K
    refine anyB_seg [15] 0 rfl (by kernel_rfl) (by kernel_rfl) (by kernel_rfl) (fun _ _ d _ _ h => by cases d <;> exact h) ?_
    simp only [pickOps, List.getElem?_toArray, List.getElem?_cons_zero, List.getElem?_cons_succ]
    go_wp2_with fail
    refine ⟨rfl, by rfl, ?_⟩
    refine anyB_done (by kernel_rfl) ?_ _
    have FN := Lib.hid (S3.out.fin (a := ⟨aK, aT, aS⟩) rfl)
    clear f0 f1 f2 f3 f4 ff fg n12
    generalize World.setCell _ _ _ = x9 at FN ⊢
    go_wp2_with fail
    go_meet
    exact ⟨z7, z8, _, _, rfl, rfl, rfl, FN.out⟩
   ·go_simp
    refine hK.out _ _ (fun _ => (boxed _ _)) ?_
    clear hK K
    have S2 := Lib.hid S1.out.f13
    obtain ⟨z8, hz⟩ : ∃ z, x1.heap.size = z := ⟨_, rfl⟩
    rw [hz] at S2 ⊢
    generalize World.alloc _ _ = x2 at S2 ⊢
    clear S1 hz
    refine anyB_one (i := 11) (by kernel_rfl) rfl (fun K hK => ?_)
    go_simp
    refine hK.out _ _ (fun _ => (boxed _ _)) ?_
    clear hK K
    have S3 := Lib.hid S2.out.f12
    obtain ⟨z7, hz⟩ : ∃ z, x2.heap.size = z := ⟨_, rfl⟩
    rw [hz] at S3 ⊢
    generalize World.alloc _ _ = x3 at S3 ⊢
    clear S2 hz
    obtain ⟨b12, l12⟩ := S3.out.b12 _ rfl
    obtain ⟨b13, l13⟩ := S3.out.b13 _ rfl
    have n12 : ¬ (z8 = z7) := b13.ne_ b12 (by decide)
    have f0 := b12.cell_ 0 _ rfl
    have f1 := b12.cell_ 1 _ rfl
    have f2 := b13.cell_ 0 _ rfl
    have f3 := b13.cell_ 1 _ rfl
    have f4 := b13.cell_ 2 _ rfl
    have ff := b12.frozen
    have fg := b13.frozen
    clear b12 b13 l12 l13
    refine anyB_one (i := 13) (by kernel_rfl) rfl (fun K hK => ?_)
    go_simp
    refine hK.out _ _ (fun h => absurd (by decide) h) ?_
    clear hK K
    refine anyB_one (i := 14) (by kernel_rfl) rfl (fun K hK => ?_)
    go_simp
    refine hK.out _ _ (fun h => absurd (by decide) h) ?_
    clear hK K
    refine anyB_seg [15] 0 rfl (by kernel_rfl) (by kernel_rfl) (by kernel_rfl) (fun _ _ d _ _ h => by cases d <;> exact h) ?_
    simp only [pickOps, List.getElem?_toArray, List.getElem?_cons_zero, List.getElem?_cons_succ]
    go_wp2_with fail
    refine ⟨rfl, by rfl, ?_⟩
    refine anyB_done (by kernel_rfl) ?_ _
    have FN := Lib.hid (S3.out.fin (a := ⟨aK, aT, aS⟩) rfl)
    clear f0 f1 f2 f3 f4 ff fg n12
    generalize World.setCell _ _ _ = x9 at FN ⊢
    go_wp2_with fail
    go_meet
    exact ⟨z7, z8, _, _, rfl, rfl, rfl, FN.out⟩
  ·go_simp
   refine hK.out _ _ (fun _ => (boxed _ _)) ?_
   clear hK K
   have S1 := Lib.hid S0.out.f12
   obtain ⟨z7, hz⟩ : ∃ z, x0.heap.size = z := ⟨_, rfl⟩
   rw [hz] at S1 ⊢
   generalize World.alloc _ _ = x1 at S1 ⊢
   clear S0 hz
   refine anyB_two (i := 6) (j := 12) (by kernel_rfl) rfl rfl (fun K hK => ?_) (fun K hK => ?_)
   ·go_simp
    refine (do_world _ _ _ M.w _ ⟨xk, key, val⟩ (HTB.out _ S1.out.hb) (HWL.out _ S1.out.hb) HI.out HX.out.1 HX.out.2).mono ?_
    rintro e x2 ⟨r', s', cs', rfl, o1, o2, b⟩
    refine hK.out _ _ (fun _ => b) ?_
    clear hK K
    rw [HD.out] at o1 o2 ⊢
    rw [HE.out]
    obtain ⟨A1, k1, rfl⟩ := o1.form
    obtain ⟨A2, k2, rfl⟩ := own_slice o2.own
    have S2 := Lib.hid (S1.out.did (Nat.le_trans HB.out S1.out.hb.size) o1 o2 b)
    clear b S1 o1 o2
    unfold anV
    refine anyB_seg [7, 8, 9, 10] 4 rfl (by kernel_rfl) (by kernel_rfl) (by kernel_rfl) (fun _ _ d _ _ h => by cases d <;> exact h) ?_
    simp only [pickOps, List.getElem?_toArray, List.getElem?_cons_zero, List.getElem?_cons_succ]
    go_wp2_with fail
    refine ⟨rfl, by rfl, ?_⟩
    refine anyB_one (i := 12) (by kernel_rfl) rfl (fun K hK => ?_)
    go_simp
    refine hK.out _ _ (fun _ => (boxed _ _)) ?_
    clear hK K
    have S3 := Lib.hid S2.out.f13
    obtain ⟨z8, hz⟩ : ∃ z, x2.heap.size = z := ⟨_, rfl⟩
    rw [hz] at S3 ⊢
    generalize World.alloc _ _ = x3 at S3 ⊢
    clear S2 hz
    obtain ⟨b12, l12⟩ := S3.out.b12 _ rfl
    obtain ⟨b13, l13⟩ := S3.out.b13 _ rfl
    have n12 : ¬ (z8 = z7) := b13.ne_ b12 (by decide)
    have f0 := b12.cell_ 0 _ rfl
    have f1 := b12.cell_ 1 _ rfl
    have f2 := b13.cell_ 0 _ rfl
    have f3 := b13.cell_ 1 _ rfl
    have f4 := b13.cell_ 2 _ rfl
    have ff := b12.frozen
    have fg := b13.frozen
    clear b12 b13 l12 l13
    refine anyB_one (i := 13) (by kernel_rfl) rfl (fun K hK => ?_)
    go_simp
    refine hK.out _ _ (fun h => absurd (by decide) h) ?_
    clear hK K
    refine anyB_one (i := 14) (by kernel_rfl) rfl (fun K hK => ?_)
    go_simp
    refine hK.out _ _ (fun h => absurd (by decide) h) ?_
    clear hK K
    refine anyB_seg [15] 0 rfl (by kernel_rfl) (by kernel_rfl) (by kernel_rfl) (fun _ _ d _ _ h => by cases d <;> exact h) ?_
    simp only [pickOps, List.getElem?_toArray, List.getElem?_cons_zero, List.getElem?_cons_succ]
    go_wp2_with fail
    refine ⟨rfl, by rfl, ?_⟩
    refine anyB_done (by kernel_rfl) ?_ _
    have FN := Lib.hid (S3.out.fin (a := ⟨aK, aT, aS⟩) rfl)
    clear f0 f1 f2 f3 f4 ff fg n12
    generalize World.setCell _ _ _ = x9 at FN ⊢
    go_wp2_with fail
    go_meet
    exact ⟨z7, z8, _, _, rfl, rfl, rfl, FN.out⟩
   ·go_simp
    refine hK.out _ _ (fun _ => (boxed _ _)) ?_
    clear hK K
    have S2 := Lib.hid S1.out.f13
    obtain ⟨z8, hz⟩ : ∃ z, x1.heap.size = z := ⟨_, rfl⟩
    rw [hz] at S2 ⊢
    generalize World.alloc _ _ = x2 at S2 ⊢
    clear S1 hz
    refine anyB_one (i := 6) (by kernel_rfl) rfl (fun K hK => ?_)
    go_simp
    refine (do_world _ _ _ M.w _ ⟨xk, key, val⟩ (HTB.out _ S2.out.hb) (HWL.out _ S2.out.hb) HI.out HX.out.1 HX.out.2).mono ?_
    rintro e x3 ⟨r', s', cs', rfl, o1, o2, b⟩
    refine hK.out _ _ (fun _ => b) ?_
    clear hK K
    rw [HD.out] at o1 o2 ⊢
    rw [HE.out]
    obtain ⟨A1, k1, rfl⟩ := o1.form
    obtain ⟨A2, k2, rfl⟩ := own_slice o2.own
    have S3 := Lib.hid (S2.out.did (Nat.le_trans HB.out S2.out.hb.size) o1 o2 b)
    clear b S2 o1 o2
    unfold anV
    refine anyB_seg [7, 8, 9, 10] 3 rfl (by kernel_rfl) (by kernel_rfl) (by kernel_rfl) (fun _ _ d _ _ h => by cases d <;> exact h) ?_
    simp only [pickOps, List.getElem?_toArray, List.getElem?_cons_zero, List.getElem?_cons_succ]
    go_wp2_with fail
    refine ⟨rfl, by rfl, ?_⟩
    obtain ⟨b12, l12⟩ := S3.out.b12 _ rfl
    obtain ⟨b13, l13⟩ := S3.out.b13 _ rfl
    have n12 : ¬ (z8 = z7) := b13.ne_ b12 (by decide)
    have f0 := b12.cell_ 0 _ rfl
    have f1 := b12.cell_ 1 _ rfl
    have f2 := b13.cell_ 0 _ rfl
    have f3 := b13.cell_ 1 _ rfl
    have f4 := b13.cell_ 2 _ rfl
    have ff := b12.frozen
    have fg := b13.frozen
    clear b12 b13 l12 l13
    refine anyB_one (i := 13) (by kernel_rfl) rfl (fun K hK => ?_)
    go_simp
    refine hK.out _ _ (fun h => absurd (by decide) h) ?_
    clear hK K
    refine anyB_one (i := 14) (by kernel_rfl) rfl (fun K hK => ?_)
    go_simp
    refine hK.out _ _ (fun h => absurd (by decide) h) ?_
    clear hK K
    refine anyB_seg [15] 0 rfl (by kernel_rfl) (by kernel_rfl) (by kernel_rfl) (fun _ _ d _ _ h => by cases d <;> exact h) ?_
    simp only [pickOps, List.getElem?_toArray, List.getElem?_cons_zero, List.getElem?_cons_succ]
    go_wp2_with fail
    refine ⟨rfl, by rfl, ?_⟩
    refine anyB_done (by kernel_rfl) ?_ _
    have FN := Lib.hid (S3.out.fin (a := ⟨aK, aT, aS⟩) rfl)
    clear f0 f1 f2 f3 f4 ff fg n12
    generalize World.setCell _ _ _ = x9 at FN ⊢
    go_wp2_with fail
    go_meet
    exact ⟨z7, z8, _, _, rfl, rfl, rfl, FN.out⟩
  ·go_simp
   refine hK.out _ _ (fun _ => (boxed _ _)) ?_
   clear hK K
   have S1 := Lib.hid S0.out.f13
   obtain ⟨z8, hz⟩ : ∃ z, x0.heap.size = z := ⟨_, rfl⟩
   rw [hz] at S1 ⊢
   generalize World.alloc _ _ = x1 at S1 ⊢
   clear S0 hz
   refine anyB_two (i := 6) (j := 11) (by kernel_rfl) rfl rfl (fun K hK => ?_) (fun K hK => ?_)
   ·go_simp
    refine (do_world _ _ _ M.w _ ⟨xk, key, val⟩ (HTB.out _ S1.out.hb) (HWL.out _ S1.out.hb) HI.out HX.out.1 HX.out.2).mono ?_
    rintro e x2 ⟨r', s', cs', rfl, o1, o2, b⟩
    refine hK.out _ _ (fun _ => b) ?_
    clear hK K
    rw [HD.out] at o1 o2 ⊢
    rw [HE.out]
    obtain ⟨A1, k1, rfl⟩ := o1.form
    obtain ⟨A2, k2, rfl⟩ := own_slice o2.own
    have S2 := Lib.hid (S1.out.did (Nat.le_trans HB.out S1.out.hb.size) o1 o2 b)
    clear b S1 o1 o2
    unfold anV
    refine anyB_seg [7, 8, 9, 10] 4 rfl (by kernel_rfl) (by kernel_rfl) (by kernel_rfl) (fun _ _ d _ _ h => by cases d <;> exact h) ?_
    simp only [pickOps, List.getElem?_toArray, List.getElem?_cons_zero, List.getElem?_cons_succ]
    go_wp2_with fail
    refine ⟨rfl, by rfl, ?_⟩
    refine anyB_one (i := 11) (by kernel_rfl) rfl (fun K hK => ?_)
    go_simp
    refine hK.out _ _ (fun _ => (boxed _ _)) ?_
    clear hK K
    have S3 := Lib.hid S2.out.f12
    obtain ⟨z7, hz⟩ : ∃ z, x2.heap.size = z := ⟨_, rfl⟩
    rw [hz] at S3 ⊢
    generalize World.alloc _ _ = x3 at S3 ⊢
    clear S2 hz
    obtain ⟨b12, l12⟩ := S3.out.b12 _ rfl
    obtain ⟨b13, l13⟩ := S3.out.b13 _ rfl
    have n12 : ¬ (z8 = z7) := b13.ne_ b12 (by decide)
    have f0 := b12.cell_ 0 _ rfl
    have f1 := b12.cell_ 1 _ rfl
    have f2 := b13.cell_ 0 _ rfl
    have f3 := b13.cell_ 1 _ rfl
    have f4 := b13.cell_ 2 _ rfl
    have ff := b12.frozen
    have fg := b13.frozen
    clear b12 b13 l12 l13
    refine anyB_one (i := 13) (by kernel_rfl) rfl (fun K hK => ?_)
    go_simp
    refine hK.out _ _ (fun h => absurd (by decide) h) ?_
    clear hK K
    refine anyB_one (i := 14) (by kernel_rfl) rfl (fun K hK => ?_)
    go_simp
    refine hK.out _ _ (fun h => absurd (by decide) h) ?_
    clear hK K
    refine anyB_seg [15] 0 rfl (by kernel_rfl) (by kernel_rfl) (by kernel_rfl) (fun _ _ d _ _ h => by cases d <;> exact h) ?_
    simp only [pickOps, List.getElem?_toArray, List.getElem?_cons_zero, List.getElem?_cons_succ]
    go_wp2_with fail
    refine ⟨rfl, by rfl, ?_⟩
    refine anyB_done (by kernel_rfl) ?_ _
    have FN := Lib.hid (S3.out.fin (a := ⟨aK, aT, aS⟩) rfl)
    clear f0 f1 f2 f3 f4 ff fg n12
    generalize World.setCell _ _ _ = x9 at FN ⊢
    go_wp2_with fail
    go_meet
    exact ⟨z7, z8, _, _, rfl, rfl, rfl, FN.out⟩
   ·go_simp
    refine hK.out _ _ (fun _ => (boxed _ _)) ?_
    clear hK K
    have S2 := Lib.hid S1.out.f12
    obtain ⟨z7, hz⟩ : ∃ z, x1.heap.size = z := ⟨_, rfl⟩
    rw [hz] at S2 ⊢
    generalize World.alloc _ _ = x2 at S2 ⊢
    clear S1 hz
    refine anyB_one (i := 6) (by kernel_rfl) rfl (fun K hK => ?_)
    go_simp
    refine (do_world _ _ _ M.w _ ⟨xk, key, val⟩ (HTB.out _ S2.out.hb) (HWL.out _ S2.out.hb) HI.out HX.out.1 HX.out.2).mono ?_
    rintro e x3 ⟨r', s', cs', rfl, o1, o2, b⟩
    refine hK.out _ _ (fun _ => b) ?_
    clear hK K
    rw [HD.out] at o1 o2 ⊢
    rw [HE.out]
    obtain ⟨A1, k1, rfl⟩ := o1.form
    obtain ⟨A2, k2, rfl⟩ := own_slice o2.own
    have S3 := Lib.hid (S2.out.did (Nat.le_trans HB.out S2.out.hb.size) o1 o2 b)
    clear b S2 o1 o2
    unfold anV
    refine anyB_seg [7, 8, 9, 10] 3 rfl (by kernel_rfl) (by kernel_rfl) (by kernel_rfl) (fun _ _ d _ _ h => by cases d <;> exact h) ?_
    simp only [pickOps, List.getElem?_toArray, List.getElem?_cons_zero, List.getElem?_cons_succ]
    go_wp2_with fail
    refine ⟨rfl, by rfl, ?_⟩
    obtain ⟨b12, l12⟩ := S3.out.b12 _ rfl
    obtain ⟨b13, l13⟩ := S3.out.b13 _ rfl
    have n12 : ¬ (z8 = z7) := b13.ne_ b12 (by decide)
    have f0 := b12.cell_ 0 _ rfl
    have f1 := b12.cell_ 1 _ rfl
    have f2 := b13.cell_ 0 _ rfl
    have f3 := b13.cell_ 1 _ rfl
    have f4 := b13.cell_ 2 _ rfl
    have ff := b12.frozen
    have fg := b13.frozen
    clear b12 b13 l12 l13
    refine anyB_one (i := 13) (by kernel_rfl) rfl (fun K hK => ?_)
    go_simp
    refine hK.out _ _ (fun h => absurd (by decide) h) ?_
    clear hK K
    refine anyB_one (i := 14) (by kernel_rfl) rfl (fun K hK => ?_)
    go_simp
    refine hK.out _ _ (fun h => absurd (by decide) h) ?_
    clear hK K
    refine anyB_seg [15] 0 rfl (by kernel_rfl) (by kernel_rfl) (by kernel_rfl) (fun _ _ d _ _ h => by cases d <;> exact h) ?_
    simp only [pickOps, List.getElem?_toArray, List.getElem?_cons_zero, List.getElem?_cons_succ]
    go_wp2_with fail
    refine ⟨rfl, by rfl, ?_⟩
    refine anyB_done (by kernel_rfl) ?_ _
    have FN := Lib.hid (S3.out.fin (a := ⟨aK, aT, aS⟩) rfl)
    clear f0 f1 f2 f3 f4 ff fg n12
    generalize World.setCell _ _ _ = x9 at FN ⊢
    go_wp2_with fail
    go_meet
    exact ⟨z7, z8, _, _, rfl, rfl, rfl, FN.out⟩

 case rest =>
  obtain ⟨z7, z8, r, s', rfl, rfl, rfl, FN⟩ := hcut
  have r2 := R1.out.below FN.hb
  have t2 := T1.out.below FN.hb
  have ba := BA.out.keep FN.hb
  have a0 := ba.cell_ 0 _ rfl
  have a1 := ba.cell_ 1 _ rfl
  have a2 := ba.cell_ 2 _ rfl
  have af := ba.frozen
  clear b0 b1 b2 y2 y3
  obtain ⟨aK, aT, aS⟩ := aN
  by_cases he : er = 0
  ·subst he
   obtain ⟨A1, k1, rfl⟩ := FN.rows.form
   obtain ⟨cs2, o2⟩ := FN.ses
   obtain ⟨A2, k2, rfl⟩ := own_slice o2.own
   have c0 := FN.b12.cell_ 0 _ rfl
   have c1 := FN.b12.cell_ 1 _ rfl
   have HZ := Lib.hid (show (Wd, (⟨aK, aT, aS⟩ : An)) = Rz by
    rw [← HRZ.out, ← HD.out]
    unfold poR doR
    rw [if_pos HE.out, if_pos HE.out])
   have hz7 : z7 ≠ p := by
    have := FN.l12
    have := R1.out.b.lt
    omega
   have hz8 : z8 ≠ p := by
    have := FN.l13
    have := R1.out.b.lt
    omega
   obtain ⟨V4, r4, t4⟩ : ∃ V4, PoolR ((wc.setCell ⟨p, 2, none⟩ (.slice A1 Wd.rows.length k1)).setCell ⟨p, 3, none⟩ (.slice A2 Wd.ses.length k2)) B p V4 ks { M with w := Wd } ∧ Turn p w V ((wc.setCell ⟨p, 2, none⟩ (.slice A1 Wd.rows.length k1)).setCell ⟨p, 3, none⟩ (.slice A2 Wd.ses.length k2)) V4 := by
    obtain ⟨r3, t3⟩ := r2.put_rows (l := Wd.rows) FN.rows
    obtain ⟨r4, t4⟩ := r3.put_ses (l := Wd.ses) ⟨cs2, osl_keeps o2 (r2.kp 2 _ ty_ses) (r2.kp 2 _ ty_pair)⟩
    exact ⟨_, r4, (t2.trans t3).trans t4⟩
   have T4 := Lib.hid t4
   have R4 := Lib.hid r4
   have fp := r2.b.frozen
   have y2 : wc.cell? ⟨p, 2, none⟩ = some V.rows := r2.b.cell (j := 2) (by decide)
   have y3 : wc.cell? ⟨p, 3, none⟩ = some V.ses := r2.b.cell (j := 3) (by decide)
   have bz := (FN.b13.far (p := ⟨p, 2, none⟩) hz8 (.slice A1 Wd.rows.length k1)).far (p := ⟨p, 3, none⟩) hz8 (.slice A2 Wd.ses.length k2)
   have ba4 := (ba.far (p := ⟨p, 2, none⟩) hqp1 (.slice A1 Wd.rows.length k1)).far (p := ⟨p, 3, none⟩) hqp1 (.slice A2 Wd.ses.length k2)
   clear r2 t2 r4 t4 ba a0 a1 a2 af o2 hz7 hz8 FN
   go_upto_region 5 with fail
   clear c0 c1 fp y2 y3
   generalize World.setCell _ _ _ = x5 at T4 R4 bz ba4 ⊢
   have b0 := bz.cell_ 0 _ rfl
   have b1 := bz.cell_ 1 _ rfl
   have b2 := bz.cell_ 2 _ rfl
   have a0 := ba4.cell_ 0 _ rfl
   have a1 := ba4.cell_ 1 _ rfl
   have a2 := ba4.cell_ 2 _ rfl
   have af := ba4.frozen
   have HF := Lib.hid (Done.box3 R4.out T4.out ba4 ty_ans (by decide) (by decide) (show w.heap.size ≤ q + 1 by rw [HQ.out]; omega) (.int .i64 aK) (.string aT) (.int .i64 aS))
   have BF := ((ba4.set_ 0 (.int .i64 aK)).set_ 1 (.string aT)).set_ 2 (.int .i64 aS)
   have d0 := BF.cell_ 0 (.int .i64 aK) rfl
   have d1 := BF.cell_ 1 (.string aT) rfl
   have d2 := BF.cell_ 2 (.int .i64 aS) rfl
   clear BF bz ba4
   go_wp2_with fail
   generalize World.setCell _ _ _ = x6 at HF d0 d1 d2 ⊢
   refine bodyPost_ret (v := anV ⟨aK, aT, aS⟩) (by simp [results, Tryz.results70, go_sem, anV, d0, d1, d2]) rfl ⟨by rw [← HZ.out], ?_⟩
   rw [← HZ.out]
   exact HF.out
  ·have HZ := Lib.hid (show (M.w, (⟨4, tLost, 0⟩ : An)) = Rz by
    rw [← HRZ.out]
    unfold poR
    rw [if_neg (by rw [HE.out]; exact he)])
   have n0 : (er != 0) = true := by simpa using he
   have n1 : (!(er == 0)) = true := n0
   have T4 := Lib.hid t2
   have R4 := Lib.hid r2
   have HF := Lib.hid (Done.box3 R4.out T4.out ba ty_ans (by decide) (by decide) (show w.heap.size ≤ q + 1 by rw [HQ.out]; omega) (.int .i64 4) (.string tLost) (.int .i64 0))
   have BF := ((ba.set_ 0 (.int .i64 4)).set_ 1 (.string tLost)).set_ 2 (.int .i64 0)
   have d0 := BF.cell_ 0 (.int .i64 4) rfl
   have d1 := BF.cell_ 1 (.string tLost) rfl
   have d2 := BF.cell_ 2 (.int .i64 0) rfl
   clear BF ba r2 t2 he
   unfold tLost at d0 d1 d2 HF
   go_wp2_with fail
   generalize World.setCell _ _ _ = x6 at HF d0 d1 d2 ⊢
   refine bodyPost_ret (v := anV ⟨4, tLost, 0⟩) (by simp [results, Tryz.results70, go_sem, anV, tLost, d0, d1, d2]) rfl ⟨by rw [← HZ.out], ?_⟩
   rw [← HZ.out]
   exact HF.out
end Go.Proofs.YtjbnfigpflambacGreatDoor
/- slices.Equal on pairs that are the same. -/
namespace Go.Proofs.YtjbnfigpflambacGreatDoor
open Go.ChangeShapes Go.WideShapes Go.ChangeAt Go.RowKit
set_option maxHeartbeats 4000000 in
set_option maxRecDepth 100000 in
theorem equal_same (w : World) (u v : Value) (l : List Pr) (hu : PL w w.heap.size u l) (hv : PL w w.heap.size v l) :
  Calls Tryz.prog 23 #[u, v] w fun e w' => e = .returned (.bool true) ∧ Below w.heap.size w w' := by
 obtain ⟨A1, c1, rfl, _, r1, hf⟩ := hu
 obtain ⟨A2, c2, rfl, _, r2, _⟩ := hv
 have hl : l.length ≤ 4398046510976 := hf.1
 have H1 := Lib.hid r1
 have H2 := Lib.hid r2
 obtain ⟨n, hN⟩ : ∃ n, l.length = n := ⟨_, rfl⟩
 rw [hN] at hl ⊢
 have HN := Lib.hid hN
 clear r1 r2 hf hN
 go_enter Tryz.func23, Tryz.ntmps23
 go_wp2_with fail
 go_loopw [13] (fun i wx => ∃ k : Nat, k ≤ n ∧ i = .int .i64 k ∧ Below w.heap.size w wx) (fun i _ => n - (intOf i).toNat)
 case atStart => exact ⟨0, Nat.zero_le _, rfl, Below.refl _ _⟩
 case round =>
  obtain ⟨k, hk, rfl, hb⟩ := hrel
  by_cases hlt : k < n
  ·have hkl : k < l.length := by rw [HN.out]; exact hlt
   obtain ⟨a1, hA1, -, x1, x2⟩ := pair_at (H1.out.below hb) hkl
   obtain ⟨a2, hA2, -, y1, y2⟩ := pair_at (H2.out.below hb) hkl
   subst hA1 hA2
   obtain ⟨p, hp⟩ : ∃ p, l[k] = p := ⟨_, rfl⟩
   rw [hp] at x1 x2 y1 y2
   have HB := Lib.hid hb
   have g1 : (k : Int) < (n : Int) := by omega
   have g2 : (0 : Int) ≤ (k : Int) := by omega
   clear hb hp
   go_upto_region 6 with fail
   replace x1 := keep_cell (Below.refl _ _).drew x1
   replace x2 := keep_cell (Below.refl _ _).drew x2
   replace y1 := keep_cell (Below.refl _ _).drew y1
   replace y2 := keep_cell (Below.refl _ _).drew y2
   refine region_segs [] (by kernel_rfl) ?_
   refine anyB_seg [0, 1, 2, 3, 4, 5, 6, 7, 8] 0 rfl (by kernel_rfl) (by kernel_rfl) (by kernel_rfl) (fun _ _ d _ _ h => by cases d <;> exact h) ?_
   simp only [pickOps, List.getElem?_toArray, List.getElem?_cons_zero, List.getElem?_cons_succ]
   go_wp2_with fail
   refine ⟨rfl, by simp [plainOps, plainV, plain1, Act.eval], ?_⟩
   refine anyB_done (by kernel_rfl) ?_ _
   have HB2 := Lib.hid (HB.out.drew)
   clear x1 x2 y1 y2 HB
   generalize World.drew _ = x9 at HB2 ⊢
   go_wp2_with fail
   go_roundw
   case rel => exact ⟨k + 1, by omega, by go_num, HB2.out⟩
   case measure => simp [intOf]; omega
  ·have g1 : (n : Int) ≤ (k : Int) := by omega
   have HB := Lib.hid hb
   clear hb hlt
   go_wp2_with fail
   go_ret
   exact ⟨rfl, HB.out⟩
end Go.Proofs.YtjbnfigpflambacGreatDoor
/- slices.Equal on pairs: whether they are the same. -/
namespace Go.Proofs.YtjbnfigpflambacGreatDoor
open Go.ChangeShapes Go.WideShapes Go.ChangeAt Go.RowKit
def sameL (l m : List Pr) (b : Bool) : Prop := b = true ↔ l = m
set_option maxHeartbeats 4000000 in
set_option maxRecDepth 100000 in
theorem equal_any (w : World) (u v : Value) (l m : List Pr) (hu : PL w w.heap.size u l) (hv : PL w w.heap.size v m) :
  Calls Tryz.prog 23 #[u, v] w fun e w' => ∃ b, e = .returned (.bool b) ∧ sameL l m b ∧ Below w.heap.size w w' := by
 obtain ⟨A1, c1, rfl, _, r1, hf⟩ := hu
 obtain ⟨A2, c2, rfl, _, r2, _⟩ := hv
 have hl : l.length ≤ 4398046510976 := hf.1
 have H1 := Lib.hid r1
 have H2 := Lib.hid r2
 obtain ⟨n, hN⟩ : ∃ n, l.length = n := ⟨_, rfl⟩
 obtain ⟨o, hO⟩ : ∃ n, m.length = n := ⟨_, rfl⟩
 rw [hN] at hl ⊢
 rw [hO]
 have HN := Lib.hid hN
 have HO := Lib.hid hO
 clear r1 r2 hf hN hO
 by_cases hne : n = o
 ·subst hne
  go_enter Tryz.func23, Tryz.ntmps23
  go_wp2_with fail
  go_loopw [13] (fun i wx => ∃ k : Nat, k ≤ n ∧ i = .int .i64 k ∧ Hid (∀ j (h1 : j < l.length) (h2 : j < m.length), j < k → l[j] = m[j]) ∧ Below w.heap.size w wx) (fun i _ => n - (intOf i).toNat)
  case atStart => exact ⟨0, Nat.zero_le _, rfl, Lib.hid (fun j _ _ h => absurd h (Nat.not_lt_zero _)), Below.refl _ _⟩
  case round =>
   obtain ⟨k, hk, rfl, HG, hb⟩ := hrel
   by_cases hlt : k < n
   ·have hkl : k < l.length := by rw [HN.out]; exact hlt
    have hkm : k < m.length := by rw [HO.out]; exact hlt
    obtain ⟨a1, hA1, -, x1, x2⟩ := pair_at (H1.out.below hb) hkl
    obtain ⟨a2, hA2, -, y1, y2⟩ := pair_at (H2.out.below hb) hkm
    subst hA1 hA2
    obtain ⟨p, hp⟩ : ∃ p, l[k] = p := ⟨_, rfl⟩
    obtain ⟨q, hq⟩ : ∃ p, m[k] = p := ⟨_, rfl⟩
    rw [hp] at x1 x2
    rw [hq] at y1 y2
    have HB := Lib.hid hb
    have HP := Lib.hid hp
    have HQ := Lib.hid hq
    have g1 : (k : Int) < (n : Int) := by omega
    have g2 : (0 : Int) ≤ (k : Int) := by omega
    clear hb hp hq
    by_cases hpq : p = q
    ·subst hpq
     have HG2 := Lib.hid (show ∀ j (h1 : j < l.length) (h2 : j < m.length), j < k + 1 → l[j] = m[j] from fun j h1 h2 h3 => by
      rcases Nat.lt_succ_iff_lt_or_eq.1 h3 with h | h
      ·exact HG.out j h1 h2 h
      ·subst h
       rw [HP.out, HQ.out])
     go_upto_region 6 with fail
     replace x1 := keep_cell (Below.refl _ _).drew x1
     replace x2 := keep_cell (Below.refl _ _).drew x2
     replace y1 := keep_cell (Below.refl _ _).drew y1
     replace y2 := keep_cell (Below.refl _ _).drew y2
     refine region_segs [] (by kernel_rfl) ?_
     refine anyB_seg [0, 1, 2, 3, 4, 5, 6, 7, 8] 0 rfl (by kernel_rfl) (by kernel_rfl) (by kernel_rfl) (fun _ _ d _ _ h => by cases d <;> exact h) ?_
     simp only [pickOps, List.getElem?_toArray, List.getElem?_cons_zero, List.getElem?_cons_succ]
     go_wp2_with fail
     refine ⟨rfl, by simp [plainOps, plainV, plain1, Act.eval], ?_⟩
     refine anyB_done (by kernel_rfl) ?_ _
     have HB2 := Lib.hid (HB.out.drew)
     clear x1 x2 y1 y2 HB
     generalize World.drew _ = x9 at HB2 ⊢
     go_wp2_with fail
     go_roundw
     case rel => exact ⟨k + 1, by omega, by go_num, HG2, HB2.out⟩
     case measure => simp [intOf]; omega
    ·have HF : Hid (sameL l m false) := Lib.hid ⟨fun h => (by cases h), fun h => by
      subst h
      exact absurd (HP.out.symm.trans HQ.out) hpq⟩
     obtain ⟨pk, pv⟩ := p
     obtain ⟨qk, qv⟩ := q
     by_cases hk2 : pk = qk
     ·subst hk2
      have hv2 : ¬ pv = qv := fun h => hpq (by rw [h])
      have n1 : (pv.toList == qv.toList) = false := by
       cases hh : (pv.toList == qv.toList) with
       | false => rfl
       | true => exact absurd (str_inj (by simpa using hh)) hv2
      clear hpq hv2
      go_upto_region 6 with fail
      replace x1 := keep_cell (Below.refl _ _).drew x1
      replace x2 := keep_cell (Below.refl _ _).drew x2
      replace y1 := keep_cell (Below.refl _ _).drew y1
      replace y2 := keep_cell (Below.refl _ _).drew y2
      refine region_segs [] (by kernel_rfl) ?_
      refine anyB_seg [0, 1, 2, 3, 4, 5, 6, 7, 8] 0 rfl (by kernel_rfl) (by kernel_rfl) (by kernel_rfl) (fun _ _ d _ _ h => by cases d <;> exact h) ?_
      simp only [pickOps, List.getElem?_toArray, List.getElem?_cons_zero, List.getElem?_cons_succ]
      go_wp2_with fail
      refine ⟨rfl, by simp [plainOps, plainV, plain1, Act.eval], ?_⟩
      refine anyB_done (by kernel_rfl) ?_ _
      have HB2 := Lib.hid (HB.out.drew)
      clear x1 x2 y1 y2 HB
      generalize World.drew _ = x9 at HB2 ⊢
      go_wp2_with fail
      go_ret
      exact ⟨false, rfl, HF.out, HB2.out⟩
     ·have n1 : (pk.toList == qk.toList) = false := by
       cases hh : (pk.toList == qk.toList) with
       | false => rfl
       | true => exact absurd (str_inj (by simpa using hh)) hk2
      clear hpq hk2
      go_upto_region 6 with fail
      replace x1 := keep_cell (Below.refl _ _).drew x1
      replace x2 := keep_cell (Below.refl _ _).drew x2
      replace y1 := keep_cell (Below.refl _ _).drew y1
      replace y2 := keep_cell (Below.refl _ _).drew y2
      refine region_segs [] (by kernel_rfl) ?_
      refine anyB_seg [0, 1, 2, 3, 4, 5, 6, 7, 8] 0 rfl (by kernel_rfl) (by kernel_rfl) (by kernel_rfl) (fun _ _ d _ _ h => by cases d <;> exact h) ?_
      simp only [pickOps, List.getElem?_toArray, List.getElem?_cons_zero, List.getElem?_cons_succ]
      go_wp2_with fail
      refine ⟨rfl, by simp [plainOps, plainV, plain1, Act.eval], ?_⟩
      refine anyB_done (by kernel_rfl) ?_ _
      have HB2 := Lib.hid (HB.out.drew)
      clear x1 x2 y1 y2 HB
      generalize World.drew _ = x9 at HB2 ⊢
      go_wp2_with fail
      go_ret
      exact ⟨false, rfl, HF.out, HB2.out⟩
   ·have g1 : (n : Int) ≤ (k : Int) := by omega
    have HB := Lib.hid hb
    have HF : Hid (sameL l m true) := Lib.hid ⟨fun _ => List.ext_getElem (by rw [HN.out, HO.out]) fun j h1 h2 => HG.out j h1 h2 (by rw [HN.out] at h1; omega), fun _ => rfl⟩
    clear hb hlt
    go_wp2_with fail
    go_ret
    exact ⟨true, rfl, HF.out, HB.out⟩
 ·have n1 : ((n : Int) != (o : Int)) = true := by simp; omega
  have n2 : (!((n : Int) == (o : Int))) = true := n1
  have n3 : (n != o) = true := by simp; omega
  have HF : Hid (sameL l m false) := Lib.hid ⟨fun h => (by cases h), fun h => by
   subst h
   exact absurd (HN.out.symm.trans HO.out) hne⟩
  go_enter Tryz.func23, Tryz.ntmps23
  go_wp2_with fail
  go_ret
  exact ⟨false, rfl, HF.out, Below.refl _ _⟩
end Go.Proofs.YtjbnfigpflambacGreatDoor
/- (pool).free: its walk. -/
namespace Go.Proofs.YtjbnfigpflambacGreatDoor
open Go.ChangeShapes Go.WideShapes Go.ChangeAt Go.RowKit
theorem OwnO.pos {w : World} {B : Nat} {e : TypeId} {size n : Nat} {v : Value} {xs : List Value} (h : OwnO w B e size v n xs) (hn : 0 < n) : ∃ g off cap, v = .slice (some ⟨g, off, none⟩) n cap ∧ n ≤ cap ∧ (∀ j, j < n * size → w.cell? ⟨g, off + j, none⟩ = xs[j]?) ∧ ∀ j, w.frozen? ⟨g, j, none⟩ = false := by
 rcases h.2 with ⟨_, e0⟩ | ⟨g, off, cap, cur, e, _, hg, hn', hm, hc, hx⟩
 ·omega
 ·refine ⟨g, off, cap, e, hn', fun j hj => ?_, fun j => Blk.frozen (w := w) (g := g) hg j⟩
  rw [cell_of_row w g (off + j) cur _ (0, 0) hg, ← hx, List.getElem?_take_of_lt (by omega), List.getElem?_drop, Array.getElem?_toList]
def MV.freed (M : MV) (c s : Nat) : MV := { M with known := M.known.set s (M.ow c), owner := M.owner.set s (-1), srv := up M.srv c (-1) }
theorem OwR.forms {w : World} {B : Nat} {a b c : Value} {o : Ow} (h : OwR w B a b c o) : (∃ A k, a = .slice A o.set.length k) ∧ (∃ A k, b = .slice A o.pre.length k) ∧ ∃ A k, c = .slice A o.sav.length k := ⟨h.set.form, h.pre.form, h.sav.form⟩
set_option maxHeartbeats 1000000 in
set_option maxRecDepth 100000 in
theorem free_any (w : World) (B p : Nat) (V : PV) (ks : List KV) (M : MV) (h : PoolR w B p V ks M) (c : Nat) (hc : c < 6) (s : Nat) (hs : M.srv c = (s : Int)) (hk : s < M.known.length) (ho : s < M.owner.length) :
  Calls Tryz.prog 71 #[.pointer (some ⟨p, 0, none⟩), .int .i64 (c : Nat)] w fun e w' => e = .returned (.tuple #[]) ∧ Done w B p V (M.freed c s) w' := by
 have g1 : (c : Int) < 6 := by omega
 have g2 : (0 : Int) ≤ (c : Int) := by omega
 have HR := Lib.hid h
 have HS := Lib.hid hs
 obtain ⟨⟨A1, k1, e1⟩, ⟨A2, k2, e2⟩, ⟨A3, k3, e3⟩⟩ := (h.o.ow c hc).forms
 have x3 : w.cell? ⟨p, 6 + c * 10 + 3, none⟩ = some (.int .i64 (M.srv c)) := h.b.cellC (k := 3) hc (by decide)
 have x4 : w.cell? ⟨p, 6 + c * 10 + 4, none⟩ = some (V.set c) := h.b.cellC (k := 4) hc (by decide)
 have x5 : w.cell? ⟨p, 6 + c * 10 + 5, none⟩ = some (V.pre c) := h.b.cellC (k := 5) hc (by decide)
 have x6 : w.cell? ⟨p, 6 + c * 10 + 6, none⟩ = some (V.sav c) := h.b.cellC (k := 6) hc (by decide)
 have x7 : w.cell? ⟨p, 6 + c * 10 + 7, none⟩ = some (.int .i64 (M.ow c).st) := h.b.cellC (k := 7) hc (by decide)
 have y4 : w.cell? ⟨p, 4, none⟩ = some V.owner := h.b.cell (j := 4) (by decide)
 have y5 : w.cell? ⟨p, 5, none⟩ = some V.known := h.b.cell (j := 5) (by decide)
 have hkl := h.o.klen
 obtain ⟨gk, fk, ck, eK, nk, cK, zK⟩ := h.o.known.pos (by omega)
 obtain ⟨go, fo, co, eO, no_, cO, zO⟩ := h.o.owner.pos (by omega)
 have E1 := Lib.hid e1
 have E2 := Lib.hid e2
 have E3 := Lib.hid e3
 have EK := Lib.hid eK
 have EO := Lib.hid eO
 rw [hs] at x3
 rw [e1] at x4
 rw [e2] at x5
 rw [e3] at x6
 rw [eO] at y4
 rw [eK] at y5
 obtain ⟨st, hst⟩ : ∃ z, (M.ow c).st = z := ⟨_, rfl⟩
 rw [hst] at x7
 have HST := Lib.hid hst
 have fp := h.b.frozen
 have q1 : (s : Int) < (ks.length : Int) := by omega
 have q2 : (0 : Int) ≤ (s : Int) := by omega
 have q3 : (s : Int) < (M.owner.length : Int) := by omega
 have nkp : gk ≠ p := fun e => absurd (h.o.apart .known .pool p trivial trivial (by show V.known.ownBlock = _; rw [eK, e]; rfl) rfl) (by simp)
 have nop : go ≠ p := fun e => absurd (h.o.apart .owner .pool p trivial trivial (by show V.owner.ownBlock = _; rw [eO, e]; rfl) rfl) (by simp)
 have nko : gk ≠ go := fun e => absurd (h.o.apart .known .owner go trivial trivial (by show V.known.ownBlock = _; rw [eK, e]; rfl) (by show V.owner.ownBlock = _; rw [eO]; rfl)) (by simp)
 have CK := Lib.hid cK
 have kc0 : ∀ j, j < 4 → ∃ u, w.cell? ⟨gk, fk + s * 4 + j, none⟩ = some u := fun j hj => by
  have hl : (ks.flatMap KV.cells).length = ks.length * 4 := by have := h.o.known.1; exact this
  rw [Nat.add_assoc, cK (s * 4 + j) (by omega)]
  exact ⟨_, List.getElem?_eq_getElem (by omega)⟩
 obtain ⟨u0, z0⟩ := kc0 0 (by decide)
 rw [Nat.add_zero] at z0
 obtain ⟨u1, z1⟩ := kc0 1 (by decide)
 obtain ⟨u2, z2⟩ := kc0 2 (by decide)
 obtain ⟨u3, z3⟩ := kc0 3 (by decide)
 have oc : ∃ u, w.cell? ⟨go, fo + s, none⟩ = some u := by
  have hl : (intV M.owner).length = M.owner.length * 1 := h.o.owner.1
  rw [cO s (by omega)]
  exact ⟨_, List.getElem?_eq_getElem (by omega)⟩
 obtain ⟨u4, z4⟩ := oc
 obtain ⟨n, hn⟩ : ∃ n, ks.length = n := ⟨_, rfl⟩
 obtain ⟨m, hm⟩ : ∃ n, M.owner.length = n := ⟨_, rfl⟩
 rw [hn] at y5 q1 nk
 rw [hm] at y4 q3 no_
 have HN := Lib.hid hn
 have HM := Lib.hid hm
 clear h hs e1 e2 e3 hst cK cO kc0 hkl hn hm eK eO
 go_enter Tryz.func71, Tryz.ntmps71
 go_upto_region 1 with fail
 refine region_segs [13] (by kernel_rfl) ?_
 refine anyB_seg [0, 1, 2, 3, 4, 5, 6, 7, 8, 9, 10, 11, 12] 1 rfl (by kernel_rfl) (by kernel_rfl) (by kernel_rfl) (fun _ _ d _ _ h => by cases d <;> exact h) ?_
 simp only [pickOps, List.getElem?_toArray, List.getElem?_cons_zero, List.getElem?_cons_succ]
 go_wp2_with fail
 refine ⟨rfl, by rfl, ?_⟩
 refine anyB_one (i := 13) (by kernel_rfl) rfl (fun K hK => ?_)
 go_simp
 refine hK.out _ _ (fun h => absurd (by decide) h) ?_
 clear hK K
 refine anyB_done (by kernel_rfl) ?_ _
 have hr1 := HR.out.put_known EK.out s (by rw [HN.out]; omega) ⟨V.set c, V.pre c, V.sav c, st⟩ (M.ow c) ⟨HR.out.o.ow c hc, HST.out.symm⟩
 simp only [E1.out, E2.out, E3.out] at hr1
 have HR1 := Lib.hid (And.intro (hr1.1.below (Below.refl _ _).drew) (hr1.2.below (Below.refl _ _).drew))
 clear hr1
 clear z0 z1 z2 z3 z4 x3 x4 x5 x6 x7 y4 y5 q1 nk fp zK zO CK
 generalize World.drew _ = x1 at HR1 ⊢
 have x3 : x1.cell? ⟨p, 6 + c * 10 + 3, none⟩ = some (.int .i64 (M.srv c)) := HR1.out.1.b.cellC (k := 3) hc (by decide)
 rw [HS.out] at x3
 have y4 : x1.cell? ⟨p, 4, none⟩ = some V.owner := HR1.out.1.b.cell (j := 4) (by decide)
 rw [EO.out, HM.out] at y4
 obtain ⟨_, _, _, eO', _, cO, zO⟩ := HR1.out.1.o.owner.pos (by show 0 < M.owner.length; omega)
 have eO' := EO.out.symm.trans eO'
 injection eO' with e1 e2 e3
 injection e1 with e1
 injection e1 with e1 e4
 subst e1 e4
 have z4 : ∃ u, x1.cell? ⟨go, fo + s, none⟩ = some u := by
  have hl : (intV M.owner).length = M.owner.length * 1 := HR1.out.1.o.owner.1
  rw [cO s (by show s < M.owner.length * 1; omega)]
  exact ⟨_, List.getElem?_eq_getElem (by rw [hl]; omega)⟩
 obtain ⟨u4, z4⟩ := z4
 clear e2 e3 cO
 go_upto_region 2 with fail
 refine region_segs [9] (by kernel_rfl) ?_
 refine anyB_seg [0, 1, 2, 3, 4, 5, 6, 7, 8] 1 rfl (by kernel_rfl) (by kernel_rfl) (by kernel_rfl) (fun _ _ d _ _ h => by cases d <;> exact h) ?_
 simp only [pickOps, List.getElem?_toArray, List.getElem?_cons_zero, List.getElem?_cons_succ]
 go_wp2_with fail
 refine ⟨rfl, by rfl, ?_⟩
 refine anyB_one (i := 9) (by kernel_rfl) rfl (fun K hK => ?_)
 go_simp
 refine hK.out _ _ (fun h => absurd (by decide) h) ?_
 clear hK K
 refine anyB_done (by kernel_rfl) ?_ _
 have hr2 := HR1.out.1.put_owner EO.out s (-1)
 have HR2 := Lib.hid (And.intro (hr2.1.below (Below.refl _ _).drew) ((HR1.out.2.trans hr2.2).below (Below.refl _ _).drew))
 clear x3 y4 z4 zO HR1 hr2
 generalize World.drew _ = x2 at HR2 ⊢
 have x3 : x2.cell? ⟨p, 6 + c * 10 + 3, none⟩ = some (.int .i64 (M.srv c)) := HR2.out.1.b.cellC (k := 3) hc (by decide)
 have fp := HR2.out.1.b.frozen
 go_upto_region 3 with fail
 have HR3 := Lib.hid (HR2.out.1.put_srv hc (-1))
 have T2 := Lib.hid (HR2.out.2.trans HR3.out.2)
 go_wp2_with fail
 refine bodyPost_end (results_none rfl _ _ _) rfl ⟨rfl, _, _, HR3.out.1, T2.out⟩
end Go.Proofs.YtjbnfigpflambacGreatDoor
