/- The walk of TopBad: it returns true. -/
import Derived.Test.YtjbnfigpflambaaDoorEarly
import Derived.Test.YtjbnfigpflambaaDoorPick
import Derived.Test.YtjbnfigpflambaaDoorTabs
import Derived.Test.YtjbnfigpflambaaDoorSeg
import Derived.Test.YtjbnfigpflambaaDoorShelf
import Derived.Deep.RegionHeld3
namespace Go.Proofs.YtjbnfigpflambaaDoor
open Go.ChangeShapes Go.WideShapes Go.ChangeAt Go.RowKit

def repX (n : Nat) : ByteArray := ⟨(Lib.repeatL [120] n).toArray⟩
theorem repX_any (n : Nat) (hn : n ≤ 140737488355328) (w : World) :
    Calls Tryd.prog 8 #[.string ⟨#[120]⟩, .int .i64 (n : Int)] w fun e w' => e = .returned (.string (repX n)) ∧ Below w.heap.size w w' :=
  Tryd.strings_Repeat ⟨#[120]⟩ n w (by omega) (by show 1 * n ≤ _; omega)
theorem repX_size (n : Nat) : (repX n).size = n := by
  have h := Lib.repeatL_length [120] n
  show (Lib.repeatL [120] n).toArray.size = n
  simpa using h
theorem pickedK (n m r : Int) (w : World) (hn : (Lit.int .i64 n).wf = true) (hm : 0 < m) (hm2 : m ≤ 9223372036854775807) (hr : pick n m = r) :
    Calls Tryd.prog 6 #[.int .i64 n, .int .i64 m] w fun e w' => e = .returned (.int .i64 r) ∧ w = w' := by
  go_enter Tryd.func6, Tryd.ntmps6
  go_wp2_with fail
  refine (picked_is n m r _ hn hm hm2 hr).mono ?_
  rintro e w1 ⟨rfl, rfl⟩
  go_wp2_with fail
  go_ret
  exact ⟨rfl, rfl⟩
theorem s_1 (k : Int) (h : 1 ≤ k) : setupE (3 + k) 1 = 3 := by unfold setupE; rw [if_pos (by omega)]
theorem s_2 (k : Int) (h : 1 ≤ k) : setupE 1 (4 + k) = 2 := by unfold setupE; rw [if_neg (by omega), if_pos (by omega)]
theorem s_3 : setupE 1 1 = 0 := by decide
theorem a_1 (k : Int) (h : 1 ≤ k) : actE (2 + k) 0 ⟨#[]⟩ = 3 := by unfold actE; rw [if_pos (by omega)]
theorem a_2 (k : Int) (h : 1 ≤ k) : actE 2 (-k) ⟨#[]⟩ = 2 := by unfold actE; rw [if_neg (by omega), if_pos (by omega)]
theorem a_3 (n : Nat) (h : 1000 < n) : actE 1 0 (repX n) = 1 := by unfold actE; rw [if_neg (by omega), if_neg (by omega), if_pos (by rw [repX_size]; exact h)]
theorem one_act (k c : Int) (d : ByteArray) (E : Int) (hE : actE k c d = E) (h0 : E ≠ 0) (w : World) (b : Nat) (hb : w.heap.size = b) :
    Calls Tryd.prog 7 #[.agg #[.int .i64 1, .int .i64 1], .slice (some ⟨b, 0, none⟩) 1 1] (w.alloc (.cells #[.int .i64 k, .int .i64 c, .string d] 34 (0, 0))) fun e w' => e = .returned (.tuple #[.agg #[.slice none 0 0, .slice none 0 0, .slice none 0 0], .int .i64 E]) ∧ Below w.heap.size w w' := by
  subst hE
  subst hb
  have B := Blk.new w 34 #[.int .i64 k, .int .i64 c, .string d]
  refine (run_one 1 1 k c d w.heap.size 0 _ s_3 (B.cell_ 0 _ rfl) (B.cell_ 1 _ rfl) (B.cell_ 2 _ rfl) h0).mono ?_
  rintro e w' ⟨rfl, hb⟩
  exact ⟨rfl, below_of_alloc (Nat.le_refl _) hb⟩

theorem one_blk (k c : Int) (d : ByteArray) (E : Int) (hE : actE k c d = E) (h0 : E ≠ 0) (w : World) (b : Nat) (B : Blk w b 34 #[.int .i64 k, .int .i64 c, .string d]) :
    Calls Tryd.prog 7 #[.agg #[.int .i64 1, .int .i64 1], .slice (some ⟨b, 0, none⟩) 1 1] w fun e w' => e = .returned (.tuple #[.agg #[.slice none 0 0, .slice none 0 0, .slice none 0 0], .int .i64 E]) ∧ Below w.heap.size w w' := by
  subst hE
  exact run_one 1 1 k c d b 0 _ s_3 (B.cell_ 0 _ rfl) (B.cell_ 1 _ rfl) (B.cell_ 2 _ rfl) h0
theorem act_info : (Tryd.prog.info? 34).map (fun i => (i.zero, i.size, i.bytes)) = some (some (.agg #[.int .i64 0, .int .i64 0, .string ⟨#[]⟩]), 3, 32) := by kernel_rfl
theorem make_acts (n : Nat) (hn : n ≤ 1000) : ∃ ZS : Array Value, ∀ w : World, (Instr.makeSlice 35 (.int .i64 (n : Int)) (.int .i64 (n : Int))).run Tryd.prog w = .ok (.slice (some ⟨w.heap.size, 0, none⟩) n n) (w.alloc (.cells ZS 34)) := by
  have h := act_info
  rw [Option.map_eq_some_iff] at h
  obtain ⟨i, hi, e⟩ := h
  injection e with e1 e2
  injection e2 with e2 e3
  exact ⟨_, fun w => run_make w _ _ i _ (by kernel_rfl) hi e1 .i64 .i64 n n (by omega) (Int.le_refl _) (by rw [e3]; omega) (by omega)⟩
/-- in the midst of a region: what was there stays; the outcome's box and the act's block as far as they are made -/
structure TbS (wr wx : World) (d : ByteArray) (z s : Option Nat) : Prop where
  hb : Below wr.heap.size wr wx
  bz : ∀ y, z = some y → Blk wx y 29 #[.slice none 0 0, .slice none 0 0, .slice none 0 0] ∧ wr.heap.size ≤ y
  bs : ∀ y, s = some y → Blk wx y 34 #[.int .i64 1, .int .i64 0, .string d]
section
variable {wr wx wy : World} {d : ByteArray} {z s : Option Nat}
theorem TbS.start (wr : World) (d : ByteArray) : TbS wr wr d none none := ⟨Below.refl _ _, fun _ h => (by cases h), fun _ h => (by cases h)⟩
theorem TbS.keep (h : TbS wr wx d z s) (hb : Below wx.heap.size wx wy) : TbS wr wy d z s :=
  ⟨below_step h.hb (Nat.le_refl _) hb, fun y hy => ⟨(h.bz y hy).1.keep hb, (h.bz y hy).2⟩, fun y hy => (h.bs y hy).keep hb⟩
theorem TbS.fz (h : TbS wr wx d none s) : TbS wr (wx.alloc (.cells #[.slice none 0 0, .slice none 0 0, .slice none 0 0] 29)) d (some wx.heap.size) s := by
  have k := h.keep (boxed wx (.cells #[.slice none 0 0, .slice none 0 0, .slice none 0 0] 29))
  exact ⟨k.hb, fun y hy => (by injection hy with hy; subst hy; exact ⟨Blk.new wx _ _, h.hb.size⟩), k.bs⟩
theorem TbS.fs (h : TbS wr wx d z none) : TbS wr (wx.alloc (.cells #[.int .i64 1, .int .i64 0, .string d] 34)) d z (some wx.heap.size) := by
  have k := h.keep (boxed wx (.cells #[.int .i64 1, .int .i64 0, .string d] 34))
  exact ⟨k.hb, k.bz, fun y hy => (by injection hy with hy; subst hy; exact Blk.new wx _ _)⟩
theorem TbS.fin {y : Nat} (h : TbS wr wx d (some y) s) (a b c : Value) (e : wy = ((wx.setCell ⟨y, 0, none⟩ a).setCell ⟨y, 1, none⟩ b).setCell ⟨y, 2, none⟩ c) : Below wr.heap.size wr wy ∧ Blk wy y 29 #[a, b, c] := by
  subst e
  obtain ⟨b1, l⟩ := h.bz _ rfl
  have m : ∀ j, wr.heap.size ≤ (⟨y, j, none⟩ : Addr).block := fun _ => l
  exact ⟨((h.hb.setCell (m 0) _).setCell (m 1) _).setCell (m 2) _, ((b1.set_ 0 a).set_ 1 b).set_ 2 c⟩
end
set_option maxRecDepth 100000 in
set_option maxHeartbeats 600000 in
theorem topBad_walk (W : World) (hT : Tabs W) (n : Int) (hn : (Lit.int .i64 n).wf = true) :
    Calls Tryd.prog 3 #[.int .i64 n] W fun e w' => e = .returned (.bool true) ∧ Below W.heap.size W w' := by
  obtain ⟨m0, m1⟩ := pick_bd n 50 (by decide)
  obtain ⟨q, hq⟩ : ∃ q : Nat, pick n 50 = (q : Int) := ⟨(pick n 50).toNat, by omega⟩
  rw [hq] at m0 m1
  have XP := Lib.hid (fun w : World => pickedK n 50 q w hn (by decide) (by decide) hq)
  obtain ⟨k, hk⟩ : ∃ k : Nat, k = q + 1 := ⟨_, rfl⟩
  have hk1 : (1 : Int) + (q : Int) = (k : Int) := by omega
  have k1 : (1 : Int) ≤ (k : Int) := by omega
  have k2 : (k : Int) ≤ 50 := by omega
  have XA := Lib.hid (fun w : World => run_setup (3 + (k : Int)) 1 (.slice none 0 0) w (by rw [s_1 _ k1]; decide))
  have XB := Lib.hid (fun w : World => run_setup 1 (4 + (k : Int)) (.slice none 0 0) w (by rw [s_2 _ k1]; decide))
  have XC := Lib.hid (fun (w : World) (b : Nat) (hb : w.heap.size = b) => one_act (2 + (k : Int)) 0 ⟨#[]⟩ 3 (a_1 _ k1) (by decide) w b hb)
  have XD := Lib.hid (fun (w : World) (b : Nat) (hb : w.heap.size = b) => one_act 2 (-(k : Int)) ⟨#[]⟩ 2 (a_2 _ k1) (by decide) w b hb)
  have XE := Lib.hid (fun (w : World) (b : Nat) (B : Blk w b 34 #[.int .i64 1, .int .i64 0, .string (repX (1000 + k))]) => one_blk 1 0 (repX (1000 + k)) 1 (a_3 _ (by omega)) (by decide) w b B)
  have ek : ((1000 + k : Nat) : Int) = 1000 + (k : Int) := by omega
  have hxr := fun w : World => repX_any (1000 + k) (by omega) w
  rw [ek] at hxr
  have XR := Lib.hid hxr
  clear hxr ek
  have XL := Lib.hid (fun (w : World) (a : Option Addr) (c : Nat) => run_long 1 1 a (300 + k) c w s_3 (by omega))
  clear hT hn hq hk
  unfold outZ at XA XB XL
  go_enter Tryd.func3, Tryd.ntmps3
  go_wp2_with fail
  refine (XP.out _).mono ?_
  rintro e w1 ⟨rfl, rfl⟩
  have hw : IntKind.i64.wrap (1 + (q : Int)) = (k : Int) := by rw [hk1]; exact IntWalk.i64_in _ (by omega)
  go_wp2_with fail
  refine (XA.out _).mono ?_
  rintro e w2 ⟨rfl, hb2⟩
  have c0 := box_cell hb2 0
  have c1 := box_cell hb2 1
  have H2 := Lib.hid (below_of_alloc (Nat.le_refl _) hb2)
  clear hb2
  go_wp2_with fail
  refine (XB.out _).mono ?_
  rintro e w3 ⟨rfl, hb3⟩
  replace c0 := keep_cell (below_of_alloc (Nat.le_refl _) hb3) c0
  replace c1 := keep_cell (below_of_alloc (Nat.le_refl _) hb3) c1
  have H3 := Lib.hid (below_step H2.out (Nat.le_refl _) (below_of_alloc (Nat.le_refl _) hb3))
  clear hb3
  have l3 := World.block_lt_of_cell? w3 _ c0
  have n3 := Nat.ne_of_lt l3
  go_wp2_with fail
  refine (XC.out _ _ (by simp)).mono ?_
  rintro e w4 ⟨rfl, hb4⟩
  replace c0 := keep_cell (below_of_alloc (Nat.le_refl _) hb4) c0
  replace c1 := keep_cell (below_of_alloc (Nat.le_refl _) hb4) c1
  have H4 := Lib.hid (below_step H3.out (Nat.le_refl _) (below_of_alloc (Nat.le_refl _) hb4))
  clear hb4 l3 n3
  have l4 := World.block_lt_of_cell? w4 _ c0
  have n4 := Nat.ne_of_lt l4
  go_wp2_with fail
  refine (XD.out _ _ (by simp)).mono ?_
  rintro e w5 ⟨rfl, hb5⟩
  replace c0 := keep_cell (below_of_alloc (Nat.le_refl _) hb5) c0
  replace c1 := keep_cell (below_of_alloc (Nat.le_refl _) hb5) c1
  have H5 := Lib.hid (below_step H4.out (Nat.le_refl _) (below_of_alloc (Nat.le_refl _) hb5))
  clear hb5 l4 n4
  have l5 := World.block_lt_of_cell? w5 _ c0
  have n5 := Nat.ne_of_lt l5
  obtain ⟨ZS, hmk0⟩ := make_acts (300 + k) (by omega)
  have HMK := Lib.hid hmk0
  clear hmk0
  obtain ⟨ZS, hmk0⟩ := make_acts (300 + k) (by omega)
  have HMK := Lib.hid hmk0
  clear hmk0
  obtain ⟨ZS, hmk0⟩ := make_acts (300 + k) (by omega)
  rw [show ((300 + k : Nat) : Int) = 300 + (k : Int) by omega] at hmk0
  have HMK := Lib.hid hmk0
  clear hmk0
  obtain ⟨ZS, hmk0⟩ := make_acts (300 + k) (by omega)
  rw [show ((300 + k : Nat) : Int) = 300 + (k : Int) by omega] at hmk0
  have HMK := Lib.hid hmk0
  clear hmk0
  obtain ⟨ZS, hmk0⟩ := make_acts (300 + k) (by omega)
  rw [show ((300 + k : Nat) : Int) = 300 + (k : Int) by omega] at hmk0
  have HMK := Lib.hid hmk0
  clear hmk0
  obtain ⟨ZS, hmk0⟩ := make_acts (300 + k) (by omega)
  rw [show ((300 + k : Nat) : Int) = 300 + (k : Int) by omega] at hmk0
  have HMK := Lib.hid hmk0
  clear hmk0
  go_upto_region 7 with fail
  go_cut [14] (fun e wc => e = .int .i64 1 ∧ Below w5.heap.size w5 wc)
  case first =>
    refine region_segs [11] (by kernel_rfl) ?_
    refine anyB_seg [0, 1, 2] 10 rfl (by kernel_rfl) (by kernel_rfl) (by kernel_rfl) (fun _ _ d _ _ h => by cases d <;> exact h) ?_
    simp only [pickOps, List.getElem?_toArray, List.getElem?_cons_zero, List.getElem?_cons_succ]
    go_wp2_with fail
    refine ⟨rfl, by rfl, ?_⟩
    have S0 := Lib.hid ((TbS.start w5 (repX (1000 + k))).keep (boxed w5 (.cells #[.slice none 0 0, .slice none 0 0, .slice none 0 0] 29)).drew)
    clear c0 c1
    generalize World.drew _ = x0 at S0 ⊢
    refine anyB_two (i := 3) (j := 10) (by kernel_rfl) rfl rfl (fun K hK => ?_) (fun K hK => ?_)
    · go_simp
      refine (XR.out _).mono ?_
      rintro e x1 ⟨rfl, b⟩
      refine hK.out _ _ (fun _ => b) ?_
      clear hK K
      have S1 := Lib.hid (S0.out.keep b)
      clear b S0
      refine anyB_seg [4] 8 rfl (by kernel_rfl) (by kernel_rfl) (by kernel_rfl) (fun _ _ d _ _ h => by cases d <;> exact h) ?_
      simp only [pickOps, List.getElem?_toArray, List.getElem?_cons_zero, List.getElem?_cons_succ]
      go_wp2_with fail
      refine ⟨rfl, by rfl, ?_⟩
      refine anyB_two (i := 5) (j := 10) (by kernel_rfl) rfl rfl (fun K hK => ?_) (fun K hK => ?_)
      · go_simp
        refine hK.out _ _ (fun _ => (boxed _ _)) ?_
        clear hK K
        have S2 := Lib.hid S1.out.fs
        obtain ⟨zs, hz⟩ : ∃ z, x1.heap.size = z := ⟨_, rfl⟩
        rw [hz] at S2 ⊢
        generalize World.alloc _ _ = x2 at S2 ⊢
        clear S1 hz
        refine anyB_two (i := 6) (j := 10) (by kernel_rfl) rfl rfl (fun K hK => ?_) (fun K hK => ?_)
        · go_simp
          refine (XE.out _ _ (S2.out.bs _ rfl)).mono ?_
          rintro e x3 ⟨rfl, b⟩
          refine hK.out _ _ (fun _ => b) ?_
          clear hK K
          have S3 := Lib.hid (S2.out.keep b)
          clear b S2
          refine anyB_seg [7, 8, 9] 3 rfl (by kernel_rfl) (by kernel_rfl) (by kernel_rfl) (fun _ _ d _ _ h => by cases d <;> exact h) ?_
          simp only [pickOps, List.getElem?_toArray, List.getElem?_cons_zero, List.getElem?_cons_succ]
          go_wp2_with fail
          refine ⟨rfl, by rfl, ?_⟩
          refine anyB_one (i := 10) (by kernel_rfl) rfl (fun K hK => ?_)
          go_simp
          refine hK.out _ _ (fun _ => (boxed _ _)) ?_
          clear hK K
          have S4 := Lib.hid S3.out.fz
          obtain ⟨zo, hz⟩ : ∃ z, x3.heap.size = z := ⟨_, rfl⟩
          rw [hz] at S4 ⊢
          generalize World.alloc _ _ = x4 at S4 ⊢
          clear S3 hz
          obtain ⟨bz, lz⟩ := S4.out.bz _ rfl
          have f0 := bz.cell_ 0 _ rfl
          have f1 := bz.cell_ 1 _ rfl
          have f2 := bz.cell_ 2 _ rfl
          have ff := bz.frozen
          clear bz lz
          refine anyB_one (i := 11) (by kernel_rfl) rfl (fun K hK => ?_)
          go_simp
          refine hK.out _ _ (fun h => absurd (by decide) h) ?_
          clear hK K
          refine anyB_seg [12] 0 rfl (by kernel_rfl) (by kernel_rfl) (by kernel_rfl) (fun _ _ d _ _ h => by cases d <;> exact h) ?_
          simp only [pickOps, List.getElem?_toArray, List.getElem?_cons_zero, List.getElem?_cons_succ]
          go_wp2_with fail
          refine ⟨rfl, by rfl, ?_⟩
          refine anyB_done (by kernel_rfl) ?_ _
          have FN := Lib.hid (S4.out.fin (.slice none 0 0) (.slice none 0 0) (.slice none 0 0) rfl)
          clear f0 f1 f2 ff S4
          generalize World.setCell _ _ _ = x9 at FN ⊢
          go_wp2_with fail
          go_meet
          exact ⟨rfl, FN.out.1⟩
        · go_simp
          refine hK.out _ _ (fun _ => (boxed _ _)) ?_
          clear hK K
          have S3 := Lib.hid S2.out.fz
          obtain ⟨zo, hz⟩ : ∃ z, x2.heap.size = z := ⟨_, rfl⟩
          rw [hz] at S3 ⊢
          generalize World.alloc _ _ = x3 at S3 ⊢
          clear S2 hz
          refine anyB_one (i := 6) (by kernel_rfl) rfl (fun K hK => ?_)
          go_simp
          refine (XE.out _ _ (S3.out.bs _ rfl)).mono ?_
          rintro e x4 ⟨rfl, b⟩
          refine hK.out _ _ (fun _ => b) ?_
          clear hK K
          have S4 := Lib.hid (S3.out.keep b)
          clear b S3
          refine anyB_seg [7, 8, 9] 2 rfl (by kernel_rfl) (by kernel_rfl) (by kernel_rfl) (fun _ _ d _ _ h => by cases d <;> exact h) ?_
          simp only [pickOps, List.getElem?_toArray, List.getElem?_cons_zero, List.getElem?_cons_succ]
          go_wp2_with fail
          refine ⟨rfl, by rfl, ?_⟩
          obtain ⟨bz, lz⟩ := S4.out.bz _ rfl
          have f0 := bz.cell_ 0 _ rfl
          have f1 := bz.cell_ 1 _ rfl
          have f2 := bz.cell_ 2 _ rfl
          have ff := bz.frozen
          clear bz lz
          refine anyB_one (i := 11) (by kernel_rfl) rfl (fun K hK => ?_)
          go_simp
          refine hK.out _ _ (fun h => absurd (by decide) h) ?_
          clear hK K
          refine anyB_seg [12] 0 rfl (by kernel_rfl) (by kernel_rfl) (by kernel_rfl) (fun _ _ d _ _ h => by cases d <;> exact h) ?_
          simp only [pickOps, List.getElem?_toArray, List.getElem?_cons_zero, List.getElem?_cons_succ]
          go_wp2_with fail
          refine ⟨rfl, by rfl, ?_⟩
          refine anyB_done (by kernel_rfl) ?_ _
          have FN := Lib.hid (S4.out.fin (.slice none 0 0) (.slice none 0 0) (.slice none 0 0) rfl)
          clear f0 f1 f2 ff S4
          generalize World.setCell _ _ _ = x9 at FN ⊢
          go_wp2_with fail
          go_meet
          exact ⟨rfl, FN.out.1⟩
      · go_simp
        refine hK.out _ _ (fun _ => (boxed _ _)) ?_
        clear hK K
        have S2 := Lib.hid S1.out.fz
        obtain ⟨zo, hz⟩ : ∃ z, x1.heap.size = z := ⟨_, rfl⟩
        rw [hz] at S2 ⊢
        generalize World.alloc _ _ = x2 at S2 ⊢
        clear S1 hz
        refine anyB_one (i := 5) (by kernel_rfl) rfl (fun K hK => ?_)
        go_simp
        refine hK.out _ _ (fun _ => (boxed _ _)) ?_
        clear hK K
        have S3 := Lib.hid S2.out.fs
        obtain ⟨zs, hz⟩ : ∃ z, x2.heap.size = z := ⟨_, rfl⟩
        rw [hz] at S3 ⊢
        generalize World.alloc _ _ = x3 at S3 ⊢
        clear S2 hz
        refine anyB_one (i := 6) (by kernel_rfl) rfl (fun K hK => ?_)
        go_simp
        refine (XE.out _ _ (S3.out.bs _ rfl)).mono ?_
        rintro e x4 ⟨rfl, b⟩
        refine hK.out _ _ (fun _ => b) ?_
        clear hK K
        have S4 := Lib.hid (S3.out.keep b)
        clear b S3
        refine anyB_seg [7, 8, 9] 2 rfl (by kernel_rfl) (by kernel_rfl) (by kernel_rfl) (fun _ _ d _ _ h => by cases d <;> exact h) ?_
        simp only [pickOps, List.getElem?_toArray, List.getElem?_cons_zero, List.getElem?_cons_succ]
        go_wp2_with fail
        refine ⟨rfl, by rfl, ?_⟩
        obtain ⟨bz, lz⟩ := S4.out.bz _ rfl
        have f0 := bz.cell_ 0 _ rfl
        have f1 := bz.cell_ 1 _ rfl
        have f2 := bz.cell_ 2 _ rfl
        have ff := bz.frozen
        clear bz lz
        refine anyB_one (i := 11) (by kernel_rfl) rfl (fun K hK => ?_)
        go_simp
        refine hK.out _ _ (fun h => absurd (by decide) h) ?_
        clear hK K
        refine anyB_seg [12] 0 rfl (by kernel_rfl) (by kernel_rfl) (by kernel_rfl) (fun _ _ d _ _ h => by cases d <;> exact h) ?_
        simp only [pickOps, List.getElem?_toArray, List.getElem?_cons_zero, List.getElem?_cons_succ]
        go_wp2_with fail
        refine ⟨rfl, by rfl, ?_⟩
        refine anyB_done (by kernel_rfl) ?_ _
        have FN := Lib.hid (S4.out.fin (.slice none 0 0) (.slice none 0 0) (.slice none 0 0) rfl)
        clear f0 f1 f2 ff S4
        generalize World.setCell _ _ _ = x9 at FN ⊢
        go_wp2_with fail
        go_meet
        exact ⟨rfl, FN.out.1⟩
    · go_simp
      refine hK.out _ _ (fun _ => (boxed _ _)) ?_
      clear hK K
      have S1 := Lib.hid S0.out.fz
      obtain ⟨zo, hz⟩ : ∃ z, x0.heap.size = z := ⟨_, rfl⟩
      rw [hz] at S1 ⊢
      generalize World.alloc _ _ = x1 at S1 ⊢
      clear S0 hz
      refine anyB_one (i := 3) (by kernel_rfl) rfl (fun K hK => ?_)
      go_simp
      refine (XR.out _).mono ?_
      rintro e x2 ⟨rfl, b⟩
      refine hK.out _ _ (fun _ => b) ?_
      clear hK K
      have S2 := Lib.hid (S1.out.keep b)
      clear b S1
      refine anyB_seg [4] 7 rfl (by kernel_rfl) (by kernel_rfl) (by kernel_rfl) (fun _ _ d _ _ h => by cases d <;> exact h) ?_
      simp only [pickOps, List.getElem?_toArray, List.getElem?_cons_zero, List.getElem?_cons_succ]
      go_wp2_with fail
      refine ⟨rfl, by rfl, ?_⟩
      refine anyB_one (i := 5) (by kernel_rfl) rfl (fun K hK => ?_)
      go_simp
      refine hK.out _ _ (fun _ => (boxed _ _)) ?_
      clear hK K
      have S3 := Lib.hid S2.out.fs
      obtain ⟨zs, hz⟩ : ∃ z, x2.heap.size = z := ⟨_, rfl⟩
      rw [hz] at S3 ⊢
      generalize World.alloc _ _ = x3 at S3 ⊢
      clear S2 hz
      refine anyB_one (i := 6) (by kernel_rfl) rfl (fun K hK => ?_)
      go_simp
      refine (XE.out _ _ (S3.out.bs _ rfl)).mono ?_
      rintro e x4 ⟨rfl, b⟩
      refine hK.out _ _ (fun _ => b) ?_
      clear hK K
      have S4 := Lib.hid (S3.out.keep b)
      clear b S3
      refine anyB_seg [7, 8, 9] 2 rfl (by kernel_rfl) (by kernel_rfl) (by kernel_rfl) (fun _ _ d _ _ h => by cases d <;> exact h) ?_
      simp only [pickOps, List.getElem?_toArray, List.getElem?_cons_zero, List.getElem?_cons_succ]
      go_wp2_with fail
      refine ⟨rfl, by rfl, ?_⟩
      obtain ⟨bz, lz⟩ := S4.out.bz _ rfl
      have f0 := bz.cell_ 0 _ rfl
      have f1 := bz.cell_ 1 _ rfl
      have f2 := bz.cell_ 2 _ rfl
      have ff := bz.frozen
      clear bz lz
      refine anyB_one (i := 11) (by kernel_rfl) rfl (fun K hK => ?_)
      go_simp
      refine hK.out _ _ (fun h => absurd (by decide) h) ?_
      clear hK K
      refine anyB_seg [12] 0 rfl (by kernel_rfl) (by kernel_rfl) (by kernel_rfl) (fun _ _ d _ _ h => by cases d <;> exact h) ?_
      simp only [pickOps, List.getElem?_toArray, List.getElem?_cons_zero, List.getElem?_cons_succ]
      go_wp2_with fail
      refine ⟨rfl, by rfl, ?_⟩
      refine anyB_done (by kernel_rfl) ?_ _
      have FN := Lib.hid (S4.out.fin (.slice none 0 0) (.slice none 0 0) (.slice none 0 0) rfl)
      clear f0 f1 f2 ff S4
      generalize World.setCell _ _ _ = x9 at FN ⊢
      go_wp2_with fail
      go_meet
      exact ⟨rfl, FN.out.1⟩

  case rest =>
    obtain ⟨rfl, hb7⟩ := hcut
    replace c0 := keep_cell hb7 c0
    replace c1 := keep_cell hb7 c1
    have H7 := Lib.hid (below_step H5.out (Nat.le_refl _) hb7)
    clear hb7 l5 n5
    go_upto_region 8 with fail
    go_cut [15, 16] (fun o e wd => e = .int .i64 1 ∧ ∃ zo, o = .pointer (some ⟨zo, 0, none⟩) ∧ Below wc.heap.size wc wd ∧ Blk wd zo 29 #[.slice none 0 0, .slice none 0 0, .slice none 0 0])
    case first =>
      refine region_segs [9] (by kernel_rfl) ?_
      refine anyB_seg [0, 1, 2] 8 rfl (by kernel_rfl) (by kernel_rfl) (by kernel_rfl) (fun _ _ d _ _ h => by cases d <;> exact h) ?_
      simp only [pickOps, List.getElem?_toArray, List.getElem?_cons_zero, List.getElem?_cons_succ]
      go_wp2_with fail
      refine ⟨rfl, by rfl, ?_⟩
      have S0 := Lib.hid ((TbS.start wc ⟨#[]⟩).keep (Below.refl _ _).drew)
      clear c0 c1
      generalize World.drew _ = x0 at S0 ⊢
      refine anyB_two (i := 3) (j := 8) (by kernel_rfl) rfl rfl (fun K hK => ?_) (fun K hK => ?_)
      · go_simp
        rw [HMK.out]
        go_simp
        refine hK.out _ _ (fun _ => (boxed _ _)) ?_
        clear hK K
        have S1 := Lib.hid (S0.out.keep (boxed _ (.cells ZS 34)))
        generalize World.alloc _ _ = x1 at S1 ⊢
        clear S0
        refine anyB_two (i := 4) (j := 8) (by kernel_rfl) rfl rfl (fun K hK => ?_) (fun K hK => ?_)
        · go_simp
          refine (XL.out _ _ _).mono ?_
          rintro e x2 ⟨rfl, b⟩
          refine hK.out _ _ (fun _ => b) ?_
          clear hK K
          have S2 := Lib.hid (S1.out.keep b)
          clear b S1
          refine anyB_seg [5, 6, 7] 3 rfl (by kernel_rfl) (by kernel_rfl) (by kernel_rfl) (fun _ _ d _ _ h => by cases d <;> exact h) ?_
          simp only [pickOps, List.getElem?_toArray, List.getElem?_cons_zero, List.getElem?_cons_succ]
          go_wp2_with fail
          refine ⟨rfl, by rfl, ?_⟩
          refine anyB_one (i := 8) (by kernel_rfl) rfl (fun K hK => ?_)
          go_simp
          refine hK.out _ _ (fun _ => (boxed _ _)) ?_
          clear hK K
          have S3 := Lib.hid S2.out.fz
          obtain ⟨zo, hz⟩ : ∃ z, x2.heap.size = z := ⟨_, rfl⟩
          rw [hz] at S3 ⊢
          generalize World.alloc _ _ = x3 at S3 ⊢
          clear S2 hz
          obtain ⟨bz, lz⟩ := S3.out.bz _ rfl
          have f0 := bz.cell_ 0 _ rfl
          have f1 := bz.cell_ 1 _ rfl
          have f2 := bz.cell_ 2 _ rfl
          have ff := bz.frozen
          clear bz lz
          refine anyB_one (i := 9) (by kernel_rfl) rfl (fun K hK => ?_)
          go_simp
          refine hK.out _ _ (fun h => absurd (by decide) h) ?_
          clear hK K
          refine anyB_seg [10] 0 rfl (by kernel_rfl) (by kernel_rfl) (by kernel_rfl) (fun _ _ d _ _ h => by cases d <;> exact h) ?_
          simp only [pickOps, List.getElem?_toArray, List.getElem?_cons_zero, List.getElem?_cons_succ]
          go_wp2_with fail
          refine ⟨rfl, by rfl, ?_⟩
          refine anyB_done (by kernel_rfl) ?_ _
          have FN := Lib.hid (S3.out.fin (.slice none 0 0) (.slice none 0 0) (.slice none 0 0) rfl)
          clear f0 f1 f2 ff S3
          generalize World.setCell _ _ _ = x9 at FN ⊢
          go_wp2_with fail
          go_meet
          exact ⟨rfl, _, rfl, FN.out⟩
        · go_simp
          refine hK.out _ _ (fun _ => (boxed _ _)) ?_
          clear hK K
          have S2 := Lib.hid S1.out.fz
          obtain ⟨zo, hz⟩ : ∃ z, x1.heap.size = z := ⟨_, rfl⟩
          rw [hz] at S2 ⊢
          generalize World.alloc _ _ = x2 at S2 ⊢
          clear S1 hz
          refine anyB_one (i := 4) (by kernel_rfl) rfl (fun K hK => ?_)
          go_simp
          refine (XL.out _ _ _).mono ?_
          rintro e x3 ⟨rfl, b⟩
          refine hK.out _ _ (fun _ => b) ?_
          clear hK K
          have S3 := Lib.hid (S2.out.keep b)
          clear b S2
          refine anyB_seg [5, 6, 7] 2 rfl (by kernel_rfl) (by kernel_rfl) (by kernel_rfl) (fun _ _ d _ _ h => by cases d <;> exact h) ?_
          simp only [pickOps, List.getElem?_toArray, List.getElem?_cons_zero, List.getElem?_cons_succ]
          go_wp2_with fail
          refine ⟨rfl, by rfl, ?_⟩
          obtain ⟨bz, lz⟩ := S3.out.bz _ rfl
          have f0 := bz.cell_ 0 _ rfl
          have f1 := bz.cell_ 1 _ rfl
          have f2 := bz.cell_ 2 _ rfl
          have ff := bz.frozen
          clear bz lz
          refine anyB_one (i := 9) (by kernel_rfl) rfl (fun K hK => ?_)
          go_simp
          refine hK.out _ _ (fun h => absurd (by decide) h) ?_
          clear hK K
          refine anyB_seg [10] 0 rfl (by kernel_rfl) (by kernel_rfl) (by kernel_rfl) (fun _ _ d _ _ h => by cases d <;> exact h) ?_
          simp only [pickOps, List.getElem?_toArray, List.getElem?_cons_zero, List.getElem?_cons_succ]
          go_wp2_with fail
          refine ⟨rfl, by rfl, ?_⟩
          refine anyB_done (by kernel_rfl) ?_ _
          have FN := Lib.hid (S3.out.fin (.slice none 0 0) (.slice none 0 0) (.slice none 0 0) rfl)
          clear f0 f1 f2 ff S3
          generalize World.setCell _ _ _ = x9 at FN ⊢
          go_wp2_with fail
          go_meet
          exact ⟨rfl, _, rfl, FN.out⟩
      · go_simp
        refine hK.out _ _ (fun _ => (boxed _ _)) ?_
        clear hK K
        have S1 := Lib.hid S0.out.fz
        obtain ⟨zo, hz⟩ : ∃ z, x0.heap.size = z := ⟨_, rfl⟩
        rw [hz] at S1 ⊢
        generalize World.alloc _ _ = x1 at S1 ⊢
        clear S0 hz
        refine anyB_one (i := 3) (by kernel_rfl) rfl (fun K hK => ?_)
        go_simp
        rw [HMK.out]
        go_simp
        refine hK.out _ _ (fun _ => (boxed _ _)) ?_
        clear hK K
        have S2 := Lib.hid (S1.out.keep (boxed _ (.cells ZS 34)))
        generalize World.alloc _ _ = x2 at S2 ⊢
        clear S1
        refine anyB_one (i := 4) (by kernel_rfl) rfl (fun K hK => ?_)
        go_simp
        refine (XL.out _ _ _).mono ?_
        rintro e x3 ⟨rfl, b⟩
        refine hK.out _ _ (fun _ => b) ?_
        clear hK K
        have S3 := Lib.hid (S2.out.keep b)
        clear b S2
        refine anyB_seg [5, 6, 7] 2 rfl (by kernel_rfl) (by kernel_rfl) (by kernel_rfl) (fun _ _ d _ _ h => by cases d <;> exact h) ?_
        simp only [pickOps, List.getElem?_toArray, List.getElem?_cons_zero, List.getElem?_cons_succ]
        go_wp2_with fail
        refine ⟨rfl, by rfl, ?_⟩
        obtain ⟨bz, lz⟩ := S3.out.bz _ rfl
        have f0 := bz.cell_ 0 _ rfl
        have f1 := bz.cell_ 1 _ rfl
        have f2 := bz.cell_ 2 _ rfl
        have ff := bz.frozen
        clear bz lz
        refine anyB_one (i := 9) (by kernel_rfl) rfl (fun K hK => ?_)
        go_simp
        refine hK.out _ _ (fun h => absurd (by decide) h) ?_
        clear hK K
        refine anyB_seg [10] 0 rfl (by kernel_rfl) (by kernel_rfl) (by kernel_rfl) (fun _ _ d _ _ h => by cases d <;> exact h) ?_
        simp only [pickOps, List.getElem?_toArray, List.getElem?_cons_zero, List.getElem?_cons_succ]
        go_wp2_with fail
        refine ⟨rfl, by rfl, ?_⟩
        refine anyB_done (by kernel_rfl) ?_ _
        have FN := Lib.hid (S3.out.fin (.slice none 0 0) (.slice none 0 0) (.slice none 0 0) rfl)
        clear f0 f1 f2 ff S3
        generalize World.setCell _ _ _ = x9 at FN ⊢
        go_wp2_with fail
        go_meet
        exact ⟨rfl, _, rfl, FN.out⟩

    case rest =>
      obtain ⟨rfl, zo, rfl, hb8, B8⟩ := hcut
      have y0 := B8.cell_ 0 _ rfl
      have H8 := Lib.hid (below_step H7.out (Nat.le_refl _) hb8)
      clear hb8 B8
      rw [s_1 _ k1, s_2 _ k1]
      go_wp2_with fail
      go_ret
      exact ⟨rfl, H8.out⟩
end Go.Proofs.YtjbnfigpflambaaDoor
