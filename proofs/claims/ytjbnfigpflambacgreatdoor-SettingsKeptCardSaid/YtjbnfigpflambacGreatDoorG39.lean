/- More of the texts: KepW. -/
import Derived.Test.YtjbnfigpflambacGreatDoorRows
import Derived.Test.YtjbnfigpflambacGreatDoorProg
import Derived.Test.YtjbnfigpflambacGreatDoorG00
import Derived.Test.YtjbnfigpflambacGreatDoorG01
import Derived.Test.YtjbnfigpflambacGreatDoorG02
import Derived.Test.YtjbnfigpflambacGreatDoorG03
import Derived.Test.YtjbnfigpflambacGreatDoorG04
import Derived.Test.YtjbnfigpflambacGreatDoorG05
import Derived.Test.YtjbnfigpflambacGreatDoorG06
import Derived.Test.YtjbnfigpflambacGreatDoorG07
import Derived.Test.YtjbnfigpflambacGreatDoorG08
import Derived.Test.YtjbnfigpflambacGreatDoorG09
import Derived.Test.YtjbnfigpflambacGreatDoorG10
import Derived.Test.YtjbnfigpflambacGreatDoorG11
import Derived.Test.YtjbnfigpflambacGreatDoorG12
import Derived.Test.YtjbnfigpflambacGreatDoorG13
import Derived.Test.YtjbnfigpflambacGreatDoorG14
import Derived.Test.YtjbnfigpflambacGreatDoorG15
import Derived.Test.YtjbnfigpflambacGreatDoorG16
import Derived.Test.YtjbnfigpflambacGreatDoorG17
import Derived.Test.YtjbnfigpflambacGreatDoorG18
import Derived.Test.YtjbnfigpflambacGreatDoorG19
import Derived.Test.YtjbnfigpflambacGreatDoorG20
import Derived.Test.YtjbnfigpflambacGreatDoorG21
import Derived.Test.YtjbnfigpflambacGreatDoorG22
import Derived.Test.YtjbnfigpflambacGreatDoorG23
import Derived.Test.YtjbnfigpflambacGreatDoorG24
import Derived.Test.YtjbnfigpflambacGreatDoorG25
import Derived.Test.YtjbnfigpflambacGreatDoorG26
import Derived.Test.YtjbnfigpflambacGreatDoorG27
import Derived.Test.YtjbnfigpflambacGreatDoorG28
import Derived.Test.YtjbnfigpflambacGreatDoorG29
import Derived.Test.YtjbnfigpflambacGreatDoorG30
import Derived.Test.YtjbnfigpflambacGreatDoorG31
import Derived.Test.YtjbnfigpflambacGreatDoorG32
import Derived.Test.YtjbnfigpflambacGreatDoorG33
import Derived.Test.YtjbnfigpflambacGreatDoorG34
import Derived.Test.YtjbnfigpflambacGreatDoorG35
import Derived.Test.YtjbnfigpflambacGreatDoorG37
import Derived.Test.YtjbnfigpflambacGreatDoorG38
import Derived.Lib.Split
import Derived.Lib.SplitLaws
import Derived.Lib.SlicesS
import Derived.Lib.IndexBytes
import Derived.Lib.Bytealg
import GoSem.Op.String
import Derived.WalkKit
import Derived.ProofKit
import Derived.OpenShut
import Derived.Below
import Derived.Outline
import Derived.Lib.Hide
import Derived.ShutString
import Derived.ChangeOld
import Derived.Lib.SmallJoins
import Derived.Laws.OwnMore
import Derived.Deep.AppendLies
import Derived.Deep.Draws
import Derived.Laws.Rows
import Derived.Maps.AppendAt
import Derived.RegionTactic
import Derived.OwnWalk
import Derived.Deep.QuietTactic
import Derived.BigQuiet
import Derived.WalkSpells
import Derived.WalkLawsBesides
import Derived.Deep.RegionHeld3
import Derived.OrdersHeld
import Derived.Deep.DeepCutAuto
import Derived.Shelf.Strings.Builder1
import Derived.Shelf.Small.Strs
import Derived.Shelf.Strings.BuilderF
import Derived.Shelf.Strings.BuilderK
import Derived.Shelf.Strconv.Itoa0
import Derived.Shelf.Strconv.Itoa1
import Derived.Shelf.LaysM
import Derived.Shelf.Strconv.Itoa2
import Derived.Shelf.Strconv.Itoa3
import Derived.Shelf.Strings.Search1
import Derived.Shelf.Strings.Search2
import Derived.Shelf.Strings.Search3
import Derived.Shelf.Strings.Count
import Derived.Shelf.Strings.Shaped
import Derived.Shelf.Strings.Prefix
import Derived.Shelf.Strings.Split
import Derived.Shelf.Strings.SplitShaped
import Derived.Shelf.Bits.Mul64
import Derived.Shelf.Unicode.DecodeSlow
import Derived.Shelf.Strings.BuilderCap
import Derived.Shelf.Slices.Turned
import Derived.Shelf.Slices.Equal
import Derived.Shelf.Slices.Empties2
import Derived.Laws.CopyRow
import Derived.Laws.IdiomCopy
import Derived.Laws.AppendOwn
import Derived.Lib.AppendZerosOnto
import Derived.Lib.Overlaps
import Derived.Tactics
import Derived.Laws.Externs
import Derived.Lib.ConvBytes
import Derived.Lib.LaidTab
import Derived.Deep.DeepHandedRow
import Derived.Maps.Own
import Derived.Maps.OwnSet
import Derived.Maps.Views
import Derived.Maps.OwnOps
import Derived.Deep.Slices
import Derived.Deep.Fields
import Derived.ChangeSame
import Derived.SizedLaws
import Derived.Lib.IndexLaws
import Derived.Lib.AppendStr
import Derived.Laws.MakeOwn
import Derived.Deep.CutBlock
import Derived.Lib.Builder
import Derived.Lib.Walk
import Derived.Lib.UnsafeStr
import Derived.Lib.SliceRun
import Derived.Lib.ItoaNum
/- The walk of SettingsKept: it returns true. -/
namespace Go.Proofs.YtjbnfigpflambacGreatDoor
open Go.ChangeShapes Go.WideShapes Go.ChangeAt Go.RowKit
structure KepN (W0 wc : World) (z : Nat) (vs vd vr : Value) (o : Outc) : Prop where
 bel : Below W0.heap.size W0 wc
 box : BoxO wc W0.heap.size z vs vd vr o
theorem own_lit (w : World) (cs : Array Value) (l : List ByteArray) (h : cs.toList = l.map .string) (hl : l.length ≤ 1000) : OwnO (w.alloc (.cells cs 9)) w.heap.size 9 1 (.slice (some ⟨w.heap.size, 0, none⟩) l.length l.length) l.length (l.map .string) := by
 have hs : cs.size = l.length := by rw [← Array.length_toList, h, List.length_map]
 refine ⟨by simp, .inr ⟨w.heap.size, 0, l.length, cs, rfl, Nat.le_refl _, heap_alloc_new w _, Nat.le_refl _, by unfold maxLen; omega, by omega, ?_⟩⟩
 rw [List.drop_zero, Nat.mul_one, h, List.take_of_length_le (by simp)]
theorem boxO_set {w : World} {B z : Nat} {vs vd vr : Value} {o : Outc} (hb : Blk w z 29 #[.slice none 0 0, .slice none 0 0, .slice none 0 0]) (h : OutR w B vs vd vr o) (hz : B ≤ z) :
  BoxO (((w.setCell ⟨z, 0, none⟩ vs).setCell ⟨z, 1, none⟩ vd).setCell ⟨z, 2, none⟩ vr) B z vs vd vr o := by
 have kp : ∀ t, 29 ≠ t → Keeps t w (((w.setCell ⟨z, 0, none⟩ vs).setCell ⟨z, 1, none⟩ vd).setCell ⟨z, 2, none⟩ vr) := fun t ht =>
  ((Keeps.set_ (p := ⟨z, 0, none⟩) hb ht _).trans (Keeps.set_ (p := ⟨z, 1, none⟩) (hb.set_ 0 vs) ht _)).trans (Keeps.set_ (p := ⟨z, 2, none⟩) ((hb.set_ 0 vs).set_ 1 vd) ht _)
 exact ⟨hz, ((hb.set_ 0 vs).set_ 1 vd).set_ 2 vr, h.keeps (kp _ (by decide)) (kp _ (by decide)) (kp _ (by decide))⟩
set_option maxHeartbeats 16000000 in
set_option maxRecDepth 100000 in
theorem settingsKept_walk (W0 : World) (hT : Tabs W0) (n : Int) (hn : (Lit.int .i64 n).wf = true) (m : Int) (hm : (Lit.int .i64 m).wf = true) (md : Bool) :
  Calls Tryz.prog 5 #[.int .i64 n, .int .i64 m, .bool md] W0 fun e w' => e = .returned (.bool true) ∧ Below W0.heap.size W0 w' := by
 have HT := Lib.hid hT
 have HNW := Lib.hid hn
 have HMW := Lib.hid hm
 obtain ⟨i, hi, hi1⟩ : ∃ i : Nat, pick n 100 = (i : Int) ∧ i < 100 := ⟨(pick n 100).toNat, by have := pick_bd n 100 (by decide); omega, by have := pick_bd n 100 (by decide); omega⟩
 obtain ⟨j, hj, hj1⟩ : ∃ j : Nat, pick m 100 = (j : Int) ∧ j < 100 := ⟨(pick m 100).toNat, by have := pick_bd m 100 (by decide); omega, by have := pick_bd m 100 (by decide); omega⟩
 obtain ⟨hv, hdi⟩ := val_okK hi1
 obtain ⟨ho, hdj⟩ := val_okK hj1
 obtain ⟨di, hdie⟩ : ∃ d, digK i = d := ⟨_, rfl⟩
 obtain ⟨dj, hdje⟩ : ∃ d, digK j = d := ⟨_, rfl⟩
 have hvi : valK i = ⟨#[118]⟩ ++ di := by unfold valK; rw [hdie]
 have hvj : valK j = ⟨#[118]⟩ ++ dj := by unfold valK; rw [hdje]
 rw [hdie] at hdi
 rw [hdje] at hdj
 have H1 := Lib.hid (fun w => Tryz.strconv_Itoa_small i hi1 w)
 have H2 := Lib.hid (fun w => Tryz.strconv_Itoa_small j hj1 w)
 have hdie' : (⟨(Lib.decDigits i).toArray⟩ : ByteArray) = di := hdie
 have hdje' : (⟨(Lib.decDigits j).toArray⟩ : ByteArray) = dj := hdje
 rw [hdie'] at H1
 rw [hdje'] at H2
 have HI := Lib.hid hi
 have HJ := Lib.hid hj
 obtain ⟨v, hvE⟩ : ∃ v, valK i = v := ⟨_, rfl⟩
 obtain ⟨o, hoE⟩ : ∃ v, valK j = v := ⟨_, rfl⟩
 rw [hvE] at hv hvi
 rw [hoE] at ho hvj
 have HV := Lib.hid hv
 have HO := Lib.hid ho
 have HVI := Lib.hid hvi
 have HVJ := Lib.hid hvj
 clear hT hn hm hi hj hv ho hdie hdje hdie' hdje' hvE hoE hvi hvj hi1 hj1
 go_enter Tryz.func5, Tryz.ntmps5
 go_wp2_with fail
 refine (picked_any _ _ _ HNW.out (by decide) (by decide)).mono ?_
 rintro e w1 ⟨rfl, rfl⟩
 rw [HI.out]
 go_wp2_with fail
 refine (H1.out _).mono ?_
 rintro e w1 ⟨rfl, hw⟩
 obtain rfl := hw.symm
 go_upto_region 2 with fail
 rw [← HVI.out]
 clear hdi
 go_wp2_with fail
 refine (picked_any _ _ _ HMW.out (by decide) (by decide)).mono ?_
 rintro e w1 ⟨rfl, rfl⟩
 rw [HJ.out]
 go_wp2_with fail
 refine (H2.out _).mono ?_
 rintro e w1 ⟨rfl, hw⟩
 obtain rfl := hw.symm
 go_upto_region 3 with fail
 rw [← HVJ.out]
 clear hdj
 have S2 := Lib.hid (Blk.new W0 23 #[.int .i64 2, .int .i64 1])
 have B2 := Lib.hid (boxed W0 (.cells #[.int .i64 2, .int .i64 1] 23))
 obtain ⟨qs, hqs⟩ : ∃ z, W0.heap.size = z := ⟨_, rfl⟩
 have HQ := Lib.hid hqs
 rw [hqs] at S2
 go_upto_region 4 with fail
 generalize World.alloc _ _ = w2 at B2 S2 ⊢
 clear hqs
 have s0 := S2.out.cell_ 0 _ rfl
 have fs := S2.out.frozen
 go_upto_if 28 with fail
 go_cut [] (fun wc => ∃ mode : Int, (mode = 2 ∨ mode = 3) ∧ Below W0.heap.size W0 wc ∧ Blk wc qs 23 #[.int .i64 mode, .int .i64 1])
 case first =>
  cases md with
  | true =>
   go_wp2_with fail
   go_meet
   exact ⟨3, .inr rfl, B2.out.setCell (p := ⟨qs, 0, none⟩) (Nat.le_of_eq HQ.out) _, S2.out.set_ 0 _⟩
  | false =>
   go_wp2_with fail
   go_meet
   exact ⟨2, .inl rfl, B2.out, S2.out⟩
 case rest =>
  obtain ⟨mode, hmode, hb2, hs2⟩ := hcut
  have HOUT := Lib.hid (out_kept mode (by rcases hmode with h | h <;> rw [h] <;> decide) HV.out HO.out)
  have hset : setupE mode 1 = 0 := by unfold setupE; rcases hmode with h | h <;> (rw [h]; decide)
  have HK := Lib.hid (kept_ok HV.out.said.t saidK_prep.t saidK_get.t saidK_run.t HO.out.said.t)
  obtain ⟨KL, hKL⟩ : ∃ KL, keptL (textOf (setS v)) (textOf prepS) (textOf getS) (textOf runS) (textOf (setS o)) = KL := ⟨_, rfl⟩
  have HKL := Lib.hid hKL
  have hln : KL.length ≤ 300 := by rw [← hKL]; show 6 ≤ 300; decide
  have hoks : ∀ a ∈ KL, AcOk a := fun a ha => (HK.out a (by rw [hKL]; exact ha)).1
  have HRUN := Lib.hid (fun (u : World) (va : Value) (hb : Below W0.heap.size W0 u) (ha : AcL u u.heap.size va KL) => run_any u mode 1 va KL hset (by decide) (by decide) ha hln hoks (HT.out.below hb))
  have H6 := Lib.hid (out_six mode 1 KL)
  rw [hKL] at HOUT
  obtain ⟨ou, hou⟩ : ∃ ou, outM mode 1 KL = ou := ⟨_, rfl⟩
  rw [hou] at HRUN HOUT H6
  have bb := boxed2 wc (.cells #[.int .i64 6, .string ⟨#[97]⟩, .string ⟨#[]⟩] 41) (.cells #[.int .i64 8, .string ⟨#[105, 116]⟩, .string ⟨#[]⟩] 41)
  have B5 := Lib.hid (below_step hb2 (Nat.le_refl _) bb)
  have S5 := Lib.hid (hs2.keep bb)
  have G5 := Lib.hid ((Blk.new wc 41 #[.int .i64 6, .string ⟨#[97]⟩, .string ⟨#[]⟩]).alloc (.cells #[.int .i64 8, .string ⟨#[105, 116]⟩, .string ⟨#[]⟩] 41))
  have R5 := Lib.hid (Blk.new1 wc (.cells #[.int .i64 6, .string ⟨#[97]⟩, .string ⟨#[]⟩] 41) 41 #[.int .i64 8, .string ⟨#[105, 116]⟩, .string ⟨#[]⟩])
  obtain ⟨q, hq⟩ : ∃ z, wc.heap.size = z := ⟨_, rfl⟩
  rw [hq] at G5 R5
  clear hmode hb2 hs2 hset hln hoks hKL hou bb B2 S2 s0 fs
  go_upto_region 9 with fail
  generalize (World.alloc _ _).alloc _ = w5 at B5 S5 G5 R5 ⊢
  clear hq
  have s0 := S5.out.cell_ 0 _ rfl
  have s1 := S5.out.cell_ 1 _ rfl
  have a0 := G5.out.cell_ 0 _ rfl
  have a1 := G5.out.cell_ 1 _ rfl
  have a2 := G5.out.cell_ 2 _ rfl
  have b0 := R5.out.cell_ 0 _ rfl
  have b1 := R5.out.cell_ 1 _ rfl
  have b2 := R5.out.cell_ 2 _ rfl
  go_cut [13, 14] (fun p e wx => ∃ z vs vd vr, p = .pointer (some ⟨z, 0, none⟩) ∧ e = .int .i64 0 ∧ KepN W0 wx z vs vd vr ou)
  case first =>
   refine region_segs [36] (by kernel_rfl) ?_
   refine anyB_seg [0, 1, 2, 3, 4, 7, 8, 9, 10, 11, 14, 15, 16, 19, 20, 21, 24, 25, 26, 27] 18 rfl (by kernel_rfl) (by kernel_rfl) (by kernel_rfl) (fun _ _ d _ _ h => by cases d <;> exact h) ?_
   simp only [pickOps, List.getElem?_toArray, List.getElem?_cons_zero, List.getElem?_cons_succ]
   go_wp2_with fail
   refine ⟨rfl, by rfl, ?_⟩
   have B6 := Lib.hid B5.out.drew
   clear s0 s1 a0 a1 a2 b0 b1 b2 S5 G5 R5 B5
   generalize w5.drew = x0 at B6 ⊢
   obtain ⟨D0, hD0⟩ : ∃ D, catQ [textOf (setS v), textOf prepS] = D := ⟨_, rfl⟩
   obtain ⟨D1, hD1⟩ : ∃ D, catQ [textOf getS, textOf runS, textOf (setS o)] = D := ⟨_, rfl⟩
   obtain ⟨D2, hD2⟩ : ∃ D, catQ [textOf getS, textOf runS] = D := ⟨_, rfl⟩
   refine kep_region _ W0 x0 v o D0 D1 D2 (by kernel_rfl) (by kernel_rfl) (by kernel_rfl) ?s5 ?s6 ?s12 ?s13 ?s17 ?s18 ?s22 ?s23 ?s28 ?s29 ?s30 ?s35 ?s31 ⟨false, false, false, false, false, false, false, false, false, false, false, false, u38, u39, u45, u46, u50, u51, u55, u56, u61, u62, u63, undef⟩ ?ha ?h0 18 _ ?hd ?hn
   case ha => kernel_rfl
   case hd => rfl
   case hn => kernel_rfl
   case h0 => exact ⟨B6.out, (fun h => Bool.noConfusion (show false = true from h)), (fun h => Bool.noConfusion (show false = true from h)), (fun h => Bool.noConfusion (show false = true from h)), (fun h => Bool.noConfusion (show false = true from h)), (fun h => Bool.noConfusion (show false = true from h)), (fun h => Bool.noConfusion (show false = true from h)), (fun h => Bool.noConfusion (show false = true from h)), (fun h => Bool.noConfusion (show false = true from h)), (fun h => Bool.noConfusion (show false = true from h)), (fun h => Bool.noConfusion (show false = true from h)), (fun h => Bool.noConfusion (show false = true from h)), (fun h => Bool.noConfusion (show false = true from h)), (fun h => Bool.noConfusion (show false = true from h)), (fun h => Bool.noConfusion (show false = true from h)), (fun h => Bool.noConfusion (show false = true from h)), (fun h => Bool.noConfusion (show false = true from h)), (fun h => Bool.noConfusion (show false = true from h)), (fun h => Bool.noConfusion (show false = true from h))⟩
   case s5 =>
    intro x w hok
    have HS := Lib.hid hok
    refine wpOp_step rfl (fun K hK0 => ?_)
    have hK := Lib.hid hK0
    clear hK0 hok
    obtain ⟨d5, d6, d12, d13, d17, d18, d22, d23, d28, d29, d30, d35, t38, t39, t45, t46, t50, t51, t55, t56, t61, t62, t63, t13⟩ := x
    simp only [KQ.act]
    go_simp
    exact hK.out _ _ ⟨fun _ => boxed _ _, .slice (some ⟨w.heap.size, 0, none⟩) 2 2, (HS.out.keep (boxed _ _)).set5 ⟨_, rfl, Blk.new _ _ _⟩, by kernel_rfl⟩
   case s12 =>
    intro x w hok
    have HS := Lib.hid hok
    refine wpOp_step rfl (fun K hK0 => ?_)
    have hK := Lib.hid hK0
    clear hK0 hok
    obtain ⟨d5, d6, d12, d13, d17, d18, d22, d23, d28, d29, d30, d35, t38, t39, t45, t46, t50, t51, t55, t56, t61, t62, t63, t13⟩ := x
    simp only [KQ.act]
    go_simp
    exact hK.out _ _ ⟨fun _ => boxed _ _, .slice (some ⟨w.heap.size, 0, none⟩) 3 3, (HS.out.keep (boxed _ _)).set12 ⟨_, rfl, Blk.new _ _ _⟩, by kernel_rfl⟩
   case s17 =>
    intro x w hok
    have HS := Lib.hid hok
    refine wpOp_step rfl (fun K hK0 => ?_)
    have hK := Lib.hid hK0
    clear hK0 hok
    obtain ⟨d5, d6, d12, d13, d17, d18, d22, d23, d28, d29, d30, d35, t38, t39, t45, t46, t50, t51, t55, t56, t61, t62, t63, t13⟩ := x
    simp only [KQ.act]
    go_simp
    exact hK.out _ _ ⟨fun _ => boxed _ _, .slice (some ⟨w.heap.size, 0, none⟩) 2 2, (HS.out.keep (boxed _ _)).set17 ⟨_, rfl, Blk.new _ _ _⟩, by kernel_rfl⟩
   case s22 =>
    intro x w hok
    have HS := Lib.hid hok
    refine wpOp_step rfl (fun K hK0 => ?_)
    have hK := Lib.hid hK0
    clear hK0 hok
    obtain ⟨d5, d6, d12, d13, d17, d18, d22, d23, d28, d29, d30, d35, t38, t39, t45, t46, t50, t51, t55, t56, t61, t62, t63, t13⟩ := x
    simp only [KQ.act]
    go_simp
    exact hK.out _ _ ⟨fun _ => boxed _ _, .slice (some ⟨w.heap.size, 0, none⟩) 2 2, (HS.out.keep (boxed _ _)).set22 ⟨_, rfl, Blk.new _ _ _⟩, by kernel_rfl⟩
   case s28 =>
    intro x w hok
    have HS := Lib.hid hok
    refine wpOp_step rfl (fun K hK0 => ?_)
    have hK := Lib.hid hK0
    clear hK0 hok
    obtain ⟨d5, d6, d12, d13, d17, d18, d22, d23, d28, d29, d30, d35, t38, t39, t45, t46, t50, t51, t55, t56, t61, t62, t63, t13⟩ := x
    simp only [KQ.act]
    go_simp
    exact hK.out _ _ ⟨fun _ => boxed _ _, .slice (some ⟨w.heap.size, 0, none⟩) 2 2, (HS.out.keep (boxed _ _)).set28 ⟨_, rfl, Blk.new _ _ _⟩, by kernel_rfl⟩
   case s6 =>
    intro x w hok h5
    obtain ⟨g, e, hb⟩ := hok.f5 h5
    have HB := hok.bel
    have HS := Lib.hid hok
    refine wpOp_step rfl (fun K hK0 => ?_)
    have hK := Lib.hid hK0
    clear hK0 hok
    obtain ⟨d5, d6, d12, d13, d17, d18, d22, d23, d28, d29, d30, d35, t38, t39, t45, t46, t50, t51, t55, t56, t61, t62, t63, t13⟩ := x
    simp only at e h5
    subst e
    simp only [KQ.act]
    go_simp
    refine (katc_any w 0 [setS v, prepS] _ (two_stmts hb rfl) (HT.out.below HB) (by intro x hx; simp only [List.mem_cons, List.not_mem_nil, or_false] at hx; rcases hx with rfl | rfl <;> first | exact HV.out.said | exact saidK_prep) (by simp)).mono ?_
    rintro e w' ⟨rfl, bw⟩
    have hDD := hD0
    simp only [List.map_cons, List.map_nil]
    rw [hDD]
    exact hK.out _ _ ⟨fun _ => bw, _, (HS.out.keep bw).set6 h5 rfl, by kernel_rfl⟩
   case s13 =>
    intro x w hok h12 h6
    obtain ⟨g, e, hb⟩ := hok.f12 h12
    have HB := hok.bel
    have HS := Lib.hid hok
    refine wpOp_step rfl (fun K hK0 => ?_)
    have hK := Lib.hid hK0
    clear hK0 hok
    obtain ⟨d5, d6, d12, d13, d17, d18, d22, d23, d28, d29, d30, d35, t38, t39, t45, t46, t50, t51, t55, t56, t61, t62, t63, t13⟩ := x
    simp only at e h12 h6
    subst e
    simp only [KQ.act]
    go_simp
    refine (katc_any w 1 [getS, runS, setS o] _ (three_stmts hb rfl) (HT.out.below HB) (by intro x hx; simp only [List.mem_cons, List.not_mem_nil, or_false] at hx; rcases hx with rfl | rfl | rfl <;> first | exact saidK_get | exact saidK_run | exact HO.out.said) (by simp)).mono ?_
    rintro e w' ⟨rfl, bw⟩
    have hDD := hD1
    simp only [List.map_cons, List.map_nil]
    rw [hDD]
    exact hK.out _ _ ⟨fun _ => bw, _, (HS.out.keep bw).set13 h12 h6 rfl, by kernel_rfl⟩
   case s18 =>
    intro x w hok h17 h13
    obtain ⟨g, e, hb⟩ := hok.f17 h17
    have HB := hok.bel
    have HS := Lib.hid hok
    refine wpOp_step rfl (fun K hK0 => ?_)
    have hK := Lib.hid hK0
    clear hK0 hok
    obtain ⟨d5, d6, d12, d13, d17, d18, d22, d23, d28, d29, d30, d35, t38, t39, t45, t46, t50, t51, t55, t56, t61, t62, t63, t13⟩ := x
    simp only at e h17 h13
    subst e
    simp only [KQ.act]
    go_simp
    refine (katc_any w 0 [getS, runS] _ (two_stmts hb rfl) (HT.out.below HB) (by intro x hx; simp only [List.mem_cons, List.not_mem_nil, or_false] at hx; rcases hx with rfl | rfl <;> first | exact saidK_get | exact saidK_run) (by simp)).mono ?_
    rintro e w' ⟨rfl, bw⟩
    have hDD := hD2
    simp only [List.map_cons, List.map_nil]
    rw [hDD]
    exact hK.out _ _ ⟨fun _ => bw, _, (HS.out.keep bw).set18 h17 h13 rfl, by kernel_rfl⟩
   case s23 =>
    intro x w hok h22 h18
    obtain ⟨g, e, hb⟩ := hok.f22 h22
    have HB := hok.bel
    have HS := Lib.hid hok
    refine wpOp_step rfl (fun K hK0 => ?_)
    have hK := Lib.hid hK0
    clear hK0 hok
    obtain ⟨d5, d6, d12, d13, d17, d18, d22, d23, d28, d29, d30, d35, t38, t39, t45, t46, t50, t51, t55, t56, t61, t62, t63, t13⟩ := x
    simp only at e h22 h18
    subst e
    simp only [KQ.act]
    go_simp
    refine (katc_any w 1 [getS, runS] _ (two_stmts hb rfl) (HT.out.below HB) (by intro x hx; simp only [List.mem_cons, List.not_mem_nil, or_false] at hx; rcases hx with rfl | rfl <;> first | exact saidK_get | exact saidK_run) (by simp)).mono ?_
    rintro e w' ⟨rfl, bw⟩
    have hDD := hD2
    simp only [List.map_cons, List.map_nil]
    rw [hDD]
    exact hK.out _ _ ⟨fun _ => bw, _, (HS.out.keep bw).set23 h22 h18 rfl, by kernel_rfl⟩
   case s29 =>
    intro x w hok h28 h23
    obtain ⟨g, e, hb⟩ := hok.f28 h28
    have HB := hok.bel
    have HS := Lib.hid hok
    refine wpOp_step rfl (fun K hK0 => ?_)
    have hK := Lib.hid hK0
    clear hK0 hok
    obtain ⟨d5, d6, d12, d13, d17, d18, d22, d23, d28, d29, d30, d35, t38, t39, t45, t46, t50, t51, t55, t56, t61, t62, t63, t13⟩ := x
    simp only at e h28 h23
    subst e
    simp only [KQ.act]
    go_simp
    refine (katc_any w 0 [getS, runS] _ (two_stmts hb rfl) (HT.out.below HB) (by intro x hx; simp only [List.mem_cons, List.not_mem_nil, or_false] at hx; rcases hx with rfl | rfl <;> first | exact saidK_get | exact saidK_run) (by simp)).mono ?_
    rintro e w' ⟨rfl, bw⟩
    have hDD := hD2
    simp only [List.map_cons, List.map_nil]
    rw [hDD]
    exact hK.out _ _ ⟨fun _ => bw, _, (HS.out.keep bw).set29 h28 h23 rfl, by kernel_rfl⟩
   case s30 =>
    intro x w hok h6 h13 h18 h23 h29
    have e6 := hok.f6 h6
    have e13 := hok.f13 h13
    have e18 := hok.f18 h18
    have e23 := hok.f23 h23
    have e29 := hok.f29 h29
    have HS := Lib.hid hok
    refine wpOp_step rfl (fun K hK0 => ?_)
    have hK := Lib.hid hK0
    clear hK0 hok
    obtain ⟨d5, d6, d12, d13, d17, d18, d22, d23, d28, d29, d30, d35, t38, t39, t45, t46, t50, t51, t55, t56, t61, t62, t63, t13⟩ := x
    simp only at e6 e13 e18 e23 e29 h29
    subst e6 e13 e18 e23 e29
    simp only [KQ.act]
    go_simp
    exact hK.out _ _ ⟨fun _ => boxed _ _, .slice (some ⟨w.heap.size, 0, none⟩) 6 6, (HS.out.keep (boxed _ _)).set30 h29 ⟨_, rfl, Blk.new _ _ _⟩, by kernel_rfl⟩
   case s35 =>
    intro x w hok
    have HS := Lib.hid hok
    refine wpOp_step rfl (fun K hK0 => ?_)
    have hK := Lib.hid hK0
    clear hK0 hok
    have hb := HS.out.bel.size
    obtain ⟨d5, d6, d12, d13, d17, d18, d22, d23, d28, d29, d30, d35, t38, t39, t45, t46, t50, t51, t55, t56, t61, t62, t63, t13⟩ := x
    simp only [KQ.act]
    go_simp
    exact hK.out _ _ ⟨fun _ => boxed _ _, .pointer (some ⟨w.heap.size, 0, none⟩), (HS.out.keep (boxed _ _)).set35 ⟨_, rfl, Blk.new _ _ _, hb⟩, by kernel_rfl⟩
   case s31 =>
    intro x w hok h5 h6 h12 h13 h17 h18 h22 h23 h28 h29 h30
    obtain ⟨g, e, hb⟩ := hok.f30 h30
    have HB := hok.bel
    have HS := Lib.hid hok
    refine wpOp_step rfl (fun K hK0 => ?_)
    have hK := Lib.hid hK0
    clear hK0 hok
    have hacl : AcL w w.heap.size (.slice (some ⟨g, 0, none⟩) 6 6) KL := by
     rw [← hD0, ← hD1, ← hD2] at hb
     have := six_acts hb
     rw [HKL.out] at this
     exact this
    obtain ⟨d5, d6, d12, d13, d17, d18, d22, d23, d28, d29, d30, d35, t38, t39, t45, t46, t50, t51, t55, t56, t61, t62, t63, t13⟩ := x
    simp only at e h5 h6 h12 h13 h17 h18 h22 h23 h28 h29 h30
    subst e h5 h6 h12 h13 h17 h18 h22 h23 h28 h29 h30
    simp only [KQ.act]
    go_simp
    refine (HRUN.out w _ HB hacl).mono ?_
    rintro e w' ⟨vs, vd, vr, rfl, hO, bw⟩
    have HS2 := Lib.hid (HS.out.keep bw)
    have HOU := Lib.hid (hO.base HB.size)
    refine hK.out _ _ ⟨fun _ => bw, ?_⟩
    obtain ⟨A1, c1, A2, c2, A3, c3, rfl, rfl, rfl⟩ := outR_form hO
    rw [H6.out] at HOU ⊢
    clear hO bw hK K HS hb HB hacl
    cases d35 with
    | false =>
     rw [show leftN _ = 6 from by kernel_rfl]
     refine anyB_seg [32, 33, 34] 3 rfl (by kernel_rfl) (by kernel_rfl) (by kernel_rfl) (fun _ _ d _ _ h => by cases d <;> exact h) ?_
     simp only [pickOps, List.getElem?_toArray, List.getElem?_cons_zero, List.getElem?_cons_succ]
     go_wp2_with fail
     refine ⟨rfl, by rfl, ?_⟩
     refine anyB_one (i := 35) (by kernel_rfl) rfl (fun K hK => ?_)
     go_simp
     refine hK.out _ _ (fun _ => (boxed _ _)) ?_
     clear hK K
     have BX := Lib.hid (HS2.out.bel.alloc HS2.out.bel.size (.cells #[.slice none 0 0, .slice none 0 0, .slice none 0 0] 29))
     have XB := Lib.hid (Blk.new w' 29 #[.slice none 0 0, .slice none 0 0, .slice none 0 0])
     have XO := Lib.hid (HOU.out.keep (boxed w' (.cells #[.slice none 0 0, .slice none 0 0, .slice none 0 0] 29)))
     have hz := HS2.out.bel.size
     obtain ⟨z, hze⟩ : ∃ z, w'.heap.size = z := ⟨_, rfl⟩
     rw [hze] at XB hz ⊢
     generalize World.alloc _ _ = w9 at BX XB XO ⊢
     clear hze HS2 HOU
     have x0 := XB.out.cell_ 0 _ rfl
     have x1 := XB.out.cell_ 1 _ rfl
     have x2 := XB.out.cell_ 2 _ rfl
     have fx := XB.out.frozen
     refine anyB_one (i := 36) (by kernel_rfl) rfl (fun K hK => ?_)
     go_simp
     refine hK.out _ _ (fun h => absurd (by decide) h) ?_
     clear hK K
     refine anyB_seg [37] 0 rfl (by kernel_rfl) (by kernel_rfl) (by kernel_rfl) (fun _ _ d _ _ h => by cases d <;> exact h) ?_
     simp only [pickOps, List.getElem?_toArray, List.getElem?_cons_zero, List.getElem?_cons_succ]
     go_wp2_with fail
     refine ⟨rfl, by rfl, ?_⟩
     refine anyB_done (by kernel_rfl) ?_ _
     have FN := Lib.hid (KepN.mk (((BX.out.setCell (p := ⟨z, 0, none⟩) hz (.slice A1 6 c1)).setCell (p := ⟨z, 1, none⟩) hz (.slice A2 ou.deeds.length c2)).setCell (p := ⟨z, 2, none⟩) hz (.slice A3 ou.rows.length c3)) (boxO_set XB.out XO.out hz))
     clear x0 x1 x2 fx
     generalize World.setCell _ _ _ = w10 at FN ⊢
     go_wp2_with fail
     go_meet
     exact ⟨z, _, _, _, rfl, rfl, FN.out⟩
    | true =>
     obtain ⟨z, e, XB0, hz⟩ := HS2.out.f35 rfl
     simp only at e
     subst e
     have BX := Lib.hid HS2.out.bel
     have XB := Lib.hid XB0
     have XO := HOU
     clear XB0 HS2 HOU
     rw [show leftN _ = 5 from by kernel_rfl]
     refine anyB_seg [32, 33, 34] 2 rfl (by kernel_rfl) (by kernel_rfl) (by kernel_rfl) (fun _ _ d _ _ h => by cases d <;> exact h) ?_
     simp only [pickOps, List.getElem?_toArray, List.getElem?_cons_zero, List.getElem?_cons_succ]
     go_wp2_with fail
     refine ⟨rfl, by rfl, ?_⟩
     have x0 := XB.out.cell_ 0 _ rfl
     have x1 := XB.out.cell_ 1 _ rfl
     have x2 := XB.out.cell_ 2 _ rfl
     have fx := XB.out.frozen
     refine anyB_one (i := 36) (by kernel_rfl) rfl (fun K hK => ?_)
     go_simp
     refine hK.out _ _ (fun h => absurd (by decide) h) ?_
     clear hK K
     refine anyB_seg [37] 0 rfl (by kernel_rfl) (by kernel_rfl) (by kernel_rfl) (fun _ _ d _ _ h => by cases d <;> exact h) ?_
     simp only [pickOps, List.getElem?_toArray, List.getElem?_cons_zero, List.getElem?_cons_succ]
     go_wp2_with fail
     refine ⟨rfl, by rfl, ?_⟩
     refine anyB_done (by kernel_rfl) ?_ _
     have FN := Lib.hid (KepN.mk (((BX.out.setCell (p := ⟨z, 0, none⟩) hz (.slice A1 6 c1)).setCell (p := ⟨z, 1, none⟩) hz (.slice A2 ou.deeds.length c2)).setCell (p := ⟨z, 2, none⟩) hz (.slice A3 ou.rows.length c3)) (boxO_set XB.out XO.out hz))
     clear x0 x1 x2 fx
     generalize World.setCell _ _ _ = w10 at FN ⊢
     go_wp2_with fail
     go_meet
     exact ⟨z, _, _, _, rfl, rfl, FN.out⟩
  case rest =>
   obtain ⟨z, vs, vd, vr, rfl, rfl, FN0⟩ := hcut
   obtain ⟨A1, c1, A2, c2, A3, c3, rfl, rfl, rfl⟩ := outR_form FN0.box.out
   rw [H6.out] at FN0
   have FN := Lib.hid FN0
   clear FN0 s0 s1 a0 a1 a2 b0 b1 b2 S5 G5 R5 B5 HRUN HK HKL
   obtain ⟨q0, q1⟩ := HOUT.out
   have hst := FN.out.box.out.sent
   rw [H6.out] at hst
   obtain ⟨sg, so, sc, hse, xs⟩ := own_strs hst (by decide)
   injection hse with hA1 _ hc1
   subst hA1 hc1
   have xs0 := xs 0 (by rw [H6.out]; decide)
   rw [q0, Nat.add_zero] at xs0
   have g61 : (1 : Int) < 6 := by decide
   clear xs hst
   have x0 := FN.out.box.blk.cell_ 0 _ rfl
   have xs0' : wc.cell? ⟨sg, so, none⟩ = some (.string (catM [iok, iok, ⟨#[73, 61]⟩ ++ v, ⟨#[73, 61]⟩ ++ v, inone, inot])) := xs0
   have hv20 := HV.out.size
   have ho20 := HO.out.size
   have hi2 := tell_sz2 hv20
   have hi3 := tell_sz2 ho20
   have HZ1 := Lib.hid (show ∀ t ∈ [iok, iok, ⟨#[73, 61]⟩ ++ v, ⟨#[73, 61]⟩ ++ v, inone, inot], t.size ≤ 62 by
    intro t ht
    simp only [List.mem_cons, List.not_mem_nil, or_false] at ht
    rcases ht with rfl | rfl | rfl | rfl | rfl | rfl <;> first | exact hi2 | decide)
   have HZ2 := Lib.hid (show ∀ t ∈ [inone, inot, iok, ⟨#[73, 61]⟩ ++ o, inot], t.size ≤ 62 by
    intro t ht
    simp only [List.mem_cons, List.not_mem_nil, or_false] at ht
    rcases ht with rfl | rfl | rfl | rfl | rfl <;> first | exact hi3 | decide)
   have HQ1 := Lib.hid q1
   clear q0 q1 HOUT hi2 hi3 xs0
   generalize hE1 : catM [iok, iok, ⟨#[73, 61]⟩ ++ v, ⟨#[73, 61]⟩ ++ v, inone, inot] = C1 at xs0'
   have hh := fun w => answers_any w [iok, iok, ⟨#[73, 61]⟩ ++ v, ⟨#[73, 61]⟩ ++ v, inone, inot] HZ1.out (by simp)
   rw [hE1] at hh
   have HH := Lib.hid hh
   clear hh hE1
   go_wp2_with fail
   refine (HH.out _).mono ?_
   rintro e w5 ⟨va, rfl, oa, b5⟩
   have oa : w5.ownsRow wc.heap.size 9 1 va 6 _ := oa
   obtain ⟨Aa, ca, rfl⟩ := own_slice oa
   have OA := Lib.hid (OwnO.of_own oa)
   have X5 := Lib.hid (FN.out.box.keep b5)
   have B5 := Lib.hid (below_step FN.out.bel (Nat.le_refl _) b5)
   clear x0 xs0' oa b5 FN
   have x0 := X5.out.blk.cell_ 0 _ rfl
   have hst := X5.out.out.sent
   rw [H6.out] at hst
   obtain ⟨sg2, so2, sc2, hse, xs⟩ := own_strs hst (by decide)
   injection hse with hA1 _ _
   injection hA1 with hA1
   injection hA1 with hg2 ho2
   subst hg2 ho2
   have xs1 := xs 1 (by rw [H6.out]; decide)
   rw [HQ1.out] at xs1
   clear xs hst
   generalize hE2 : catM [inone, inot, iok, ⟨#[73, 61]⟩ ++ o, inot] = C2 at xs1
   have hh := fun w => answers_any w [inone, inot, iok, ⟨#[73, 61]⟩ ++ o, inot] HZ2.out (by simp)
   rw [hE2] at hh
   have HH := Lib.hid hh
   clear hh hE2
   go_wp2_with fail
   refine (HH.out _).mono ?_
   rintro e w6 ⟨vb, rfl, ob, b6⟩
   have ob : w6.ownsRow w5.heap.size 9 1 vb 5 _ := ob
   obtain ⟨Ab, cb, rfl⟩ := own_slice ob
   have OB := Lib.hid (OwnO.of_own ob)
   have OA6 := Lib.hid (OA.out.below b6)
   have B6 := Lib.hid (below_step B5.out (Nat.le_refl _) b6)
   clear x0 xs1 ob b6 OA B5 X5
   have HE := Lib.hid (strs_same (w6.alloc (.cells #[.string ⟨#[73, 111, 107]⟩, .string ⟨#[73, 111, 107]⟩, .string (⟨#[73, 61]⟩ ++ v), .string (⟨#[73, 61]⟩ ++ v), .string ⟨#[73, 110, 111, 110, 101]⟩, .string ⟨#[73, 33, 110, 111, 116, 32, 112, 114, 101, 112, 97, 114, 101, 100]⟩] 9)) _ w6.heap.size 6 _ _ [iok, iok, ⟨#[73, 61]⟩ ++ v, ⟨#[73, 61]⟩ ++ v, inone, inot] rfl (OA6.out.below (boxed _ _)) (own_lit w6 #[.string ⟨#[73, 111, 107]⟩, .string ⟨#[73, 111, 107]⟩, .string (⟨#[73, 61]⟩ ++ v), .string (⟨#[73, 61]⟩ ++ v), .string ⟨#[73, 110, 111, 110, 101]⟩, .string ⟨#[73, 33, 110, 111, 116, 32, 112, 114, 101, 112, 97, 114, 101, 100]⟩] [iok, iok, ⟨#[73, 61]⟩ ++ v, ⟨#[73, 61]⟩ ++ v, inone, inot] rfl (by simp)))
   go_wp2_with fail
   refine HE.out.mono ?_
   rintro e w7 ⟨rfl, b7⟩
   have B7 := Lib.hid (below_step (B6.out.alloc B6.out.size _) (Nat.le_refl _) b7)
   have OB7 := Lib.hid ((OB.out.below (boxed _ _)).below b7)
   clear b7 OA6 OB B6
   have HE := Lib.hid (strs_same (w7.alloc (.cells #[.string ⟨#[73, 110, 111, 110, 101]⟩, .string ⟨#[73, 33, 110, 111, 116, 32, 112, 114, 101, 112, 97, 114, 101, 100]⟩, .string ⟨#[73, 111, 107]⟩, .string (⟨#[73, 61]⟩ ++ o), .string ⟨#[73, 33, 110, 111, 116, 32, 112, 114, 101, 112, 97, 114, 101, 100]⟩] 9)) _ w7.heap.size 5 _ _ [inone, inot, iok, ⟨#[73, 61]⟩ ++ o, inot] rfl (OB7.out.below (boxed _ _)) (own_lit w7 #[.string ⟨#[73, 110, 111, 110, 101]⟩, .string ⟨#[73, 33, 110, 111, 116, 32, 112, 114, 101, 112, 97, 114, 101, 100]⟩, .string ⟨#[73, 111, 107]⟩, .string (⟨#[73, 61]⟩ ++ o), .string ⟨#[73, 33, 110, 111, 116, 32, 112, 114, 101, 112, 97, 114, 101, 100]⟩] [inone, inot, iok, ⟨#[73, 61]⟩ ++ o, inot] rfl (by simp)))
   go_wp2_with fail
   refine HE.out.mono ?_
   rintro e w8 ⟨rfl, b8⟩
   have B8 := Lib.hid (below_step (B7.out.alloc B7.out.size _) (Nat.le_refl _) b8)
   clear b8 OB7 B7
   go_wp2_with fail
   go_ret
   exact ⟨rfl, B8.out⟩
end Go.Proofs.YtjbnfigpflambacGreatDoor
