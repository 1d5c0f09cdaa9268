/- More of the texts: SaidW. -/
import Derived.Test.YtjbnfigpflambacGreatDoorRows
import Derived.Test.YtjbnfigpflambacGreatDoorProg
import Derived.Test.YtjbnfigpflambacGreatDoorG00
import Derived.Test.YtjbnfigpflambacGreatDoorG01
import Derived.Test.YtjbnfigpflambacGreatDoorG02
import Derived.Test.YtjbnfigpflambacGreatDoorG03
import Derived.Test.YtjbnfigpflambacGreatDoorG04
import Derived.Test.YtjbnfigpflambacGreatDoorG05
import Derived.Test.YtjbnfigpflambacGreatDoorG06
import Derived.Test.YtjbnfigpflambacGreatDoorG07
import Derived.Test.YtjbnfigpflambacGreatDoorG08
import Derived.Test.YtjbnfigpflambacGreatDoorG09
import Derived.Test.YtjbnfigpflambacGreatDoorG10
import Derived.Test.YtjbnfigpflambacGreatDoorG11
import Derived.Test.YtjbnfigpflambacGreatDoorG12
import Derived.Test.YtjbnfigpflambacGreatDoorG13
import Derived.Test.YtjbnfigpflambacGreatDoorG14
import Derived.Test.YtjbnfigpflambacGreatDoorG15
import Derived.Test.YtjbnfigpflambacGreatDoorG16
import Derived.Test.YtjbnfigpflambacGreatDoorG17
import Derived.Test.YtjbnfigpflambacGreatDoorG18
import Derived.Test.YtjbnfigpflambacGreatDoorG19
import Derived.Test.YtjbnfigpflambacGreatDoorG20
import Derived.Test.YtjbnfigpflambacGreatDoorG21
import Derived.Test.YtjbnfigpflambacGreatDoorG22
import Derived.Test.YtjbnfigpflambacGreatDoorG23
import Derived.Test.YtjbnfigpflambacGreatDoorG24
import Derived.Test.YtjbnfigpflambacGreatDoorG25
import Derived.Test.YtjbnfigpflambacGreatDoorG26
import Derived.Test.YtjbnfigpflambacGreatDoorG27
import Derived.Test.YtjbnfigpflambacGreatDoorG28
import Derived.Test.YtjbnfigpflambacGreatDoorG29
import Derived.Test.YtjbnfigpflambacGreatDoorG30
import Derived.Test.YtjbnfigpflambacGreatDoorG31
import Derived.Test.YtjbnfigpflambacGreatDoorG32
import Derived.Test.YtjbnfigpflambacGreatDoorG33
import Derived.Test.YtjbnfigpflambacGreatDoorG34
import Derived.Test.YtjbnfigpflambacGreatDoorG35
import Derived.Test.YtjbnfigpflambacGreatDoorG36
import Derived.Test.YtjbnfigpflambacGreatDoorG38
import Derived.WalkKit
import Derived.ProofKit
import Derived.OpenShut
import Derived.Below
import Derived.Outline
import Derived.Lib.Hide
import Derived.ShutString
import Derived.ChangeOld
import Derived.Lib.SmallJoins
import Derived.Laws.OwnMore
import Derived.Deep.AppendLies
import Derived.Deep.Draws
import Derived.Laws.Rows
import Derived.Maps.AppendAt
import Derived.RegionTactic
import Derived.OwnWalk
import Derived.Lib.Split
import Derived.Lib.SplitLaws
import Derived.Lib.SlicesS
import Derived.Lib.IndexBytes
import Derived.Lib.Bytealg
import GoSem.Op.String
import Derived.Deep.QuietTactic
import Derived.BigQuiet
import Derived.WalkSpells
import Derived.WalkLawsBesides
import Derived.Deep.RegionHeld3
import Derived.Deep.Slices
import Derived.Deep.Fields
import Derived.ChangeSame
import Derived.SizedLaws
import Derived.Lib.ConvBytes
import Derived.Lib.LaidTab
import Derived.Shelf.Strings.Builder1
import Derived.Shelf.Small.Strs
import Derived.Shelf.Strings.BuilderF
import Derived.Shelf.Strings.BuilderK
import Derived.Shelf.Strconv.Itoa0
import Derived.Shelf.Strconv.Itoa1
import Derived.Shelf.LaysM
import Derived.Shelf.Strconv.Itoa2
import Derived.Shelf.Strconv.Itoa3
import Derived.Shelf.Strings.Search1
import Derived.Shelf.Strings.Search2
import Derived.Shelf.Strings.Search3
import Derived.Shelf.Strings.Count
import Derived.Shelf.Strings.Shaped
import Derived.Shelf.Strings.Prefix
import Derived.Shelf.Strings.Split
import Derived.Shelf.Strings.SplitShaped
import Derived.Shelf.Bits.Mul64
import Derived.Shelf.Unicode.DecodeSlow
import Derived.Shelf.Strings.BuilderCap
import Derived.Shelf.Slices.Turned
import Derived.Shelf.Slices.Equal
import Derived.Shelf.Slices.Empties2
import Derived.Deep.DeepCutAuto
import Derived.Lib.IndexLaws
import Derived.OrdersHeld
import Derived.Lib.AppendStr
import Derived.Laws.CopyRow
import Derived.Laws.IdiomCopy
import Derived.Laws.AppendOwn
import Derived.Lib.AppendZerosOnto
import Derived.Lib.Overlaps
import Derived.Tactics
import Derived.Laws.Externs
import Derived.Deep.DeepHandedRow
import Derived.Maps.Own
import Derived.Maps.OwnSet
import Derived.Maps.Views
import Derived.Maps.OwnOps
import Derived.Laws.MakeOwn
import Derived.Deep.CutBlock
import Derived.Lib.Builder
import Derived.Lib.Walk
import Derived.Lib.UnsafeStr
import Derived.Lib.SliceRun
/- The walk of TopSaid: it returns true. -/
namespace Go.Proofs.YtjbnfigpflambacGreatDoor
open Go.ChangeShapes Go.WideShapes Go.ChangeAt Go.RowKit
theorem one_str (t : ByteArray) : ∀ u ∈ [Value.string t], u.oneCell' = true := by
 intro u hu
 rw [List.mem_singleton] at hu
 rw [hu]
 rfl
def strSz : Value → Nat
 | .string t => t.size
 | _ => 0
theorem meas_lt {S T : ByteArray} {a : Nat} (h : S.extract a S.size = T) (hz : S.size = a + T.size) (ha : 0 < a) : strSz (.string (S.extract a S.size)) < strSz (.string S) := by
 show (S.extract a S.size).size < S.size
 rw [h]
 omega
def ownT (ts : List ByteArray) : List ByteArray := ts.filter fun t => !errB t
theorem ownT_in {t : ByteArray} (ts : List ByteArray) (h : errB t = true) : ownT (t :: ts) = ownT ts := by unfold ownT; simp [h]
theorem ownT_out {t : ByteArray} (ts : List ByteArray) (h : errB t = false) : ownT (t :: ts) = t :: ownT ts := by unfold ownT; simp [h]
theorem ownT_err {x : ByteArray} {ts : List ByteArray} (h : x ∈ ownT ts) : errB x = false := by
 have := (List.mem_filter.1 h).2
 simpa using this
theorem own_head {w : World} {B n c : Nat} {A : Option Addr} {x : ByteArray} {xs : List ByteArray} (h : OwnO w B 9 1 (.slice A n c) n ((x :: xs).map .string)) : ∃ ad, A = some ad ∧ w.cell? ad = some (.string x) ∧ n = xs.length + 1 ∧ n ≤ c := by
 have hl := h.1
 obtain ⟨A', c', e, hc, r⟩ := h.reads
 injection e with e1 e2 e3
 subst e1 e3
 have hn : n = xs.length + 1 := by simpa using hl.symm
 obtain ⟨ad, e, _, hx⟩ := r.2 (by omega)
 have := hx 0 (.string x) rfl
 rw [show ad.add 0 = ad from by unfold Addr.add; rfl] at this
 exact ⟨ad, e, this, hn, hc⟩
set_option maxHeartbeats 16000000 in
set_option maxRecDepth 100000 in
theorem topSaid_walk (W0 : World) (hT : Tabs W0) (v : Value) (l : List Rw) (hl : RL W0 W0.heap.size v l) (m : Int) (hm : (Lit.int .i64 m).wf = true) (n : Int) (hn : (Lit.int .i64 n).wf = true) :
  Calls Tryz.prog 7 #[v, .int .i64 m, .int .i64 n] W0 fun e w' => e = .returned (.bool true) ∧ Below W0.heap.size W0 w' := by
 obtain ⟨i0, hi0, hz0, hz1, hz2⟩ := info_parts str_info
 have HT := Lib.hid hT
 have HL := Lib.hid hl
 have HM := Lib.hid hm
 have HN := Lib.hid hn
 obtain ⟨A, cap, rfl, _⟩ := hl
 have hf := acts_fair (most := 60) (m := 5) (by decide) (by decide) l
 have hle := acts_len 60 5 l
 obtain ⟨L, hL⟩ : ∃ L, actsL 60 5 l = L := ⟨_, rfl⟩
 rw [hL] at hf hle
 have HLE := Lib.hid hL
 obtain ⟨ns, hk, k1, k4, hs⟩ := setup_ok m n
 have hsd := out_said (1 + pick m 3) ns (by omega) L (fair_c (by decide) hf)
 obtain ⟨md, hmd⟩ : ∃ md, 1 + pick m 3 = md := ⟨_, rfl⟩
 rw [hmd] at hs hsd
 have hs6 := out_six md ns L
 obtain ⟨o, ho⟩ : ∃ o, outM md ns L = o := ⟨_, rfl⟩
 rw [ho] at hsd hs6
 have HS6 := Lib.hid hs6
 have HSD := Lib.hid hsd
 have HO1 := Lib.hid ho
 have HO := Lib.hid (fair_ok hf)
 have HDN := Lib.hid (fun (c k : Nat) => show dataN (L.take k) c ≤ 60000 by
  have h1 := dataN_le c (L.take k) (fun a ha => fair_ok hf a (List.mem_of_mem_take ha))
  have h2 : (L.take k).length ≤ 60 := by rw [List.length_take]; omega
  omega)
 have HLN := Lib.hid (Nat.le_trans hle (show 60 ≤ 300 by decide))
 have HK := Lib.hid hk
 have HMD := Lib.hid hmd
 have HS := Lib.hid (And.intro hs (And.intro k1 k4))
 obtain ⟨N, hN⟩ : ∃ N, l.length = N := ⟨_, rfl⟩
 rw [hN] at HL ⊢
 clear hT hf ho hN hm hn hk k1 k4 hs hsd hmd hle hL hs6
 go_enter Tryz.func7, Tryz.ntmps7
 go_wp2_with fail
 refine (acts_any _ _ l HL.out 60 5 (by decide) (by decide) (by decide) HT.out).mono ?_
 rintro e w1 ⟨r, rfl, own, b1⟩
 rw [HLE.out] at own
 have B1 := Lib.hid b1
 have OA := Lib.hid own
 obtain ⟨Ar, cr, rfl⟩ := own_slice own
 clear own b1
 go_wp2_with fail
 refine (ksetup_any m n _ HM.out HN.out).mono ?_
 rintro e w2 ⟨rfl, b2⟩
 rw [HK.out, HMD.out]
 have B2 := Lib.hid (below_step B1.out (Nat.le_refl _) b2)
 have OA2 := Lib.hid ((Keeps.of_below b2).own OA.out)
 clear b2 B1 OA
 go_wp2_with fail
 refine (played_top _ md ns _ _ HS.out.1 HS.out.2.1 HS.out.2.2 (own_acl OA2.out) HLN.out HO.out (HT.out.below B2.out)).mono ?_
 rintro e w3 ⟨vs, vd, vr, rfl, h3, b3⟩
 rw [HO1.out] at h3
 have X := Lib.hid (boxO_new h3 b3 B2.out.size)
 have B3 := below_step B2.out (Nat.le_refl _) b3
 have bb := boxed w3 (.cells #[vs, vd, vr] 29)
 have B4 := Lib.hid (below_step B3 (Nat.le_refl _) bb)
 have OA4 := Lib.hid (OwnO.of_own ((Keeps.of_below bb).own ((Keeps.of_below b3).own OA2.out)))
 obtain ⟨A1, c1, A2, c2, A3, c3, rfl, rfl, rfl⟩ := outR_form h3
 clear h3 b3 bb B2 B3 OA2
 obtain ⟨q, hq⟩ : ∃ q, w3.heap.size = q := ⟨_, rfl⟩
 rw [hq] at X
 go_upto_region 3 with fail
 generalize World.alloc _ _ = w4 at X B4 OA4 ⊢
 clear hq
 obtain ⟨n2, hn2⟩ : ∃ n, o.deeds.length = n := ⟨_, rfl⟩
 obtain ⟨n3, hn3⟩ : ∃ n, o.rows.length = n := ⟨_, rfl⟩
 obtain ⟨nL, hnL⟩ : ∃ n, L.length = n := ⟨_, rfl⟩
 have HN2 := Lib.hid hn2
 have HNL := Lib.hid hnL
 rw [HS6.out, hn2, hn3] at X
 rw [hnL] at OA4
 go_upto_region 6 with fail
 clear hn2 hn3 hnL
 go_loopw [36] (fun i wx => ∃ c : Nat, c ≤ 6 ∧ i = .int .i64 c ∧ Below w4.heap.size w4 wx) (fun i _ => 6 - (intOf i).toNat)
 case atStart => exact ⟨0, Nat.zero_le _, rfl, Below.refl _ _⟩
 case round =>
  obtain ⟨c, hc, rfl, hB⟩ := hrel
  have HB := Lib.hid hB
  clear hB
  by_cases hc6 : c < 6
  ·have gc1 : (c : Int) < 6 := by omega
   have gc2 : (0 : Int) ≤ (c : Int) := by omega
   obtain ⟨ts, e1, e2, e3, e4⟩ := HSD.out.2 c hc6
   have HE1 := Lib.hid e1
   have HE2 := Lib.hid e2
   have HE3 := Lib.hid e3
   have HE4 := Lib.hid e4
   have HTS := Lib.hid (show ts.length ≤ 60000 by have h := HDN.out c nL; rw [← HNL.out, List.take_length] at h; omega)
   clear e1 e2 e3 e4
   go_upto_region 10 with fail
   go_loopw [11, 41] (fun d i wx => ∃ (k : Nat) (D : ByteArray), k ≤ nL ∧ i = .int .i64 k ∧ d = .string D ∧ D.size = dataN (L.take k) c ∧ Below w4.heap.size w4 wx) (fun _ i _ => nL - (intOf i).toNat)
   case atStart => exact ⟨0, ⟨#[]⟩, Nat.zero_le _, rfl, rfl, rfl, HB.out⟩
   case round =>
    obtain ⟨k, D, hk, rfl, rfl, hD, hB1⟩ := hrel
    have HB1 := Lib.hid hB1
    by_cases hlt : k < nL
    ·have g1 : (k : Int) < (nL : Int) := by omega
     have g2 : (0 : Int) ≤ (k : Int) := by omega
     have hkl : k < L.length := by rw [HNL.out]; exact hlt
     have hn300 : nL ≤ 300 := by rw [← HNL.out]; exact HLN.out
     obtain ⟨g, off, cap', e0, hnc, hcl, _⟩ := (OA4.out.below hB1).pos (by omega)
     injection e0 with e1 e2 e3
     subst e1 e3
     obtain ⟨a0, a1, a2⟩ := acV_at L k hkl
     have x0 : wr.cell? ⟨g, off + k * 3, none⟩ = some (.int .i64 L[k].kind) := (hcl (k * 3) (by omega)).trans a0
     have x1 : wr.cell? ⟨g, off + k * 3 + 1, none⟩ = some (.int .i64 L[k].c) := by rw [Nat.add_assoc]; exact (hcl (k * 3 + 1) (by omega)).trans a1
     have x2 : wr.cell? ⟨g, off + k * 3 + 2, none⟩ = some (.string L[k].data) := by rw [Nat.add_assoc]; exact (hcl (k * 3 + 2) (by omega)).trans a2
     have hok := HO.out L[k] (List.getElem_mem _)
     have hdt := dataN_take hkl c
     have hd1 := HDN.out c k
     obtain ⟨a, ha⟩ : ∃ a, L[k] = a := ⟨_, rfl⟩
     rw [ha] at x0 x1 x2 hok hdt
     obtain ⟨ak, ac, ad⟩ := a
     simp only at x0 x1 x2 hdt
     have hac0 : 0 ≤ ac := hok.c0
     have hads : ad.size ≤ 1000 := hok.d
     have HDT := Lib.hid hdt
     clear ha hok hdt a0 a1 a2 hcl e2 hB1
     go_upto_region 12 with fail
     have bb := boxed wr (.cells #[.int .i64 ak, .int .i64 ac, .string ad] 54)
     have Y := Lib.hid (Blk.new wr 54 #[.int .i64 ak, .int .i64 ac, .string ad])
     have B2 := Lib.hid (below_step HB1.out (Nat.le_refl _) bb)
     obtain ⟨z, hz⟩ : ∃ z, wr.heap.size = z := ⟨_, rfl⟩
     rw [hz] at Y ⊢
     generalize World.alloc _ _ = w5 at Y B2 ⊢
     clear bb x0 x1 x2 hz HB1
     have y1 := Y.out.cell_ 1 _ rfl
     have y2 := Y.out.cell_ 2 _ rfl
     by_cases hac : ac = (c : Int)
     ·subst hac
      have hDs : D.size ≤ 60000 := by omega
      have HF := Lib.hid (show (D ++ ad).size = dataN (L.take (k + 1)) c by rw [HDT.out, ByteArray.size_append, hD, if_pos (by omega)])
      clear hD
      go_wp2_with fail
      go_roundw
      case rel => exact ⟨k + 1, _, by omega, by go_num, rfl, HF.out, B2.out⟩
      case measure => simp [intOf]; omega
     ·have n1 : (ac == (c : Int)) = false := by simpa using hac
      have HF := Lib.hid (show D.size = dataN (L.take (k + 1)) c by rw [HDT.out, hD, if_neg (by omega)]; rfl)
      clear hD
      go_wp2_with fail
      go_roundw
      case rel => exact ⟨k + 1, _, by omega, by go_num, rfl, HF.out, B2.out⟩
      case measure => simp [intOf]; omega
    ·have g1 : (L.length : Int) ≤ (k : Int) := by rw [HNL.out]; omega
     have hkn : k = nL := by omega
     subst hkn
     rw [← HNL.out, List.take_length] at hD
     have HD := Lib.hid hD
     have hDb := HDN.out c L.length
     rw [List.take_length, ← hD] at hDb
     have hX1 := X.out.keep hB1
     have hm9 := hX1.out.deeds.most
     have x1 := hX1.blk.cell_ 1 _ rfl
     clear hD hX1 hB1
     go_upto_region 17 with fail
     clear x1
     generalize Value.bool (decide (k < L.length)) = s42
     go_loopw [14, 57] (fun u i wx => ∃ k : Nat, k ≤ n2 ∧ i = .int .i64 k ∧ wx.ownsRow w4.heap.size 9 1 u (ownD c (o.deeds.take k)).length ((ownD c (o.deeds.take k)).map .string) ∧ Below w4.heap.size w4 wx) (fun _ i _ => n2 - (intOf i).toNat)
     case atStart => exact ⟨0, Nat.zero_le _, rfl, World.ownsRow_nil _ _ _ _, HB1.out⟩
     case round =>
      obtain ⟨k, hk, rfl, ho, hB2⟩ := hrel
      have hX2 := X.out.keep hB2
      have HX2 := Lib.hid hX2
      have HB2 := Lib.hid hB2
      have HO2 := Lib.hid ho
      obtain ⟨A2', c2', e0, hle, rd⟩ := hX2.out.deeds.reads
      injection e0 with e1 e2 e3
      subst e1 e3
      have hle : n2 ≤ c2 := by rw [← HN2.out]; exact hle
      have hm99 : n2 ≤ 9223372036854775807 := by have h := hm9; unfold maxLen at h; rw [HN2.out] at h; omega
      clear e2 ho hX2 hB2
      by_cases hlt2 : k < n2
      ·have g1' : (k : Int) < (n2 : Int) := by omega
       have g2' : (0 : Int) ≤ (k : Int) := by omega
       have hkl : k < o.deeds.length := by rw [HN2.out]; exact hlt2
       obtain ⟨ad, hA, hadB, x⟩ := deed_at rd hkl
       subst hA
       have hod := ownD_take hkl c
       have hfd := (HSD.out.1 o.deeds[k] (List.getElem_mem _)).1
       obtain ⟨d, hd⟩ : ∃ d, o.deeds[k] = d := ⟨_, rfl⟩
       rw [hd] at x hod hfd
       have hot : (ownD c (o.deeds.take k)).length ≤ 60000 := by
        have h1 := own_le c k o.deeds
        rw [HE3.out] at h1
        have h2 : (ts.filter fun t => !errB t).length ≤ ts.length := List.length_filter_le _ _
        have h3 := HTS.out
        omega
       obtain ⟨OL, hOL⟩ : ∃ OL, ownD c (o.deeds.take k) = OL := ⟨_, rfl⟩
       rw [hOL] at hod hot HO2
       have HOD := Lib.hid hod
       have HFD := Lib.hid hfd
       obtain ⟨x0, x1, x2, x3, x4, x5, x6⟩ := x
       obtain ⟨dc, ⟨dk, dkey, dval⟩, ⟨dak, dat, das⟩⟩ := d
       simp only at x0 x1 x2 x3 x4 x5 x6
       clear rd hd hod hfd hOL
       go_upto_region 19 with fail
       have bb := boxed wr (.cells #[.int .i64 (dc : Int), .int .i64 dk, .string dkey, .string dval, .int .i64 dak, .string dat, .int .i64 das] 71)
       have Y := Lib.hid (Blk.new wr 71 #[.int .i64 (dc : Int), .int .i64 dk, .string dkey, .string dval, .int .i64 dak, .string dat, .int .i64 das])
       have B3 := Lib.hid (below_step HB2.out (Nat.le_refl _) bb)
       have O3 := Lib.hid ((Keeps.of_below bb).own HO2.out)
       obtain ⟨z, hz⟩ : ∃ z, wr.heap.size = z := ⟨_, rfl⟩
       rw [hz] at Y ⊢
       generalize World.alloc _ _ = w5 at Y B3 O3 ⊢
       clear bb x0 x1 x2 x3 x4 x5 x6 hz HX2 HB2 HO2 hadB
       have y0 := Y.out.cell_ 0 _ rfl
       have y4 := Y.out.cell_ 4 _ rfl
       have y5 := Y.out.cell_ 5 _ rfl
       have y6 := Y.out.cell_ 6 _ rfl
       by_cases hdc : dc = c
       ·subst hdc
        go_wp2_with fail
        refine (tell_fit ⟨dak, dat, das⟩ _ HFD.out).mono ?_
        rintro e w6 ⟨rfl, b6⟩
        have B6 := Lib.hid (below_step B3.out (Nat.le_refl _) b6)
        have O6 := Lib.hid ((Keeps.of_below b6).own O3.out)
        obtain ⟨t, ht⟩ : ∃ t, tellA ⟨dak, dat, das⟩ = t := ⟨_, rfl⟩
        have HF := Lib.hid (show ownD dc (o.deeds.take (k + 1)) = OL ++ [t] from HOD.out.trans (by rw [← ht]; simp))
        rw [ht]
        clear b6 B3 O3 y0 y4 y5 y6 Y ht
        have RD := Lib.hid (Reads.new_ w6 9 #[.string t] (n := 1) (size := 1) rfl)
        have bb := boxed w6 (.cells #[.string t] 9)
        have B7 := Lib.hid (below_step B6.out (Nat.le_refl _) bb)
        have O7 := Lib.hid ((Keeps.of_below bb).own O6.out)
        clear bb B6 O6
        go_wp2_with (at_builtin; refine wpList_append_any _ rfl (.tmp 73) (.tmp 75) 25 rfl w4.heap.size 9 i0 _ 1 16 Tryz.underlying25 hi0 hz0 hz1 hz2 rfl (by decide) _ OL.length (OL.map .string) rfl O7.out (w6.heap.size + 1) (some ⟨w6.heap.size, 0, none⟩) 1 1 [.string t] rfl RD.out (one_str t) (by unfold maxLen; omega) (by omega) B7.out.size ?_; intro v' w8 hown hgr hat)
        have B8 := Lib.hid (B7.out.grown hgr B7.out.size fun j hj => own_ge O7.out j hj)
        have O8 := Lib.hid (show w8.ownsRow w4.heap.size 9 1 v' (ownD dc (o.deeds.take (k + 1))).length ((ownD dc (o.deeds.take (k + 1))).map .string) by rw [HF.out, List.length_append, List.map_append]; exact hown)
        clear hown hgr hat B7 O7 RD
        go_wp2_with fail
        go_roundw
        case rel => exact ⟨k + 1, by omega, by go_num, O8.out, B8.out⟩
        case measure => simp [intOf]; omega
       ·have n1 : ((dc : Int) == (c : Int)) = false := by simp; omega
        have n2' : ¬ (dc : Int) = (c : Int) := by omega
        have HF := Lib.hid (show ownD c (o.deeds.take (k + 1)) = OL by rw [HOD.out, if_neg hdc])
        go_wp2_with fail
        go_roundw
        case rel => exact ⟨k + 1, by omega, by go_num, by rw [HF.out]; exact O3.out, B3.out⟩
        case measure => simp [intOf]; omega
      ·have g1' : (n2 : Int) ≤ (k : Int) := by omega
       have hkn2 : k = n2 := by omega
       subst hkn2
       rw [← HN2.out, List.take_length, HE3.out] at HO2
       obtain ⟨-, h6c, ad, rfl, xs⟩ := sent_at HX2.out.out HS6.out hc6
       rw [HE1.out] at xs
       have x0 := HX2.out.blk.cell_ 0 _ rfl
       clear rd
       go_upto_region 27 with fail
       clear x0 xs HX2
       go_loopw [14, 19, 20] (fun u y s wx => ∃ (tl : List ByteArray) (j : Nat), y = .int .i64 j ∧ s = .string (catM tl) ∧ j + tl.length = ts.length ∧ (∀ t ∈ tl, t.size ≤ 62) ∧ OwnO wx w4.heap.size 9 1 u (ownT tl).length ((ownT tl).map .string) ∧ Below w4.heap.size w4 wx) (fun _ _ s _ => strSz s)
       case atStart => exact ⟨ts, 0, rfl, rfl, by omega, HE2.out, OwnO.of_own HO2.out, HB2.out⟩
       case round =>
        obtain ⟨tl, j, rfl, rfl, hj, h62, hO, hB3⟩ := hrel
        have HB3 := Lib.hid hB3
        have hjl := HTS.out
        rcases tl with _ | ⟨t, tl⟩
        ·obtain ⟨A9, c9, e9, _⟩ := hO.form
         have e9 : _ = Value.slice A9 0 c9 := e9
         subst e9
         rw [show catM [] = ⟨#[]⟩ from rfl]
         have gj : ¬ ((D.size : Int) < (j : Int)) := by
          have h1 := HE4.out
          have h2 := HD.out
          have h3 : j = ts.length := by simpa using hj
          omega
         clear hO hB3
         go_wp2_with fail
         go_roundw
         case rel => exact ⟨c + 1, by omega, by go_num, HB3.out⟩
         case measure => simp [intOf]; omega
        ·have ht62 := h62 t List.mem_cons_self
         have hl62 : ∀ x ∈ tl, x.size ≤ 62 := fun x hx => h62 x (List.mem_cons_of_mem _ hx)
         have hj : j + (tl.length + 1) = ts.length := hj
         have hcz : (catM (t :: tl)).size = 2 + t.size + (catM tl).size := by rw [cat_cons, ByteArray.size_append, msg_size]
         have hcb := catM_sz tl hl62
         have HU : Hid (∀ w : World, Calls Tryz.prog 30 #[.string (catM (t :: tl))] w fun e w' => e = .returned (.tuple #[.int .u8 82, .string t, .int .i64 (2 + (t.size : Int))]) ∧ ∃ n, w' = w.drewN n) := Lib.hid fun w => by
          rw [cat_cons]
          exact unpack_msg 82 t (catM tl) w (by omega) (by rw [← cat_cons]; unfold maxLen; omega)
         have HR := Lib.hid (cat_rest t tl)
         have hne : ¬ (catM (t :: tl)).toList = [] := fun h => cat_ne t tl (str_inj (h.trans (by rw [toList_data])))
         have hne1 : (catM (t :: tl)).toList.isEmpty = false := List.isEmpty_eq_false_iff.2 hne
         obtain ⟨S, hS⟩ : ∃ S, catM (t :: tl) = S := ⟨_, rfl⟩
         rw [hS] at hcz hne hne1 HU HR ⊢
         obtain ⟨nn, hnn⟩ : ∃ nn : Nat, 2 + t.size = nn := ⟨_, rfl⟩
         rw [show (2 + (t.size : Int)) = (nn : Int) by omega] at HU
         rw [hnn] at HR hcz
         have g5 : ¬ ((nn : Int) = 0) := by omega
         have g5' : ((nn : Int) == 0) = false := by simp; omega
         have g6 : (0 : Int) ≤ (nn : Int) := by omega
         have g7 : (nn : Int) ≤ (S.size : Int) := by omega
         have hts : t.size < 4294967281 := by omega
         obtain ⟨m6, hm6⟩ := (HT.out.below (below_step B4.out (Nat.le_refl _) hB3)).maxLen
         have HO3 := Lib.hid hO
         have HCZ := Lib.hid hcz
         clear hS hnn h62 hB3 hO hcz
         go_wp2_with fail
         refine (HU.out _).mono ?_
         rintro e w6 ⟨rfl, nd, rfl⟩
         have bd : Below wr.heap.size wr (wr.drewN nd) := below_drewN (Below.refl _ _) nd
         have B6 := Lib.hid (below_step HB3.out (Nat.le_refl _) bd)
         have O6 := HO3.out.below bd
         have hm7 : (wr.drewN nd).cell? ⟨1, 0, none⟩ = some (.int .i64 m6) := hm6
         generalize wr.drewN nd = w6 at B6 O6 hm7 ⊢
         clear hm6 HO3 HU bd
         by_cases hE : errB t = true
         ·rw [ownT_in tl hE] at O6
          have hcon := (not_has t (err_in hE)).1
          unfold notU notI at hcon
          obtain ⟨OL, hOL⟩ : ∃ OL, ownT tl = OL := ⟨_, rfl⟩
          have hx : ∀ x ∈ OL, ¬ x = t := fun x hx e => by
           rw [← hOL] at hx
           have := ownT_err hx
           rw [e, hE] at this
           cases this
          rw [hOL] at O6
          rcases OL with _ | ⟨x, xs⟩
          ·obtain ⟨A9, c9, e9, _⟩ := O6.form
           have e9 : _ = Value.slice A9 0 c9 := e9
           subst e9
           have O7 := Lib.hid O6
           clear O6 hx
           go_wp2_with fail
           refine (Tryz.strings_Contains t _ m6 _ hts hm7).mono ?_
           rintro e w7 ⟨rfl, rfl⟩
           obtain ⟨b, hb⟩ : ∃ b, Lib.contains t.data.toList (⟨#[33, 110, 111, 116, 32, 117, 110, 100, 101, 114, 115, 116, 111, 111, 100]⟩ : ByteArray).data.toList = b := ⟨_, rfl⟩
           rw [hb] at hcon ⊢
           cases b
           ·have hc2 := hcon.resolve_left (by decide)
            go_wp2_with fail
            refine (Tryz.strings_Contains t _ m6 _ hts hm7).mono ?_
            rintro e w8 ⟨rfl, rfl⟩
            rw [hc2]
            go_wp2_with fail
            go_roundw
            case rel => exact ⟨tl, j + 1, by go_num, congrArg Value.string HR.out, by omega, hl62, by rw [hOL]; exact O7.out, B6.out⟩
            case measure => exact meas_lt HR.out HCZ.out (by omega)
           ·clear hb
            go_wp2_with fail
            go_roundw
            case rel => exact ⟨tl, j + 1, by go_num, congrArg Value.string HR.out, by omega, hl62, by rw [hOL]; exact O7.out, B6.out⟩
            case measure => exact meas_lt HR.out HCZ.out (by omega)
          ·obtain ⟨n9, hn9⟩ : ∃ n, (x :: xs).length = n := ⟨_, rfl⟩
           have hn0 : (0 : Int) < (n9 : Int) := by rw [← hn9, List.length_cons]; omega
           rw [hn9] at O6
           obtain ⟨A9, c9, e9, _⟩ := O6.form
           subst e9
           obtain ⟨ad9, hA9, x9, -, hc9⟩ := own_head O6
           subst hA9
           have n3 := str_no (hx x List.mem_cons_self)
           have O7 := Lib.hid O6
           clear O6 hx
           go_wp2_with fail
           refine (Tryz.strings_Contains t _ m6 _ hts hm7).mono ?_
           rintro e w7 ⟨rfl, rfl⟩
           obtain ⟨b, hb⟩ : ∃ b, Lib.contains t.data.toList (⟨#[33, 110, 111, 116, 32, 117, 110, 100, 101, 114, 115, 116, 111, 111, 100]⟩ : ByteArray).data.toList = b := ⟨_, rfl⟩
           rw [hb] at hcon ⊢
           cases b
           ·have hc2 := hcon.resolve_left (by decide)
            go_wp2_with fail
            refine (Tryz.strings_Contains t _ m6 _ hts hm7).mono ?_
            rintro e w8 ⟨rfl, rfl⟩
            rw [hc2]
            go_wp2_with fail
            go_roundw
            case rel => exact ⟨tl, j + 1, by go_num, congrArg Value.string HR.out, by omega, hl62, by rw [hOL, hn9]; exact O7.out, B6.out⟩
            case measure => exact meas_lt HR.out HCZ.out (by omega)
           ·clear hb
            go_wp2_with fail
            go_roundw
            case rel => exact ⟨tl, j + 1, by go_num, congrArg Value.string HR.out, by omega, hl62, by rw [hOL, hn9]; exact O7.out, B6.out⟩
            case measure => exact meas_lt HR.out HCZ.out (by omega)
         ·rw [ownT_out tl (by simpa using hE)] at O6
          obtain ⟨n9, hn9⟩ : ∃ n, (t :: ownT tl).length = n := ⟨_, rfl⟩
          have hn0 : (0 : Int) < (n9 : Int) := by rw [← hn9, List.length_cons]; omega
          rw [hn9] at O6
          obtain ⟨A9, c9, e9, _⟩ := O6.form
          subst e9
          obtain ⟨ad9, hA9, x9, hn8, hc9⟩ := own_head O6
          have cut := O6.cut (k := 1) (by omega)
          rw [show n9 - 1 = (ownT tl).length by omega] at cut
          subst hA9
          have CT := Lib.hid cut
          have gc9 : (n9 : Int) ≤ (c9 : Int) := by omega
          clear O6 cut hn9
          go_wp2_with fail
          go_roundw
          case rel => exact ⟨tl, j + 1, by go_num, congrArg Value.string HR.out, by omega, hl62, by first | exact CT.out | simpa [Addr.add] using CT.out, B6.out⟩
          case measure => exact meas_lt HR.out HCZ.out (by omega)
  ·have gc1 : (6 : Int) ≤ (c : Int) := by omega
   have BF := Lib.hid (below_step B4.out (Nat.le_refl _) HB.out)
   go_wp2_with fail
   go_ret
   exact ⟨rfl, BF.out⟩
end Go.Proofs.YtjbnfigpflambacGreatDoor
