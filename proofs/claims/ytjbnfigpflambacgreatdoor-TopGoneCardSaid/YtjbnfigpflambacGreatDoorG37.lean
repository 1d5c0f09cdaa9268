/- The walk of TopGone: it returns true. -/
import Derived.Test.YtjbnfigpflambacGreatDoorG22
import Derived.Test.YtjbnfigpflambacGreatDoorG36
/- The walk of TopGone: it returns true. -/
namespace Go.Proofs.YtjbnfigpflambacGreatDoor
open Go.ChangeShapes Go.WideShapes Go.ChangeAt Go.RowKit
def AcR (w : World) (v : Value) (l : List Ac) : Prop := ∃ A c, v = .slice A l.length c ∧ Reads w w.heap.size 3 A l.length (acV l)
theorem AcR.keep {w w' : World} {v : Value} {l : List Ac} (h : AcR w v l) (hb : Below w.heap.size w w') : AcR w' v l := by
 obtain ⟨A, c, e, r⟩ := h
 exact ⟨A, c, e, (r.below hb).more hb.size⟩
theorem AcR.of_own {w : World} {B : Nat} {v : Value} {l : List Ac} (h : w.ownsRow B 54 3 v l.length (acV l)) : AcR w v l := by
 obtain ⟨A, c, rfl⟩ := own_slice h
 exact ⟨A, c, rfl, Reads.of_own h⟩
theorem AcR.acl {w : World} {v : Value} {l : List Ac} (h : AcR w v l) : AcL w w.heap.size v l := by
 obtain ⟨A, c, rfl, r⟩ := h
 refine ⟨A, c, rfl, fun hn => ?_⟩
 obtain ⟨ad, e, hb, hc⟩ := r.2 hn
 refine ⟨ad, e, hb, fun i hi => ?_⟩
 obtain ⟨a0, a1, a2⟩ := acV_at l i hi
 have ea : ∀ j, (⟨(ad.add (i * 3)).block, (ad.add (i * 3)).off + (j + 1), none⟩ : Addr) = (ad.add (i * 3)).add (j + 1) := fun j => rfl
 refine ⟨hc _ _ a0, ?_, ?_⟩
 ·rw [ea 0, add_of_add]; exact hc _ _ a1
 ·rw [ea 1, add_of_add]; exact hc _ _ a2
theorem conc3 (w : World) (zb : Nat) (v1 v2 v3 : Value) (l1 l2 l3 : List Ac) (b : Blk w zb 24 #[v1, v2, v3]) (h1 : AcR w v1 l1) (h2 : AcR w v2 l2) (h3 : AcR w v3 l3) (hs : (l1 ++ l2 ++ l3).length ≤ 1000) :
  Calls Tryz.prog 40 #[.slice (some ⟨zb, 0, none⟩) 3 3] w fun e w' => ∃ v', e = .returned v' ∧ w'.ownsRow w.heap.size 54 3 v' (l1 ++ l2 ++ l3).length (acV (l1 ++ l2 ++ l3)) ∧ Below w.heap.size w w' := by
 have e : catL [(v1, l1), (v2, l2), (v3, l3)] = l1 ++ l2 ++ l3 := by unfold catL; simp
 have h := concat_any w zb 3 3 [(v1, l1), (v2, l2), (v3, l3)] rfl (by decide) (fun i hi => by
  have hi : i < 3 := hi
  have : i = 0 ∨ i = 1 ∨ i = 2 := by omega
  rcases this with rfl | rfl | rfl
  ·exact b.cell_ 0 _ rfl
  ·exact b.cell_ 1 _ rfl
  ·exact b.cell_ 2 _ rfl) (fun p hp => by
  simp only [List.mem_cons, List.not_mem_nil, or_false] at hp
  rcases hp with rfl | rfl | rfl
  ·exact h1
  ·exact h2
  ·exact h3) (by rw [e]; exact hs)
 rw [e] at h
 exact h
theorem conc2 (w : World) (zb : Nat) (v1 v2 : Value) (l1 l2 : List Ac) (b : Blk w zb 24 #[v1, v2]) (h1 : AcR w v1 l1) (h2 : AcR w v2 l2) (hs : (l1 ++ l2).length ≤ 1000) :
  Calls Tryz.prog 40 #[.slice (some ⟨zb, 0, none⟩) 2 2] w fun e w' => ∃ v', e = .returned v' ∧ w'.ownsRow w.heap.size 54 3 v' (l1 ++ l2).length (acV (l1 ++ l2)) ∧ Below w.heap.size w w' := by
 have e : catL [(v1, l1), (v2, l2)] = l1 ++ l2 := by unfold catL; simp
 have h := concat_any w zb 2 2 [(v1, l1), (v2, l2)] rfl (by decide) (fun i hi => by
  have hi : i < 2 := hi
  have : i = 0 ∨ i = 1 := by omega
  rcases this with rfl | rfl
  ·exact b.cell_ 0 _ rfl
  ·exact b.cell_ 1 _ rfl) (fun p hp => by
  simp only [List.mem_cons, List.not_mem_nil, or_false] at hp
  rcases hp with rfl | rfl
  ·exact h1
  ·exact h2) (by rw [e]; exact hs)
 rw [e] at h
 exact h
structure GoS (wr wx : World) (z : Option Nat) (zb : Option (Nat × Array Value)) (rs : List (Value × List Ac)) (X : Option (Value × Value × Value × Outc)) : Prop where
 hb : Below wr.heap.size wr wx
 bz : ∀ q, z = some q → Blk wx q 29 #[.slice none 0 0, .slice none 0 0, .slice none 0 0] ∧ wr.heap.size ≤ q
 bb : ∀ q, zb = some q → Blk wx q.1 24 q.2
 rows : ∀ p ∈ rs, AcR wx p.1 p.2
 out : ∀ vs vd vr o, X = some (vs, vd, vr, o) → OutR wx wr.heap.size vs vd vr o
section
variable {wr wx wy : World} {z : Option Nat} {zb : Option (Nat × Array Value)} {rs : List (Value × List Ac)} {X : Option (Value × Value × Value × Outc)}
theorem GoS.start (wr : World) (hr : ∀ p ∈ rs, AcR wr p.1 p.2) : GoS wr wr none none rs none := ⟨Below.refl _ _, fun _ h => (by cases h), fun _ h => (by cases h), hr, fun _ _ _ _ h => (by cases h)⟩
theorem GoS.keep (h : GoS wr wx z zb rs X) (hb : Below wx.heap.size wx wy) : GoS wr wy z zb rs X :=
 ⟨below_step h.hb (Nat.le_refl _) hb, fun q hq => ⟨(h.bz q hq).1.keep hb, (h.bz q hq).2⟩, fun q hq => (h.bb q hq).keep hb, fun p hp => (h.rows p hp).keep hb, fun vs vd vr o e => (h.out vs vd vr o e).keep hb⟩
theorem GoS.drew (hr : ∀ p ∈ rs, AcR wr p.1 p.2) : GoS wr wr.drew none none rs none := (GoS.start wr hr).keep (Below.refl _ _).drew
theorem GoS.fz (h : GoS wr wx none zb rs X) : GoS wr (wx.alloc (.cells #[.slice none 0 0, .slice none 0 0, .slice none 0 0] 29)) (some wx.heap.size) zb rs X := by
 have k := h.keep (boxed wx (.cells #[.slice none 0 0, .slice none 0 0, .slice none 0 0] 29))
 exact ⟨k.hb, fun q hq => (by injection hq with hq; subst hq; exact ⟨Blk.new wx _ _, h.hb.size⟩), k.bb, k.rows, k.out⟩
theorem GoS.one (h : GoS wr wx z zb rs X) (c : Nat) (t : ByteArray) : GoS wr (wx.alloc (.cells #[.int .i64 1, .int .i64 (c : Int), .string t] 54)) z zb ((.slice (some ⟨wx.heap.size, 0, none⟩) 1 1, [⟨1, (c : Int), t⟩]) :: rs) X := by
 have k := h.keep (boxed wx (.cells #[.int .i64 1, .int .i64 (c : Int), .string t] 54))
 refine ⟨k.hb, k.bz, k.bb, fun p hp => ?_, k.out⟩
 rcases List.mem_cons.1 hp with rfl | hp
 ·refine ⟨_, 1, rfl, ?_⟩
  have r := Reads.new_ wx 54 #[.int .i64 1, .int .i64 (c : Int), .string t] (n := 1) (size := 3) rfl
  exact r.more (by simp)
 ·exact k.rows p hp
theorem GoS.put (h : GoS wr wx z zb rs X) (cs : Array Value) : GoS wr (wx.alloc (.cells cs 24)) z (some (wx.heap.size, cs)) rs X := by
 have k := h.keep (boxed wx (.cells cs 24))
 exact ⟨k.hb, k.bz, fun q hq => (by injection hq with hq; subst hq; exact Blk.new wx _ _), k.rows, k.out⟩
theorem GoS.add (h : GoS wr wx z zb rs X) (hb : Below wx.heap.size wx wy) {v : Value} {l : List Ac} (o : wy.ownsRow wx.heap.size 54 3 v l.length (acV l)) : GoS wr wy z zb ((v, l) :: rs) X := by
 have k := h.keep hb
 refine ⟨k.hb, k.bz, k.bb, fun p hp => ?_, k.out⟩
 rcases List.mem_cons.1 hp with rfl | hp
 ·exact AcR.of_own o
 ·exact k.rows p hp
theorem GoS.play {vs vd vr : Value} {o : Outc} (h : GoS wr wx z zb rs X) (o1 : OutR wy wx.heap.size vs vd vr o) (hb : Below wx.heap.size wx wy) : GoS wr wy z zb rs (some (vs, vd, vr, o)) := by
 have k := h.keep hb
 refine ⟨k.hb, k.bz, k.bb, k.rows, fun vs' vd' vr' o' e => ?_⟩
 injection e with e
 injection e with e1 e2
 injection e2 with e2 e3
 injection e3 with e3 e4
 subst e1 e2 e3 e4
 exact o1.base h.hb.size
theorem GoS.fin {W0 : World} {q : Nat} {vs vd vr : Value} {o : Outc} (h : GoS wr wx (some q) zb rs (some (vs, vd, vr, o))) (hW : W0.heap.size ≤ wr.heap.size) (e : wy = ((wx.setCell ⟨q, 0, none⟩ vs).setCell ⟨q, 1, none⟩ vd).setCell ⟨q, 2, none⟩ vr) : TwN W0 wr wy q vs vd vr o :=
 (show TwS wr wx (some q) [] (some (vs, vd, vr, o)) from ⟨h.hb, h.bz, fun _ h => (by cases h), h.out⟩).fin hW e
end
set_option maxHeartbeats 16000000 in
set_option maxRecDepth 100000 in
theorem topGone_walk (W0 : World) (hT : Tabs W0) (v : Value) (l : List Rw) (hl : RL W0 W0.heap.size v l) (m : Int) (hm : (Lit.int .i64 m).wf = true) (n : Int) (hn : (Lit.int .i64 n).wf = true) (c : Int) (hc : (Lit.int .i64 c).wf = true) :
  Calls Tryz.prog 11 #[v, .int .i64 m, .int .i64 n, .int .i64 c] W0 fun e w' => e = .returned (.bool true) ∧ Below W0.heap.size W0 w' := by
 obtain ⟨i0, hi0, hz0, hz1, hz2⟩ := info_parts act_info
 have HT := Lib.hid hT
 have HL := Lib.hid hl
 have HM := Lib.hid hm
 have HN := Lib.hid hn
 have HCW := Lib.hid hc
 obtain ⟨A, cap, rfl, _⟩ := hl
 have hf := acts_fair (most := 40) (m := 5) (by decide) (by decide) l
 have hle := acts_len 40 5 l
 obtain ⟨ns, hk, k1, k4, hs⟩ := setup_ok m n
 obtain ⟨ci, hci, hci5⟩ : ∃ ci : Nat, pick c 5 = (ci : Int) ∧ ci < 5 := by
  have := pick_bd c 5 (by decide)
  exact ⟨(pick c 5).toNat, by omega, by omega⟩
 obtain ⟨md, hmd⟩ : ∃ md, 1 + pick m 3 = md := ⟨_, rfl⟩
 rw [hmd] at hs
 obtain ⟨L, hL⟩ : ∃ L, actsL 40 5 l = L := ⟨_, rfl⟩
 rw [hL] at hf hle
 have HLE := Lib.hid hL
 obtain ⟨hg1, hg2⟩ := out_gone md ns (by omega) k1 L (fair_c (by decide) hf) (c := ci) (by omega)
 have hok := fair_ok hf
 have hok2 := gone_ok hok
 have hok3 := gone_ok1 hok2 (c := ci) (by omega)
 have hbd := sent_sz md ns (by omega) hok2 ci
 have hl6 : (L ++ closes).length ≤ 46 := by rw [List.length_append, show closes.length = 6 from rfl]; omega
 have hl7 : ((L ++ closes) ++ [(⟨1, (ci : Int), getA ++ runA⟩ : Ac)]).length ≤ 47 := by rw [List.length_append]; simp only [List.length_cons, List.length_nil]; omega
 have hs6 := out_six md ns ((L ++ closes) ++ [(⟨1, (ci : Int), getA ++ runA⟩ : Ac)])
 have ht6 := out_six md ns (L ++ closes)
 obtain ⟨o, ho⟩ : ∃ o, outM md ns ((L ++ closes) ++ [(⟨1, (ci : Int), getA ++ runA⟩ : Ac)]) = o := ⟨_, rfl⟩
 obtain ⟨p, hp⟩ : ∃ o, outM md ns (L ++ closes) = o := ⟨_, rfl⟩
 rw [ho] at hg1 hg2 hs6
 rw [hp] at hg1 hg2 ht6 hbd
 have hbd2 : (p.sent.getD ci ByteArray.empty).size ≤ 13800000 := by omega
 have HG1 := Lib.hid hg1
 have HG2 := Lib.hid hg2
 have HS6 := Lib.hid hs6
 have HT6 := Lib.hid ht6
 have HBD := Lib.hid hbd2
 have HO1 := Lib.hid ho
 have HO2 := Lib.hid hp
 have HK2 := Lib.hid hok2
 have HK3 := Lib.hid hok3
 have HL6 := Lib.hid hl6
 have HL7 := Lib.hid hl7
 have HLN := Lib.hid hle
 have HK := Lib.hid hk
 have HMD := Lib.hid hmd
 have HCI := Lib.hid hci
 have HS := Lib.hid (And.intro hs (And.intro k1 k4))
 have HPK := Lib.hid pack_two
 obtain ⟨N, hN⟩ : ∃ N, l.length = N := ⟨_, rfl⟩
 rw [hN] at HL ⊢
 clear hT hf ho hp hN hm hn hc hk k1 k4 hs hmd hle hL hg1 hg2 hs6 ht6 hbd hbd2 hok hok2 hok3 hl6 hl7 hci
 go_enter Tryz.func11, Tryz.ntmps11
 go_wp2_with fail
 refine (ksetup_any m n _ HM.out HN.out).mono ?_
 rintro e w1 ⟨rfl, b1⟩
 rw [HK.out, HMD.out]
 have bb := boxed w1 (.cells #[.int .i64 md, .int .i64 (ns : Int)] 23)
 have B1 := Lib.hid (below_step b1 (Nat.le_refl _) bb)
 have U1 := Lib.hid (Blk.new w1 23 #[.int .i64 md, .int .i64 (ns : Int)])
 clear b1 bb
 obtain ⟨qu, hqu⟩ : ∃ q, w1.heap.size = q := ⟨_, rfl⟩
 rw [hqu] at U1
 go_upto_region 2 with fail
 generalize World.alloc _ _ = w2 at B1 U1 ⊢
 clear hqu
 go_wp2_with fail
 have h1 : RL w2 w2.heap.size (.slice A N cap) l := (HL.out.below B1.out).more B1.out.size
 have h2 : Tabs w2 := HT.out.below B1.out
 refine (acts_any _ _ l h1 40 5 (by decide) (by decide) (by decide) h2).mono ?_
 clear h1 h2
 rintro e w3 ⟨r, rfl, own, b2⟩
 rw [HLE.out] at own
 obtain ⟨Ar, cr, rfl⟩ := own_slice own
 have B3 := Lib.hid (below_step B1.out (Nat.le_refl _) b2)
 have U3 := Lib.hid (U1.out.keep b2)
 have OA := Lib.hid (AcR.of_own own)
 clear own b2 B1 U1
 go_wp2_with fail
 refine (Picked_any c 5 _ HCW.out (by decide) (by decide)).mono ?_
 rintro e w4 ⟨rfl, rfl⟩
 rw [HCI.out]
 go_wp2_with fail
 refine (HPK.out.1 _).mono ?_
 rintro e w4 ⟨rfl, b4⟩
 have B4 := Lib.hid (below_step B3.out (Nat.le_refl _) b4)
 have U4 := Lib.hid (U3.out.keep b4)
 have OA4 := Lib.hid (OA.out.keep b4)
 clear b4 B3 U3 OA
 go_wp2_with fail
 refine (HPK.out.2 _).mono ?_
 rintro e w5 ⟨rfl, b5⟩
 have B5 := Lib.hid (below_step B4.out (Nat.le_refl _) b5)
 have U5 := Lib.hid (U4.out.keep b5)
 have OA5 := Lib.hid (OA4.out.keep b5)
 clear b5 B4 U4 OA4 HPK
 go_upto_region 8 with fail
 go_loopw [16, 37] (fun u i wx => ∃ k : Nat, k ≤ 6 ∧ i = .int .i64 k ∧ Below w5.heap.size w5 wx ∧ wx.ownsRow w5.heap.size 54 3 u k (acV ((List.range k).map closeA))) (fun _ i _ => 6 - (intOf i).toNat)
 case atStart => exact ⟨0, Nat.zero_le _, rfl, Below.refl _ _, World.ownsRow_nil _ _ _ _⟩
 case round =>
  obtain ⟨k, hk, rfl, hb, ho⟩ := hrel
  have HB := Lib.hid hb
  have HO := Lib.hid ho
  by_cases hlt : k < 6
  ·have g1 : (k : Int) < 6 := by omega
   have g2 : (0 : Int) ≤ (k : Int) := by omega
   have HX := Lib.hid (show acV ((List.range (k + 1)).map closeA) = acV ((List.range k).map closeA) ++ acV [closeA k] by rw [List.range_succ, List.map_append, acV_app]; rfl)
   obtain ⟨cs, hcs⟩ : ∃ cs, acV ((List.range k).map closeA) = cs := ⟨_, rfl⟩
   rw [hcs] at HO HX
   have RD := Lib.hid (Reads.new_ wr 54 #[.int .i64 2, .int .i64 (k : Int), .string ⟨#[]⟩] (n := 1) (size := 3) rfl)
   have bb := boxed wr (.cells #[.int .i64 2, .int .i64 (k : Int), .string ⟨#[]⟩] 54)
   have B6 := Lib.hid (below_step HB.out (Nat.le_refl _) bb)
   have O6 := Lib.hid ((Keeps.of_below bb).own HO.out)
   clear hb ho hcs bb HB HO
   go_wp2_with (at_builtin; refine wpList_append_any _ rfl (.tmp 40) (.tmp 43) 24 rfl w5.heap.size 54 i0 _ 3 32 Tryz.underlying24 hi0 hz0 hz1 hz2 rfl (by decide) _ k cs rfl O6.out (wr.heap.size + 1) (some ⟨wr.heap.size, 0, none⟩) 1 1 (acV [closeA k]) rfl RD.out (acV_one _) (by unfold maxLen; omega) (by omega) B6.out.size ?_; intro v' w7 hown hgr hat)
   have B7 := Lib.hid (B6.out.grown hgr B6.out.size fun q hq => own_ge O6.out q hq)
   have O7 := Lib.hid hown
   clear hown hgr hat RD
   go_wp2_with fail
   go_roundw
   case rel => exact ⟨k + 1, by omega, by go_num, B7.out, by rw [HX.out]; exact O7.out⟩
   case measure => simp [intOf]; omega
  ·have g1 : (6 : Int) ≤ (k : Int) := by omega
   have hk6 : k = 6 := by omega
   subst hk6
   have OC := Lib.hid (show AcR wr _ closes from AcR.of_own (l := closes) ho)
   obtain ⟨Al, cl, rfl⟩ := own_slice ho
   have B7 := Lib.hid (below_step B5.out (Nat.le_refl _) hb)
   have U7 := Lib.hid (U5.out.keep hb)
   have OA7 := Lib.hid (OA5.out.keep hb)
   clear hb ho HB HO B5 U5 OA5
   have q1 : getA.size = 7 := by decide +kernel
   have q2 : runA.size = 8 := by decide +kernel
   go_upto_region 12 with fail
   have u0 := U7.out.cell_ 0 _ rfl
   have u1 := U7.out.cell_ 1 _ rfl
   have lw := B7.out.size
   have HTX := Lib.hid (fun (u : World) (hb : Below wr.heap.size wr u) => HT.out.below (below_step B7.out (Nat.le_refl _) hb))
   go_cut [18, 19] (fun p g wc => ∃ z vs vd vr, p = .pointer (some ⟨z, 0, none⟩) ∧ g = .bool true ∧ TwN W0 wr wc z vs vd vr o)
   case first =>
    refine region_segsO [] (by kernel_rfl) ?_
    refine anyO_seg true [0, 1, 2, 3, 4, 5, 6, 7] 10 rfl (by kernel_rfl) (by kernel_rfl) (by kernel_rfl) (fun _ _ d _ _ h => by cases d <;> exact h) (fun _ => rfl) ?_
    simp only [pickOps, List.getElem?_toArray, List.getElem?_cons_zero, List.getElem?_cons_succ]
    go_wp2_with fail
    refine ⟨rfl, by rfl, ?_⟩
    have S0 := Lib.hid (GoS.drew (wr := wr) (rs := [(.slice Ar L.length cr, L), (.slice Al 6 cl, closes)]) (fun p hp => by
     simp only [List.mem_cons, List.not_mem_nil, or_false] at hp
     rcases hp with rfl | rfl
     ·exact OA7.out
     ·exact OC.out))
    clear u0 u1
    generalize wr.drew = x0 at S0 ⊢
    refine anyO_two (i := 8) (j := 15) (by kernel_rfl) rfl rfl (fun K hK => ?_) (fun K hK => ?_)
    ·go_simp
     refine hK.out _ _ (fun _ => ((boxed _ _).mono S0.out.hb.size)) ?_
     clear hK K
     have S1 := Lib.hid (S0.out.one ci (getA ++ runA))
     obtain ⟨za, hz⟩ : ∃ z, x0.heap.size = z := ⟨_, rfl⟩
     rw [hz] at S1 ⊢
     generalize World.alloc _ _ = x1 at S1 ⊢
     clear S0 hz
     refine anyO_two (i := 9) (j := 15) (by kernel_rfl) rfl rfl (fun K hK => ?_) (fun K hK => ?_)
     ·go_simp
      refine hK.out _ _ (fun _ => ((boxed _ _).mono S1.out.hb.size)) ?_
      clear hK K
      have S2 := Lib.hid (S1.out.put #[.slice Ar L.length cr, .slice Al 6 cl, .slice (some ⟨za, 0, none⟩) 1 1])
      obtain ⟨zb, hz⟩ : ∃ z, x1.heap.size = z := ⟨_, rfl⟩
      rw [hz] at S2 ⊢
      generalize World.alloc _ _ = x2 at S2 ⊢
      clear S1 hz
      refine anyO_two (i := 10) (j := 15) (by kernel_rfl) rfl rfl (fun K hK => ?_) (fun K hK => ?_)
      ·go_simp
       refine (conc3 x2 zb _ _ _ L closes [⟨1, (ci : Int), getA ++ runA⟩] (S2.out.bb _ rfl) (S2.out.rows _ (List.mem_cons_of_mem _ List.mem_cons_self)) (S2.out.rows _ (List.mem_cons_of_mem _ (List.mem_cons_of_mem _ List.mem_cons_self))) (S2.out.rows _ List.mem_cons_self) (by have := HL7.out; omega)).mono ?_
       rintro e x3 ⟨v3, rfl, o3, b⟩
       refine hK.out _ _ (fun _ => (b.mono S2.out.hb.size)) ?_
       clear hK K
       have S3 := Lib.hid (S2.out.add b o3)
       clear b S2 o3
       refine anyO_two (i := 11) (j := 15) (by kernel_rfl) rfl rfl (fun K hK => ?_) (fun K hK => ?_)
       ·go_simp
        refine (played_top x3 md ns v3 ((L ++ closes) ++ [⟨1, (ci : Int), getA ++ runA⟩]) HS.out.1 HS.out.2.1 HS.out.2.2 (S3.out.rows _ List.mem_cons_self).acl (by have := HL7.out; omega) HK3.out (HTX.out _ S3.out.hb)).mono ?_
        rintro e x4 ⟨ws, wd, ww, rfl, h4, b⟩
        rw [HO1.out] at h4
        refine hK.out _ _ (fun _ => (b.mono S3.out.hb.size)) ?_
        clear hK K
        have S4 := Lib.hid (S3.out.play h4 b)
        obtain ⟨E1, d1, E2, d2, E3, d3, rfl, rfl, rfl⟩ := outR_form h4
        clear b S3 h4
        refine anyO_seg false [12, 13, 14] 3 rfl (by kernel_rfl) (by kernel_rfl) (by kernel_rfl) (fun _ _ d _ _ h => by cases d <;> exact h) (fun h => by cases h) ?_
        simp only [pickOps, List.getElem?_toArray, List.getElem?_cons_zero, List.getElem?_cons_succ]
        go_wp2_with fail
        refine ⟨rfl, by rfl, ?_⟩
        refine anyO_one (i := 15) (by kernel_rfl) rfl (fun K hK => ?_)
        go_simp
        refine hK.out _ _ (fun _ => ((boxed _ _).mono S4.out.hb.size)) ?_
        clear hK K
        have S5 := Lib.hid S4.out.fz
        obtain ⟨z18, hz⟩ : ∃ z, x4.heap.size = z := ⟨_, rfl⟩
        rw [hz] at S5 ⊢
        generalize World.alloc _ _ = x5 at S5 ⊢
        clear S4 hz
        obtain ⟨bz, lz⟩ := S5.out.bz _ rfl
        have f0 := bz.cell_ 0 _ rfl
        have f1 := bz.cell_ 1 _ rfl
        have f2 := bz.cell_ 2 _ rfl
        have ff := bz.frozen
        clear bz
        refine anyO_one (i := 16) (by kernel_rfl) rfl (fun K hK => ?_)
        go_simp
        refine hK.out _ _ (fun _ => ((((((Below.refl _ _).setCell (p := ⟨z18, 0, none⟩) lz _)).setCell (p := ⟨z18, 1, none⟩) lz _)).setCell (p := ⟨z18, 2, none⟩) lz _)) ?_
        clear hK K
        refine anyO_seg false [17] 0 rfl (by kernel_rfl) (by kernel_rfl) (by kernel_rfl) (fun _ _ d _ _ h => by cases d <;> exact h) (fun h => by cases h) ?_
        simp only [pickOps, List.getElem?_toArray, List.getElem?_cons_zero, List.getElem?_cons_succ]
        go_wp2_with fail
        refine ⟨rfl, by rfl, ?_⟩
        refine anyO_done (by kernel_rfl) ?_ _
        have FN := Lib.hid (S5.out.fin lw rfl)
        clear f0 f1 f2 ff lz
        generalize World.setCell _ _ _ = x9 at FN ⊢
        go_wp2_with fail
        go_meet
        exact ⟨z18, _, _, _, rfl, rfl, FN.out⟩
       ·go_simp
        refine hK.out _ _ (fun _ => ((boxed _ _).mono S3.out.hb.size)) ?_
        clear hK K
        have S4 := Lib.hid S3.out.fz
        obtain ⟨z18, hz⟩ : ∃ z, x3.heap.size = z := ⟨_, rfl⟩
        rw [hz] at S4 ⊢
        generalize World.alloc _ _ = x4 at S4 ⊢
        clear S3 hz
        refine anyO_one (i := 11) (by kernel_rfl) rfl (fun K hK => ?_)
        go_simp
        refine (played_top x4 md ns v3 ((L ++ closes) ++ [⟨1, (ci : Int), getA ++ runA⟩]) HS.out.1 HS.out.2.1 HS.out.2.2 (S4.out.rows _ List.mem_cons_self).acl (by have := HL7.out; omega) HK3.out (HTX.out _ S4.out.hb)).mono ?_
        rintro e x5 ⟨ws, wd, ww, rfl, h4, b⟩
        rw [HO1.out] at h4
        refine hK.out _ _ (fun _ => (b.mono S4.out.hb.size)) ?_
        clear hK K
        have S5 := Lib.hid (S4.out.play h4 b)
        obtain ⟨E1, d1, E2, d2, E3, d3, rfl, rfl, rfl⟩ := outR_form h4
        clear b S4 h4
        refine anyO_seg false [12, 13, 14] 2 rfl (by kernel_rfl) (by kernel_rfl) (by kernel_rfl) (fun _ _ d _ _ h => by cases d <;> exact h) (fun h => by cases h) ?_
        simp only [pickOps, List.getElem?_toArray, List.getElem?_cons_zero, List.getElem?_cons_succ]
        go_wp2_with fail
        refine ⟨rfl, by rfl, ?_⟩
        obtain ⟨bz, lz⟩ := S5.out.bz _ rfl
        have f0 := bz.cell_ 0 _ rfl
        have f1 := bz.cell_ 1 _ rfl
        have f2 := bz.cell_ 2 _ rfl
        have ff := bz.frozen
        clear bz
        refine anyO_one (i := 16) (by kernel_rfl) rfl (fun K hK => ?_)
        go_simp
        refine hK.out _ _ (fun _ => ((((((Below.refl _ _).setCell (p := ⟨z18, 0, none⟩) lz _)).setCell (p := ⟨z18, 1, none⟩) lz _)).setCell (p := ⟨z18, 2, none⟩) lz _)) ?_
        clear hK K
        refine anyO_seg false [17] 0 rfl (by kernel_rfl) (by kernel_rfl) (by kernel_rfl) (fun _ _ d _ _ h => by cases d <;> exact h) (fun h => by cases h) ?_
        simp only [pickOps, List.getElem?_toArray, List.getElem?_cons_zero, List.getElem?_cons_succ]
        go_wp2_with fail
        refine ⟨rfl, by rfl, ?_⟩
        refine anyO_done (by kernel_rfl) ?_ _
        have FN := Lib.hid (S5.out.fin lw rfl)
        clear f0 f1 f2 ff lz
        generalize World.setCell _ _ _ = x9 at FN ⊢
        go_wp2_with fail
        go_meet
        exact ⟨z18, _, _, _, rfl, rfl, FN.out⟩
      ·go_simp
       refine hK.out _ _ (fun _ => ((boxed _ _).mono S2.out.hb.size)) ?_
       clear hK K
       have S3 := Lib.hid S2.out.fz
       obtain ⟨z18, hz⟩ : ∃ z, x2.heap.size = z := ⟨_, rfl⟩
       rw [hz] at S3 ⊢
       generalize World.alloc _ _ = x3 at S3 ⊢
       clear S2 hz
       refine anyO_one (i := 10) (by kernel_rfl) rfl (fun K hK => ?_)
       go_simp
       refine (conc3 x3 zb _ _ _ L closes [⟨1, (ci : Int), getA ++ runA⟩] (S3.out.bb _ rfl) (S3.out.rows _ (List.mem_cons_of_mem _ List.mem_cons_self)) (S3.out.rows _ (List.mem_cons_of_mem _ (List.mem_cons_of_mem _ List.mem_cons_self))) (S3.out.rows _ List.mem_cons_self) (by have := HL7.out; omega)).mono ?_
       rintro e x4 ⟨v3, rfl, o3, b⟩
       refine hK.out _ _ (fun _ => (b.mono S3.out.hb.size)) ?_
       clear hK K
       have S4 := Lib.hid (S3.out.add b o3)
       clear b S3 o3
       refine anyO_one (i := 11) (by kernel_rfl) rfl (fun K hK => ?_)
       go_simp
       refine (played_top x4 md ns v3 ((L ++ closes) ++ [⟨1, (ci : Int), getA ++ runA⟩]) HS.out.1 HS.out.2.1 HS.out.2.2 (S4.out.rows _ List.mem_cons_self).acl (by have := HL7.out; omega) HK3.out (HTX.out _ S4.out.hb)).mono ?_
       rintro e x5 ⟨ws, wd, ww, rfl, h4, b⟩
       rw [HO1.out] at h4
       refine hK.out _ _ (fun _ => (b.mono S4.out.hb.size)) ?_
       clear hK K
       have S5 := Lib.hid (S4.out.play h4 b)
       obtain ⟨E1, d1, E2, d2, E3, d3, rfl, rfl, rfl⟩ := outR_form h4
       clear b S4 h4
       refine anyO_seg false [12, 13, 14] 2 rfl (by kernel_rfl) (by kernel_rfl) (by kernel_rfl) (fun _ _ d _ _ h => by cases d <;> exact h) (fun h => by cases h) ?_
       simp only [pickOps, List.getElem?_toArray, List.getElem?_cons_zero, List.getElem?_cons_succ]
       go_wp2_with fail
       refine ⟨rfl, by rfl, ?_⟩
       obtain ⟨bz, lz⟩ := S5.out.bz _ rfl
       have f0 := bz.cell_ 0 _ rfl
       have f1 := bz.cell_ 1 _ rfl
       have f2 := bz.cell_ 2 _ rfl
       have ff := bz.frozen
       clear bz
       refine anyO_one (i := 16) (by kernel_rfl) rfl (fun K hK => ?_)
       go_simp
       refine hK.out _ _ (fun _ => ((((((Below.refl _ _).setCell (p := ⟨z18, 0, none⟩) lz _)).setCell (p := ⟨z18, 1, none⟩) lz _)).setCell (p := ⟨z18, 2, none⟩) lz _)) ?_
       clear hK K
       refine anyO_seg false [17] 0 rfl (by kernel_rfl) (by kernel_rfl) (by kernel_rfl) (fun _ _ d _ _ h => by cases d <;> exact h) (fun h => by cases h) ?_
       simp only [pickOps, List.getElem?_toArray, List.getElem?_cons_zero, List.getElem?_cons_succ]
       go_wp2_with fail
       refine ⟨rfl, by rfl, ?_⟩
       refine anyO_done (by kernel_rfl) ?_ _
       have FN := Lib.hid (S5.out.fin lw rfl)
       clear f0 f1 f2 ff lz
       generalize World.setCell _ _ _ = x9 at FN ⊢
       go_wp2_with fail
       go_meet
       exact ⟨z18, _, _, _, rfl, rfl, FN.out⟩
     ·go_simp
      refine hK.out _ _ (fun _ => ((boxed _ _).mono S1.out.hb.size)) ?_
      clear hK K
      have S2 := Lib.hid S1.out.fz
      obtain ⟨z18, hz⟩ : ∃ z, x1.heap.size = z := ⟨_, rfl⟩
      rw [hz] at S2 ⊢
      generalize World.alloc _ _ = x2 at S2 ⊢
      clear S1 hz
      refine anyO_one (i := 9) (by kernel_rfl) rfl (fun K hK => ?_)
      go_simp
      refine hK.out _ _ (fun _ => ((boxed _ _).mono S2.out.hb.size)) ?_
      clear hK K
      have S3 := Lib.hid (S2.out.put #[.slice Ar L.length cr, .slice Al 6 cl, .slice (some ⟨za, 0, none⟩) 1 1])
      obtain ⟨zb, hz⟩ : ∃ z, x2.heap.size = z := ⟨_, rfl⟩
      rw [hz] at S3 ⊢
      generalize World.alloc _ _ = x3 at S3 ⊢
      clear S2 hz
      refine anyO_one (i := 10) (by kernel_rfl) rfl (fun K hK => ?_)
      go_simp
      refine (conc3 x3 zb _ _ _ L closes [⟨1, (ci : Int), getA ++ runA⟩] (S3.out.bb _ rfl) (S3.out.rows _ (List.mem_cons_of_mem _ List.mem_cons_self)) (S3.out.rows _ (List.mem_cons_of_mem _ (List.mem_cons_of_mem _ List.mem_cons_self))) (S3.out.rows _ List.mem_cons_self) (by have := HL7.out; omega)).mono ?_
      rintro e x4 ⟨v3, rfl, o3, b⟩
      refine hK.out _ _ (fun _ => (b.mono S3.out.hb.size)) ?_
      clear hK K
      have S4 := Lib.hid (S3.out.add b o3)
      clear b S3 o3
      refine anyO_one (i := 11) (by kernel_rfl) rfl (fun K hK => ?_)
      go_simp
      refine (played_top x4 md ns v3 ((L ++ closes) ++ [⟨1, (ci : Int), getA ++ runA⟩]) HS.out.1 HS.out.2.1 HS.out.2.2 (S4.out.rows _ List.mem_cons_self).acl (by have := HL7.out; omega) HK3.out (HTX.out _ S4.out.hb)).mono ?_
      rintro e x5 ⟨ws, wd, ww, rfl, h4, b⟩
      rw [HO1.out] at h4
      refine hK.out _ _ (fun _ => (b.mono S4.out.hb.size)) ?_
      clear hK K
      have S5 := Lib.hid (S4.out.play h4 b)
      obtain ⟨E1, d1, E2, d2, E3, d3, rfl, rfl, rfl⟩ := outR_form h4
      clear b S4 h4
      refine anyO_seg false [12, 13, 14] 2 rfl (by kernel_rfl) (by kernel_rfl) (by kernel_rfl) (fun _ _ d _ _ h => by cases d <;> exact h) (fun h => by cases h) ?_
      simp only [pickOps, List.getElem?_toArray, List.getElem?_cons_zero, List.getElem?_cons_succ]
      go_wp2_with fail
      refine ⟨rfl, by rfl, ?_⟩
      obtain ⟨bz, lz⟩ := S5.out.bz _ rfl
      have f0 := bz.cell_ 0 _ rfl
      have f1 := bz.cell_ 1 _ rfl
      have f2 := bz.cell_ 2 _ rfl
      have ff := bz.frozen
      clear bz
      refine anyO_one (i := 16) (by kernel_rfl) rfl (fun K hK => ?_)
      go_simp
      refine hK.out _ _ (fun _ => ((((((Below.refl _ _).setCell (p := ⟨z18, 0, none⟩) lz _)).setCell (p := ⟨z18, 1, none⟩) lz _)).setCell (p := ⟨z18, 2, none⟩) lz _)) ?_
      clear hK K
      refine anyO_seg false [17] 0 rfl (by kernel_rfl) (by kernel_rfl) (by kernel_rfl) (fun _ _ d _ _ h => by cases d <;> exact h) (fun h => by cases h) ?_
      simp only [pickOps, List.getElem?_toArray, List.getElem?_cons_zero, List.getElem?_cons_succ]
      go_wp2_with fail
      refine ⟨rfl, by rfl, ?_⟩
      refine anyO_done (by kernel_rfl) ?_ _
      have FN := Lib.hid (S5.out.fin lw rfl)
      clear f0 f1 f2 ff lz
      generalize World.setCell _ _ _ = x9 at FN ⊢
      go_wp2_with fail
      go_meet
      exact ⟨z18, _, _, _, rfl, rfl, FN.out⟩
    ·go_simp
     refine hK.out _ _ (fun _ => ((boxed _ _).mono S0.out.hb.size)) ?_
     clear hK K
     have S1 := Lib.hid S0.out.fz
     obtain ⟨z18, hz⟩ : ∃ z, x0.heap.size = z := ⟨_, rfl⟩
     rw [hz] at S1 ⊢
     generalize World.alloc _ _ = x1 at S1 ⊢
     clear S0 hz
     refine anyO_one (i := 8) (by kernel_rfl) rfl (fun K hK => ?_)
     go_simp
     refine hK.out _ _ (fun _ => ((boxed _ _).mono S1.out.hb.size)) ?_
     clear hK K
     have S2 := Lib.hid (S1.out.one ci (getA ++ runA))
     obtain ⟨za, hz⟩ : ∃ z, x1.heap.size = z := ⟨_, rfl⟩
     rw [hz] at S2 ⊢
     generalize World.alloc _ _ = x2 at S2 ⊢
     clear S1 hz
     refine anyO_one (i := 9) (by kernel_rfl) rfl (fun K hK => ?_)
     go_simp
     refine hK.out _ _ (fun _ => ((boxed _ _).mono S2.out.hb.size)) ?_
     clear hK K
     have S3 := Lib.hid (S2.out.put #[.slice Ar L.length cr, .slice Al 6 cl, .slice (some ⟨za, 0, none⟩) 1 1])
     obtain ⟨zb, hz⟩ : ∃ z, x2.heap.size = z := ⟨_, rfl⟩
     rw [hz] at S3 ⊢
     generalize World.alloc _ _ = x3 at S3 ⊢
     clear S2 hz
     refine anyO_one (i := 10) (by kernel_rfl) rfl (fun K hK => ?_)
     go_simp
     refine (conc3 x3 zb _ _ _ L closes [⟨1, (ci : Int), getA ++ runA⟩] (S3.out.bb _ rfl) (S3.out.rows _ (List.mem_cons_of_mem _ List.mem_cons_self)) (S3.out.rows _ (List.mem_cons_of_mem _ (List.mem_cons_of_mem _ List.mem_cons_self))) (S3.out.rows _ List.mem_cons_self) (by have := HL7.out; omega)).mono ?_
     rintro e x4 ⟨v3, rfl, o3, b⟩
     refine hK.out _ _ (fun _ => (b.mono S3.out.hb.size)) ?_
     clear hK K
     have S4 := Lib.hid (S3.out.add b o3)
     clear b S3 o3
     refine anyO_one (i := 11) (by kernel_rfl) rfl (fun K hK => ?_)
     go_simp
     refine (played_top x4 md ns v3 ((L ++ closes) ++ [⟨1, (ci : Int), getA ++ runA⟩]) HS.out.1 HS.out.2.1 HS.out.2.2 (S4.out.rows _ List.mem_cons_self).acl (by have := HL7.out; omega) HK3.out (HTX.out _ S4.out.hb)).mono ?_
     rintro e x5 ⟨ws, wd, ww, rfl, h4, b⟩
     rw [HO1.out] at h4
     refine hK.out _ _ (fun _ => (b.mono S4.out.hb.size)) ?_
     clear hK K
     have S5 := Lib.hid (S4.out.play h4 b)
     obtain ⟨E1, d1, E2, d2, E3, d3, rfl, rfl, rfl⟩ := outR_form h4
     clear b S4 h4
     refine anyO_seg false [12, 13, 14] 2 rfl (by kernel_rfl) (by kernel_rfl) (by kernel_rfl) (fun _ _ d _ _ h => by cases d <;> exact h) (fun h => by cases h) ?_
     simp only [pickOps, List.getElem?_toArray, List.getElem?_cons_zero, List.getElem?_cons_succ]
     go_wp2_with fail
     refine ⟨rfl, by rfl, ?_⟩
     obtain ⟨bz, lz⟩ := S5.out.bz _ rfl
     have f0 := bz.cell_ 0 _ rfl
     have f1 := bz.cell_ 1 _ rfl
     have f2 := bz.cell_ 2 _ rfl
     have ff := bz.frozen
     clear bz
     refine anyO_one (i := 16) (by kernel_rfl) rfl (fun K hK => ?_)
     go_simp
     refine hK.out _ _ (fun _ => ((((((Below.refl _ _).setCell (p := ⟨z18, 0, none⟩) lz _)).setCell (p := ⟨z18, 1, none⟩) lz _)).setCell (p := ⟨z18, 2, none⟩) lz _)) ?_
     clear hK K
     refine anyO_seg false [17] 0 rfl (by kernel_rfl) (by kernel_rfl) (by kernel_rfl) (fun _ _ d _ _ h => by cases d <;> exact h) (fun h => by cases h) ?_
     simp only [pickOps, List.getElem?_toArray, List.getElem?_cons_zero, List.getElem?_cons_succ]
     go_wp2_with fail
     refine ⟨rfl, by rfl, ?_⟩
     refine anyO_done (by kernel_rfl) ?_ _
     have FN := Lib.hid (S5.out.fin lw rfl)
     clear f0 f1 f2 ff lz
     generalize World.setCell _ _ _ = x9 at FN ⊢
     go_wp2_with fail
     go_meet
     exact ⟨z18, _, _, _, rfl, rfl, FN.out⟩

   case rest =>
    obtain ⟨z18, vs3, vd3, vr3, rfl, rfl, FN⟩ := hcut
    have B8 := Lib.hid (below_step B7.out (Nat.le_refl _) FN.hb)
    have U8 := Lib.hid (U7.out.keep FN.hb)
    have OA8 := Lib.hid (OA7.out.keep FN.hb)
    have OC8 := Lib.hid (OC.out.keep FN.hb)
    have X8 := Lib.hid FN.box
    obtain ⟨A1, c1, A3, c3, A4, c4, rfl, rfl, rfl⟩ := outR_form FN.box.out
    rw [HS6.out] at X8
    clear FN u0 u1 lw HTX B7 U7 OA7 OC
    go_upto_region 13 with fail
    have u0 := U8.out.cell_ 0 _ rfl
    have u1 := U8.out.cell_ 1 _ rfl
    have lw := B8.out.size
    have HTX := Lib.hid (fun (u : World) (hb : Below wc.heap.size wc u) => HT.out.below (below_step B8.out (Nat.le_refl _) hb))
    go_cut [20, 21] (fun q g wd => ∃ z vs vd vr, q = .pointer (some ⟨z, 0, none⟩) ∧ g = .bool true ∧ TwN W0 wc wd z vs vd vr p)
    case first =>
     refine region_segsO [] (by kernel_rfl) ?_
     refine anyO_seg true [0, 1, 2] 9 rfl (by kernel_rfl) (by kernel_rfl) (by kernel_rfl) (fun _ _ d _ _ h => by cases d <;> exact h) (fun _ => rfl) ?_
     simp only [pickOps, List.getElem?_toArray, List.getElem?_cons_zero, List.getElem?_cons_succ]
     go_wp2_with fail
     refine ⟨rfl, by rfl, ?_⟩
     have S0 := Lib.hid (GoS.drew (wr := wc) (rs := [(.slice Ar L.length cr, L), (.slice Al 6 cl, closes)]) (fun p hp => by
      simp only [List.mem_cons, List.not_mem_nil, or_false] at hp
      rcases hp with rfl | rfl
      ·exact OA8.out
      ·exact OC8.out))
     clear u0 u1
     generalize wc.drew = x0 at S0 ⊢
     refine anyO_two (i := 3) (j := 9) (by kernel_rfl) rfl rfl (fun K hK => ?_) (fun K hK => ?_)
     ·go_simp
      refine hK.out _ _ (fun _ => ((boxed _ _).mono S0.out.hb.size)) ?_
      clear hK K
      have S1 := Lib.hid (S0.out.put #[.slice Ar L.length cr, .slice Al 6 cl])
      obtain ⟨zb, hz⟩ : ∃ z, x0.heap.size = z := ⟨_, rfl⟩
      rw [hz] at S1 ⊢
      generalize World.alloc _ _ = x1 at S1 ⊢
      clear S0 hz
      refine anyO_two (i := 4) (j := 9) (by kernel_rfl) rfl rfl (fun K hK => ?_) (fun K hK => ?_)
      ·go_simp
       refine (conc2 x1 zb _ _ L closes (S1.out.bb _ rfl) (S1.out.rows _ List.mem_cons_self) (S1.out.rows _ (List.mem_cons_of_mem _ List.mem_cons_self)) (by have := HL6.out; omega)).mono ?_
       rintro e x2 ⟨v3, rfl, o3, b⟩
       refine hK.out _ _ (fun _ => (b.mono S1.out.hb.size)) ?_
       clear hK K
       have S2 := Lib.hid (S1.out.add b o3)
       clear b S1 o3
       refine anyO_two (i := 5) (j := 9) (by kernel_rfl) rfl rfl (fun K hK => ?_) (fun K hK => ?_)
       ·go_simp
        refine (played_top x2 md ns v3 (L ++ closes) HS.out.1 HS.out.2.1 HS.out.2.2 (S2.out.rows _ List.mem_cons_self).acl (by have := HL6.out; omega) HK2.out (HTX.out _ S2.out.hb)).mono ?_
        rintro e x3 ⟨ws, wd, ww, rfl, h4, b⟩
        rw [HO2.out] at h4
        refine hK.out _ _ (fun _ => (b.mono S2.out.hb.size)) ?_
        clear hK K
        have S3 := Lib.hid (S2.out.play h4 b)
        obtain ⟨E1, d1, E2, d2, E3, d3, rfl, rfl, rfl⟩ := outR_form h4
        clear b S2 h4
        refine anyO_seg false [6, 7, 8] 3 rfl (by kernel_rfl) (by kernel_rfl) (by kernel_rfl) (fun _ _ d _ _ h => by cases d <;> exact h) (fun h => by cases h) ?_
        simp only [pickOps, List.getElem?_toArray, List.getElem?_cons_zero, List.getElem?_cons_succ]
        go_wp2_with fail
        refine ⟨rfl, by rfl, ?_⟩
        refine anyO_one (i := 9) (by kernel_rfl) rfl (fun K hK => ?_)
        go_simp
        refine hK.out _ _ (fun _ => ((boxed _ _).mono S3.out.hb.size)) ?_
        clear hK K
        have S4 := Lib.hid S3.out.fz
        obtain ⟨z20, hz⟩ : ∃ z, x3.heap.size = z := ⟨_, rfl⟩
        rw [hz] at S4 ⊢
        generalize World.alloc _ _ = x4 at S4 ⊢
        clear S3 hz
        obtain ⟨bz, lz⟩ := S4.out.bz _ rfl
        have f0 := bz.cell_ 0 _ rfl
        have f1 := bz.cell_ 1 _ rfl
        have f2 := bz.cell_ 2 _ rfl
        have ff := bz.frozen
        clear bz
        refine anyO_one (i := 10) (by kernel_rfl) rfl (fun K hK => ?_)
        go_simp
        refine hK.out _ _ (fun _ => ((((((Below.refl _ _).setCell (p := ⟨z20, 0, none⟩) lz _)).setCell (p := ⟨z20, 1, none⟩) lz _)).setCell (p := ⟨z20, 2, none⟩) lz _)) ?_
        clear hK K
        refine anyO_seg false [11] 0 rfl (by kernel_rfl) (by kernel_rfl) (by kernel_rfl) (fun _ _ d _ _ h => by cases d <;> exact h) (fun h => by cases h) ?_
        simp only [pickOps, List.getElem?_toArray, List.getElem?_cons_zero, List.getElem?_cons_succ]
        go_wp2_with fail
        refine ⟨rfl, by rfl, ?_⟩
        refine anyO_done (by kernel_rfl) ?_ _
        have FN := Lib.hid (S4.out.fin lw rfl)
        clear f0 f1 f2 ff lz
        generalize World.setCell _ _ _ = x9 at FN ⊢
        go_wp2_with fail
        go_meet
        exact ⟨z20, _, _, _, rfl, rfl, FN.out⟩
       ·go_simp
        refine hK.out _ _ (fun _ => ((boxed _ _).mono S2.out.hb.size)) ?_
        clear hK K
        have S3 := Lib.hid S2.out.fz
        obtain ⟨z20, hz⟩ : ∃ z, x2.heap.size = z := ⟨_, rfl⟩
        rw [hz] at S3 ⊢
        generalize World.alloc _ _ = x3 at S3 ⊢
        clear S2 hz
        refine anyO_one (i := 5) (by kernel_rfl) rfl (fun K hK => ?_)
        go_simp
        refine (played_top x3 md ns v3 (L ++ closes) HS.out.1 HS.out.2.1 HS.out.2.2 (S3.out.rows _ List.mem_cons_self).acl (by have := HL6.out; omega) HK2.out (HTX.out _ S3.out.hb)).mono ?_
        rintro e x4 ⟨ws, wd, ww, rfl, h4, b⟩
        rw [HO2.out] at h4
        refine hK.out _ _ (fun _ => (b.mono S3.out.hb.size)) ?_
        clear hK K
        have S4 := Lib.hid (S3.out.play h4 b)
        obtain ⟨E1, d1, E2, d2, E3, d3, rfl, rfl, rfl⟩ := outR_form h4
        clear b S3 h4
        refine anyO_seg false [6, 7, 8] 2 rfl (by kernel_rfl) (by kernel_rfl) (by kernel_rfl) (fun _ _ d _ _ h => by cases d <;> exact h) (fun h => by cases h) ?_
        simp only [pickOps, List.getElem?_toArray, List.getElem?_cons_zero, List.getElem?_cons_succ]
        go_wp2_with fail
        refine ⟨rfl, by rfl, ?_⟩
        obtain ⟨bz, lz⟩ := S4.out.bz _ rfl
        have f0 := bz.cell_ 0 _ rfl
        have f1 := bz.cell_ 1 _ rfl
        have f2 := bz.cell_ 2 _ rfl
        have ff := bz.frozen
        clear bz
        refine anyO_one (i := 10) (by kernel_rfl) rfl (fun K hK => ?_)
        go_simp
        refine hK.out _ _ (fun _ => ((((((Below.refl _ _).setCell (p := ⟨z20, 0, none⟩) lz _)).setCell (p := ⟨z20, 1, none⟩) lz _)).setCell (p := ⟨z20, 2, none⟩) lz _)) ?_
        clear hK K
        refine anyO_seg false [11] 0 rfl (by kernel_rfl) (by kernel_rfl) (by kernel_rfl) (fun _ _ d _ _ h => by cases d <;> exact h) (fun h => by cases h) ?_
        simp only [pickOps, List.getElem?_toArray, List.getElem?_cons_zero, List.getElem?_cons_succ]
        go_wp2_with fail
        refine ⟨rfl, by rfl, ?_⟩
        refine anyO_done (by kernel_rfl) ?_ _
        have FN := Lib.hid (S4.out.fin lw rfl)
        clear f0 f1 f2 ff lz
        generalize World.setCell _ _ _ = x9 at FN ⊢
        go_wp2_with fail
        go_meet
        exact ⟨z20, _, _, _, rfl, rfl, FN.out⟩
      ·go_simp
       refine hK.out _ _ (fun _ => ((boxed _ _).mono S1.out.hb.size)) ?_
       clear hK K
       have S2 := Lib.hid S1.out.fz
       obtain ⟨z20, hz⟩ : ∃ z, x1.heap.size = z := ⟨_, rfl⟩
       rw [hz] at S2 ⊢
       generalize World.alloc _ _ = x2 at S2 ⊢
       clear S1 hz
       refine anyO_one (i := 4) (by kernel_rfl) rfl (fun K hK => ?_)
       go_simp
       refine (conc2 x2 zb _ _ L closes (S2.out.bb _ rfl) (S2.out.rows _ List.mem_cons_self) (S2.out.rows _ (List.mem_cons_of_mem _ List.mem_cons_self)) (by have := HL6.out; omega)).mono ?_
       rintro e x3 ⟨v3, rfl, o3, b⟩
       refine hK.out _ _ (fun _ => (b.mono S2.out.hb.size)) ?_
       clear hK K
       have S3 := Lib.hid (S2.out.add b o3)
       clear b S2 o3
       refine anyO_one (i := 5) (by kernel_rfl) rfl (fun K hK => ?_)
       go_simp
       refine (played_top x3 md ns v3 (L ++ closes) HS.out.1 HS.out.2.1 HS.out.2.2 (S3.out.rows _ List.mem_cons_self).acl (by have := HL6.out; omega) HK2.out (HTX.out _ S3.out.hb)).mono ?_
       rintro e x4 ⟨ws, wd, ww, rfl, h4, b⟩
       rw [HO2.out] at h4
       refine hK.out _ _ (fun _ => (b.mono S3.out.hb.size)) ?_
       clear hK K
       have S4 := Lib.hid (S3.out.play h4 b)
       obtain ⟨E1, d1, E2, d2, E3, d3, rfl, rfl, rfl⟩ := outR_form h4
       clear b S3 h4
       refine anyO_seg false [6, 7, 8] 2 rfl (by kernel_rfl) (by kernel_rfl) (by kernel_rfl) (fun _ _ d _ _ h => by cases d <;> exact h) (fun h => by cases h) ?_
       simp only [pickOps, List.getElem?_toArray, List.getElem?_cons_zero, List.getElem?_cons_succ]
       go_wp2_with fail
       refine ⟨rfl, by rfl, ?_⟩
       obtain ⟨bz, lz⟩ := S4.out.bz _ rfl
       have f0 := bz.cell_ 0 _ rfl
       have f1 := bz.cell_ 1 _ rfl
       have f2 := bz.cell_ 2 _ rfl
       have ff := bz.frozen
       clear bz
       refine anyO_one (i := 10) (by kernel_rfl) rfl (fun K hK => ?_)
       go_simp
       refine hK.out _ _ (fun _ => ((((((Below.refl _ _).setCell (p := ⟨z20, 0, none⟩) lz _)).setCell (p := ⟨z20, 1, none⟩) lz _)).setCell (p := ⟨z20, 2, none⟩) lz _)) ?_
       clear hK K
       refine anyO_seg false [11] 0 rfl (by kernel_rfl) (by kernel_rfl) (by kernel_rfl) (fun _ _ d _ _ h => by cases d <;> exact h) (fun h => by cases h) ?_
       simp only [pickOps, List.getElem?_toArray, List.getElem?_cons_zero, List.getElem?_cons_succ]
       go_wp2_with fail
       refine ⟨rfl, by rfl, ?_⟩
       refine anyO_done (by kernel_rfl) ?_ _
       have FN := Lib.hid (S4.out.fin lw rfl)
       clear f0 f1 f2 ff lz
       generalize World.setCell _ _ _ = x9 at FN ⊢
       go_wp2_with fail
       go_meet
       exact ⟨z20, _, _, _, rfl, rfl, FN.out⟩
     ·go_simp
      refine hK.out _ _ (fun _ => ((boxed _ _).mono S0.out.hb.size)) ?_
      clear hK K
      have S1 := Lib.hid S0.out.fz
      obtain ⟨z20, hz⟩ : ∃ z, x0.heap.size = z := ⟨_, rfl⟩
      rw [hz] at S1 ⊢
      generalize World.alloc _ _ = x1 at S1 ⊢
      clear S0 hz
      refine anyO_one (i := 3) (by kernel_rfl) rfl (fun K hK => ?_)
      go_simp
      refine hK.out _ _ (fun _ => ((boxed _ _).mono S1.out.hb.size)) ?_
      clear hK K
      have S2 := Lib.hid (S1.out.put #[.slice Ar L.length cr, .slice Al 6 cl])
      obtain ⟨zb, hz⟩ : ∃ z, x1.heap.size = z := ⟨_, rfl⟩
      rw [hz] at S2 ⊢
      generalize World.alloc _ _ = x2 at S2 ⊢
      clear S1 hz
      refine anyO_one (i := 4) (by kernel_rfl) rfl (fun K hK => ?_)
      go_simp
      refine (conc2 x2 zb _ _ L closes (S2.out.bb _ rfl) (S2.out.rows _ List.mem_cons_self) (S2.out.rows _ (List.mem_cons_of_mem _ List.mem_cons_self)) (by have := HL6.out; omega)).mono ?_
      rintro e x3 ⟨v3, rfl, o3, b⟩
      refine hK.out _ _ (fun _ => (b.mono S2.out.hb.size)) ?_
      clear hK K
      have S3 := Lib.hid (S2.out.add b o3)
      clear b S2 o3
      refine anyO_one (i := 5) (by kernel_rfl) rfl (fun K hK => ?_)
      go_simp
      refine (played_top x3 md ns v3 (L ++ closes) HS.out.1 HS.out.2.1 HS.out.2.2 (S3.out.rows _ List.mem_cons_self).acl (by have := HL6.out; omega) HK2.out (HTX.out _ S3.out.hb)).mono ?_
      rintro e x4 ⟨ws, wd, ww, rfl, h4, b⟩
      rw [HO2.out] at h4
      refine hK.out _ _ (fun _ => (b.mono S3.out.hb.size)) ?_
      clear hK K
      have S4 := Lib.hid (S3.out.play h4 b)
      obtain ⟨E1, d1, E2, d2, E3, d3, rfl, rfl, rfl⟩ := outR_form h4
      clear b S3 h4
      refine anyO_seg false [6, 7, 8] 2 rfl (by kernel_rfl) (by kernel_rfl) (by kernel_rfl) (fun _ _ d _ _ h => by cases d <;> exact h) (fun h => by cases h) ?_
      simp only [pickOps, List.getElem?_toArray, List.getElem?_cons_zero, List.getElem?_cons_succ]
      go_wp2_with fail
      refine ⟨rfl, by rfl, ?_⟩
      obtain ⟨bz, lz⟩ := S4.out.bz _ rfl
      have f0 := bz.cell_ 0 _ rfl
      have f1 := bz.cell_ 1 _ rfl
      have f2 := bz.cell_ 2 _ rfl
      have ff := bz.frozen
      clear bz
      refine anyO_one (i := 10) (by kernel_rfl) rfl (fun K hK => ?_)
      go_simp
      refine hK.out _ _ (fun _ => ((((((Below.refl _ _).setCell (p := ⟨z20, 0, none⟩) lz _)).setCell (p := ⟨z20, 1, none⟩) lz _)).setCell (p := ⟨z20, 2, none⟩) lz _)) ?_
      clear hK K
      refine anyO_seg false [11] 0 rfl (by kernel_rfl) (by kernel_rfl) (by kernel_rfl) (fun _ _ d _ _ h => by cases d <;> exact h) (fun h => by cases h) ?_
      simp only [pickOps, List.getElem?_toArray, List.getElem?_cons_zero, List.getElem?_cons_succ]
      go_wp2_with fail
      refine ⟨rfl, by rfl, ?_⟩
      refine anyO_done (by kernel_rfl) ?_ _
      have FN := Lib.hid (S4.out.fin lw rfl)
      clear f0 f1 f2 ff lz
      generalize World.setCell _ _ _ = x9 at FN ⊢
      go_wp2_with fail
      go_meet
      exact ⟨z20, _, _, _, rfl, rfl, FN.out⟩

    case rest =>
     obtain ⟨z20, ws3, wd3, wr3, rfl, rfl, FN⟩ := hcut
     have B9 := Lib.hid (below_step B8.out (Nat.le_refl _) FN.hb)
     have X9 := Lib.hid (X8.out.keep FN.hb)
     have Y9 := Lib.hid FN.box
     obtain ⟨D1, e1, D3, e3, D4, e4, rfl, rfl, rfl⟩ := outR_form FN.box.out
     rw [HT6.out] at Y9
     clear FN u0 u1 lw HTX B8 X8 U8 OA8 OC8
     have hr : p.rows = o.rows := HG2.out.symm
     obtain ⟨r1, hr1⟩ : ∃ n, o.rows.length = n := ⟨_, rfl⟩
     rw [hr, hr1] at Y9
     rw [hr1] at X9
     obtain ⟨-, h6c, ad, rfl, xs⟩ := sent_at X9.out.out HS6.out (k := ci) (by omega)
     obtain ⟨-, h6d, ad3, rfl, ys⟩ := sent_at Y9.out.out HT6.out (k := ci) (by omega)
     rw [HG1.out] at xs
     have hsz := HBD.out
     obtain ⟨s, hs⟩ : ∃ s, p.sent.getD ci ByteArray.empty = s := ⟨_, rfl⟩
     rw [hs] at xs ys hsz
     unfold noneM notM at xs
     have gci : (ci : Int) < 6 := by omega
     have gc0 : (0 : Int) ≤ (ci : Int) := by omega
     have x0 := X9.out.blk.cell_ 0 _ rfl
     have x2 := X9.out.blk.cell_ 2 _ rfl
     have y0 := Y9.out.blk.cell_ 0 _ rfl
     have y2 := Y9.out.blk.cell_ 2 _ rfl
     have E := Lib.hid (fun (u : World) (hb : Below wc.heap.size wc u) => equal_same u (.slice A4 r1 c4) (.slice D4 r1 e4) o.rows (X9.out.keep hb).out.rows.pl (by have := (Y9.out.keep hb).out.rows.pl; rwa [hr] at this))
     clear hs hr hr1
     go_upto_region 14 with fail
     refine region_segs [] (by kernel_rfl) ?_
     refine anyB_seg [0, 1, 2, 3, 4, 5, 6, 7, 8, 9, 10, 11, 12, 13, 14, 15, 16, 17, 18, 19, 20, 21, 22, 23, 24, 25, 26, 27, 28, 29, 30, 31] 3 rfl (by kernel_rfl) (by kernel_rfl) (by kernel_rfl) (fun _ _ d _ _ h => by cases d <;> exact h) ?_
     simp only [pickOps, List.getElem?_toArray, List.getElem?_cons_zero, List.getElem?_cons_succ]
     go_wp2_with fail
     refine ⟨rfl, by rfl, ?_⟩
     refine anyB_one (i := 32) (by kernel_rfl) rfl (fun K hK => ?_)
     go_simp
     refine (E.out _ (Below.refl _ _).drew).mono ?_
     rintro e x9 ⟨rfl, b⟩
     refine hK.out _ _ (fun _ => b) ?_
     clear hK K
     refine anyB_seg [33, 34] 0 rfl (by kernel_rfl) (by kernel_rfl) (by kernel_rfl) (fun _ _ d _ _ h => by cases d <;> exact h) ?_
     simp only [pickOps, List.getElem?_toArray, List.getElem?_cons_zero, List.getElem?_cons_succ]
     go_wp2_with fail
     refine ⟨rfl, by rfl, ?_⟩
     refine anyB_done (by kernel_rfl) ?_ _
     have B11 := Lib.hid (below_step B9.out.drew (Nat.le_refl _) b)
     clear b
     go_wp2_with fail
     go_ret
     exact ⟨rfl, B11.out⟩
end Go.Proofs.YtjbnfigpflambacGreatDoor
