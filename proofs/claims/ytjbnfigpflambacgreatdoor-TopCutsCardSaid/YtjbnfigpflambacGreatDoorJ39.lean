/- The walk of TopTwice: it returns true. Plain part of TopCuts: the acts cut in two. -/
import Derived.Test.YtjbnfigpflambacGreatDoorJ03
import Derived.Test.YtjbnfigpflambacGreatDoorJ23
import Derived.Test.YtjbnfigpflambacGreatDoorJ36
import Derived.Test.YtjbnfigpflambacGreatDoorJ37
/- The walk of TopTwice: it returns true. -/
namespace Go.Proofs.YtjbnfigpflambacGreatDoor
open Go.ChangeShapes Go.WideShapes Go.ChangeAt Go.RowKit
/-- in the midst of the third play -/
structure TwS (wr wx : World) (z : Option Nat) (rs : List (Value × List Ac)) (X : Option (Value × Value × Value × Outc)) : Prop where
 hb : Below wr.heap.size wr wx
 bz : ∀ q, z = some q → Blk wx q 29 #[.slice none 0 0, .slice none 0 0, .slice none 0 0] ∧ wr.heap.size ≤ q
 rows : ∀ p ∈ rs, wx.ownsRow wr.heap.size 54 3 p.1 p.2.length (acV p.2)
 out : ∀ vs vd vr o, X = some (vs, vd, vr, o) → OutR wx wr.heap.size vs vd vr o
section
variable {wr wx wy : World} {z : Option Nat} {rs : List (Value × List Ac)} {X : Option (Value × Value × Value × Outc)}
theorem ownsRow_base {w : World} {B B' : Nat} {t : TypeId} {size n : Nat} {v : Value} {xs : List Value} (h : w.ownsRow B t size v n xs) (hB : B' ≤ B) : w.ownsRow B' t size v n xs := by
 refine ⟨h.1, h.2.imp id ?_⟩
 rintro ⟨g, cap, cur, e, hb, r⟩
 exact ⟨g, cap, cur, e, Nat.le_trans hB hb, r⟩
theorem own_ge {w : World} {B : Nat} {t : TypeId} {size n : Nat} {v : Value} {xs : List Value} (h : w.ownsRow B t size v n xs) : ∀ k, v.ownBlock = some k → B ≤ k := fun k hk => (OwnO.of_own h).lt k hk |>.1
theorem grown_B0 {w w' : World} {B : Nat} {row : Option Nat} (hg : w.grownBy w' row) (hB : B ≤ w.heap.size) (hr : ∀ k, row = some k → B ≤ k) : Below B w w' := ((Below.refl B w)).grown hg hB hr
theorem TwS.start (wr : World) : TwS wr wr none [] none := ⟨Below.refl _ _, fun _ h => (by cases h), fun _ h => (by cases h), fun _ _ _ _ h => (by cases h)⟩
theorem TwS.keep (h : TwS wr wx z rs X) (hb : Below wx.heap.size wx wy) : TwS wr wy z rs X :=
 ⟨below_step h.hb (Nat.le_refl _) hb, fun q hq => ⟨(h.bz q hq).1.keep hb, (h.bz q hq).2⟩, fun p hp => (Keeps.of_below hb).own (h.rows p hp), fun vs vd vr o e => (h.out vs vd vr o e).keep hb⟩
theorem TwS.fz (h : TwS wr wx none rs X) : TwS wr (wx.alloc (.cells #[.slice none 0 0, .slice none 0 0, .slice none 0 0] 29)) (some wx.heap.size) rs X := by
 have k := h.keep (boxed wx (.cells #[.slice none 0 0, .slice none 0 0, .slice none 0 0] 29))
 exact ⟨k.hb, fun q hq => (by injection hq with hq; subst hq; exact ⟨Blk.new wx _ _, h.hb.size⟩), k.rows, k.out⟩
theorem TwS.add (h : TwS wr wx z rs X) (hb : Below wx.heap.size wx wy) {v : Value} {l : List Ac} (o : wy.ownsRow wx.heap.size 54 3 v l.length (acV l)) : TwS wr wy z ((v, l) :: rs) X := by
 have k := h.keep hb
 refine ⟨k.hb, k.bz, fun p hp => ?_, k.out⟩
 rcases List.mem_cons.1 hp with rfl | hp
 ·exact ownsRow_base o h.hb.size
 ·exact k.rows p hp
theorem TwS.app {v1 v2 v3 : Value} {l1 l2 : List Ac} (h : TwS wr wx z [(v2, l2), (v1, l1)] none) (o : wy.ownsRow wr.heap.size 54 3 v3 (l1.length + l2.length) (acV l1 ++ acV l2)) (hg : wx.grownBy wy v1.ownBlock) : TwS wr wy z [(v3, l1 ++ l2)] none := by
 have o1 := h.rows (v1, l1) (List.mem_cons_of_mem _ List.mem_cons_self)
 refine ⟨h.hb.grown hg h.hb.size fun k hk => own_ge o1 k hk, fun q hq => ⟨?_, (h.bz q hq).2⟩, fun p hp => ?_, fun _ _ _ _ e => (by cases e)⟩
 ·exact (h.bz q hq).1.ofKeeps (Keeps.grown hg (own_row o1) (by decide))
 ·have : p = (v3, l1 ++ l2) := by simpa using hp
  subst this
  show wy.ownsRow _ _ _ v3 (l1 ++ l2).length (acV (l1 ++ l2))
  rw [List.length_append, acV_app]
  exact o
theorem TwS.play {vs vd vr : Value} {o : Outc} (h : TwS wr wx z rs X) (o1 : OutR wy wx.heap.size vs vd vr o) (hb : Below wx.heap.size wx wy) : TwS wr wy z rs (some (vs, vd, vr, o)) := by
 have k := h.keep hb
 refine ⟨k.hb, k.bz, k.rows, fun vs' vd' vr' o' e => ?_⟩
 injection e with e
 injection e with e1 e2
 injection e2 with e2 e3
 injection e3 with e3 e4
 subst e1 e2 e3 e4
 exact o1.base h.hb.size
/-- behind it -/
structure TwN (W0 wr wy : World) (z : Nat) (vs vd vr : Value) (o : Outc) : Prop where
 hb : Below wr.heap.size wr wy
 box : BoxO wy W0.heap.size z vs vd vr o
theorem TwS.fin {W0 : World} {q : Nat} {vs vd vr : Value} {o : Outc} (h : TwS wr wx (some q) rs (some (vs, vd, vr, o))) (hW : W0.heap.size ≤ wr.heap.size) (e : wy = ((wx.setCell ⟨q, 0, none⟩ vs).setCell ⟨q, 1, none⟩ vd).setCell ⟨q, 2, none⟩ vr) : TwN W0 wr wy q vs vd vr o := by
 subst e
 obtain ⟨b, lb⟩ := h.bz _ rfl
 have s0 := b.set_ 0 vs
 have s1 := s0.set_ 1 vd
 have s2 := s1.set_ 2 vr
 have k : ∀ t, 29 ≠ t → Keeps t wx (((wx.setCell ⟨q, 0, none⟩ vs).setCell ⟨q, 1, none⟩ vd).setCell ⟨q, 2, none⟩ vr) := fun t ht =>
  ((Keeps.set_ (p := ⟨q, 0, none⟩) b ht vs).trans (Keeps.set_ (p := ⟨q, 1, none⟩) s0 ht vd)).trans (Keeps.set_ (p := ⟨q, 2, none⟩) s1 ht vr)
 exact ⟨((h.hb.setCell (p := ⟨q, 0, none⟩) lb _).setCell (p := ⟨q, 1, none⟩) lb _).setCell (p := ⟨q, 2, none⟩) lb _, Nat.le_trans hW lb, s2, ((h.out _ _ _ _ rfl).base hW).keeps (k _ (by decide)) (k _ (by decide)) (k _ (by decide))⟩
end
theorem TwS.drew (wr : World) : TwS wr wr.drew none [] none := (TwS.start wr).keep (Below.refl _ _).drew
theorem prefix_app (a t : ByteArray) : Lib.hasPrefix (a ++ t).data.toList a.data.toList = true := by
 unfold Lib.hasPrefix
 rw [show (a ++ t).data.toList = a.data.toList ++ t.data.toList by simp]
 simp
theorem sent_at {w : World} {B n cap : Nat} {A : Option Addr} {vd vr : Value} {o : Outc} (h : OutR w B (.slice A n cap) vd vr o) (h6 : o.sent.length = 6) {k : Nat} (hk : k < 6) : n = 6 ∧ 6 ≤ cap ∧ ∃ ad, A = some ad ∧ w.cell? (ad.add k) = some (.string (o.sent.getD k ByteArray.empty)) := by
 have h1 := h.sent
 rw [h6] at h1
 obtain ⟨A', c', e, hc, r⟩ := h1.reads
 injection e with e1 e2 e3
 subst e1 e2 e3
 obtain ⟨ad, e, _, hx⟩ := r.2 (by decide)
 refine ⟨rfl, hc, ad, e, ?_⟩
 refine hx k _ ?_
 rw [List.getElem?_map, List.getElem?_eq_getElem (by omega), List.getD_eq_getElem?_getD, List.getElem?_eq_getElem (by omega)]
 rfl
set_option maxHeartbeats 16000000 in
set_option maxRecDepth 100000 in
theorem topTwice_walk (W0 : World) (hT : Tabs W0) (v : Value) (l : List Rw) (hl : RL W0 W0.heap.size v l) (v2 : Value) (l2 : List Rw) (hl2 : RL W0 W0.heap.size v2 l2) (m : Int) (hm : (Lit.int .i64 m).wf = true) (n : Int) (hn : (Lit.int .i64 n).wf = true) :
  Calls Tryz.prog 10 #[v, v2, .int .i64 m, .int .i64 n] W0 fun e w' => e = .returned (.bool true) ∧ Below W0.heap.size W0 w' := by
 obtain ⟨i0, hi0, hz0, hz1, hz2⟩ := info_parts act_info
 have HT := Lib.hid hT
 have HL := Lib.hid hl
 have HL2 := Lib.hid hl2
 have HM := Lib.hid hm
 have HN := Lib.hid hn
 obtain ⟨A, cap, rfl, _⟩ := hl
 obtain ⟨A2, cap2, rfl, _⟩ := hl2
 have hf := acts_fair (most := 50) (m := 5) (by decide) (by decide) l
 have hf2 := acts_fair (most := 20) (m := 5) (by decide) (by decide) l2
 have hle := acts_len 50 5 l
 have hle2 := acts_len 20 5 l2
 obtain ⟨ns, hk, k1, k4, hs⟩ := setup_ok m n
 obtain ⟨md, hmd⟩ : ∃ md, 1 + pick m 3 = md := ⟨_, rfl⟩
 rw [hmd] at hs
 obtain ⟨L1, hL1⟩ : ∃ L, actsL 50 5 l = L := ⟨_, rfl⟩
 obtain ⟨L2, hL2⟩ : ∃ L, actsL 20 5 l2 = L := ⟨_, rfl⟩
 rw [hL1] at hf hle
 rw [hL2] at hf2 hle2
 have HL1E := Lib.hid hL1
 have HL2E := Lib.hid hL2
 have htw := twice_plain md ns L1 L2
 have hs6 := out_six md ns L1
 have ht6 := out_six md ns (L1 ++ L2)
 obtain ⟨o, ho⟩ : ∃ o, outM md ns L1 = o := ⟨_, rfl⟩
 obtain ⟨o3, ho3⟩ : ∃ o, outM md ns (L1 ++ L2) = o := ⟨_, rfl⟩
 rw [ho, ho3] at htw
 rw [ho] at hs6
 rw [ho3] at ht6
 have HTW := Lib.hid htw
 have HS6 := Lib.hid hs6
 have HT6 := Lib.hid ht6
 have HO1 := Lib.hid ho
 have HO3 := Lib.hid ho3
 have HO := Lib.hid (fair_ok hf)
 have HOA := Lib.hid (fair_ok (m := 5) (l := L1 ++ L2) (fun a ha => (List.mem_append.1 ha).elim (hf a) (hf2 a)))
 have HLE := Lib.hid (show L1.length ≤ 1000 ∧ L1.length ≤ 50 ∧ L2.length ≤ 20 by omega)
 have HK := Lib.hid hk
 have HMD := Lib.hid hmd
 have HS := Lib.hid (And.intro hs (And.intro k1 k4))
 obtain ⟨N, hN⟩ : ∃ N, l.length = N := ⟨_, rfl⟩
 obtain ⟨N2, hN2⟩ : ∃ N, l2.length = N := ⟨_, rfl⟩
 rw [hN] at HL ⊢
 rw [hN2] at HL2 ⊢
 clear hT hf hf2 ho ho3 hN hN2 hm hn hk k1 k4 hs hmd hle hle2 hL1 hL2 htw hs6 ht6
 go_enter Tryz.func10, Tryz.ntmps10
 go_wp2_with fail
 refine (ksetup_any m n _ HM.out HN.out).mono ?_
 rintro e w1 ⟨rfl, b1⟩
 rw [HK.out, HMD.out]
 have bb := boxed w1 (.cells #[.int .i64 md, .int .i64 (ns : Int)] 23)
 have B1 := Lib.hid (below_step b1 (Nat.le_refl _) bb)
 have U1 := Lib.hid (Blk.new w1 23 #[.int .i64 md, .int .i64 (ns : Int)])
 clear b1 bb
 obtain ⟨qu, hqu⟩ : ∃ q, w1.heap.size = q := ⟨_, rfl⟩
 rw [hqu] at U1
 go_upto_region 2 with fail
 generalize World.alloc _ _ = w2 at B1 U1 ⊢
 clear hqu
 go_wp2_with fail
 have h1 : RL w2 w2.heap.size (.slice A N cap) l := (HL.out.below B1.out).more B1.out.size
 have h2 : Tabs w2 := HT.out.below B1.out
 refine (acts_any _ _ l h1 50 5 (by decide) (by decide) (by decide) h2).mono ?_
 clear h1 h2
 rintro e w3 ⟨r, rfl, own, b2⟩
 rw [HL1E.out] at own
 obtain ⟨Ar, cr, rfl⟩ := own_slice own
 have B3 := Lib.hid (below_step B1.out (Nat.le_refl _) b2)
 have U3 := Lib.hid (U1.out.keep b2)
 have OA := Lib.hid (ownsRow_base own B1.out.size)
 obtain ⟨n1, hn1⟩ : ∃ n, L1.length = n := ⟨_, rfl⟩
 clear own b2 B1 U1
 go_upto_region 3 with fail
 have u0 := U3.out.cell_ 0 _ rfl
 have u1 := U3.out.cell_ 1 _ rfl
 go_wp2_with fail
 refine (played_top _ md ns _ _ HS.out.1 HS.out.2.1 HS.out.2.2 (by have := own_acl OA.out; rwa [hn1] at this) (by have := HLE.out; omega) HO.out (HT.out.below B3.out)).mono ?_
 rintro e w4 ⟨vs, vd, vr, rfl, h4, b4⟩
 rw [HO1.out] at h4
 have X := Lib.hid (boxO_new h4 b4 B3.out.size)
 have B4 := below_step B3.out (Nat.le_refl _) b4
 have bb := boxed w4 (.cells #[vs, vd, vr] 29)
 have B5 := Lib.hid (below_step B4 (Nat.le_refl _) bb)
 have U5 := Lib.hid ((U3.out.keep b4).keep bb)
 have OA5 := Lib.hid ((Keeps.of_below bb).own ((Keeps.of_below b4).own OA.out))
 obtain ⟨A1, c1, A3, c3, A4, c4, rfl, rfl, rfl⟩ := outR_form h4
 clear h4 b4 bb B3 B4 u0 u1 U3 OA
 obtain ⟨q, hq⟩ : ∃ q, w4.heap.size = q := ⟨_, rfl⟩
 rw [hq] at X
 go_upto_region 4 with fail
 generalize World.alloc _ _ = w5 at X B5 U5 OA5 ⊢
 clear hq
 have u0 := U5.out.cell_ 0 _ rfl
 have u1 := U5.out.cell_ 1 _ rfl
 go_wp2_with fail
 refine (played_top _ md ns _ _ HS.out.1 HS.out.2.1 HS.out.2.2 (by have := own_acl OA5.out; rwa [hn1] at this) (by have := HLE.out; omega) HO.out (HT.out.below B5.out)).mono ?_
 rintro e w6 ⟨us, ud, ur, rfl, h6, b6⟩
 rw [HO1.out] at h6
 have Y := Lib.hid (boxO_new h6 b6 B5.out.size)
 have B6 := below_step B5.out (Nat.le_refl _) b6
 have bb := boxed w6 (.cells #[us, ud, ur] 29)
 have B7 := Lib.hid (below_step B6 (Nat.le_refl _) bb)
 have U7 := Lib.hid ((U5.out.keep b6).keep bb)
 have X7 := Lib.hid ((X.out.keep b6).keep bb)
 have OA7 := Lib.hid ((Keeps.of_below bb).own ((Keeps.of_below b6).own OA5.out))
 obtain ⟨D1, e1, D3, e3, D4, e4, rfl, rfl, rfl⟩ := outR_form h6
 clear h6 b6 bb B5 B6 u0 u1 U5 OA5 X
 obtain ⟨q2, hq⟩ : ∃ q, w6.heap.size = q := ⟨_, rfl⟩
 rw [hq] at Y
 go_upto_region 5 with fail
 generalize World.alloc _ _ = wr at X7 Y B7 U7 OA7 ⊢
 clear hq
 have u0 := U7.out.cell_ 0 _ rfl
 have u1 := U7.out.cell_ 1 _ rfl
 have lw := B7.out.size
 have HA := Lib.hid (fun (u : World) (hb : Below wr.heap.size wr u) => by have := (Keeps.of_below hb).own OA7.out; rw (occs := .pos [1]) [hn1] at this; exact this)
 have HTX := Lib.hid (fun (u : World) (hb : Below wr.heap.size wr u) => HT.out.below (below_step B7.out (Nat.le_refl _) hb))
 have HLX := HL2
 replace HL2 := Lib.hid (fun (u : World) (hb : Below wr.heap.size wr u) => ((HLX.out.below (below_step B7.out (Nat.le_refl _) hb)).more (below_step B7.out (Nat.le_refl _) hb).size))
 go_cut [15, 16] (fun p g wc => ∃ z vs vd vr, p = .pointer (some ⟨z, 0, none⟩) ∧ g = .bool true ∧ TwN W0 wr wc z vs vd vr o3)
 case first =>
  refine region_segsO [] (by kernel_rfl) ?_
  refine anyO_seg true [0, 1, 3] 10 rfl (by kernel_rfl) (by kernel_rfl) (by kernel_rfl) (fun _ _ d _ _ h => by cases d <;> exact h) (fun _ => rfl) ?_
  simp only [pickOps, List.getElem?_toArray, List.getElem?_cons_zero, List.getElem?_cons_succ]
  go_wp2_with fail
  refine ⟨rfl, by rfl, ?_⟩
  have S0 := Lib.hid (TwS.drew wr)
  clear u0 u1
  generalize wr.drew = x0 at S0 ⊢
  refine anyO_two (i := 2) (j := 10) (by kernel_rfl) rfl rfl (fun K hK => ?_) (fun K hK => ?_)
  ·go_simp
   refine (clone_acts x0 W0.heap.size (.slice Ar n1 cr) L1 (HA.out _ S0.out.hb) HLE.out.1).mono ?_
   rintro e x1 ⟨v1, rfl, o1, b⟩
   refine hK.out _ _ (fun _ => (b.mono S0.out.hb.size)) ?_
   clear hK K
   have S1 := Lib.hid (S0.out.add b o1)
   clear b S0 o1
   refine anyO_two (i := 4) (j := 10) (by kernel_rfl) rfl rfl (fun K hK => ?_) (fun K hK => ?_)
   ·go_simp
    refine (acts_any x1 (.slice A2 N2 cap2) l2 (HL2.out _ S1.out.hb) 20 5 (by decide) (by decide) (by decide) (HTX.out _ S1.out.hb)).mono ?_
    rintro e x2 ⟨v2, rfl, o2, b⟩
    rw [HL2E.out] at o2
    refine hK.out _ _ (fun _ => (b.mono S1.out.hb.size)) ?_
    clear hK K
    obtain ⟨Ar2, cr2, rfl⟩ := own_slice o2
    have S2 := Lib.hid (S1.out.add b o2)
    clear b S1 o2
    refine anyO_two (i := 5) (j := 10) (by kernel_rfl) rfl rfl (fun K hK => ?_) (fun K hK => ?_)
    ·rw [if_pos (by rfl)]
     have o1 := S2.out.rows _ (List.mem_cons_of_mem _ List.mem_cons_self)
     have o2 := S2.out.rows _ List.mem_cons_self
     have hbs := S2.out.hb.size
     refine wp_append_any x2 _ _ _ rfl wr.heap.size 54 i0 _ 3 32 Tryz.underlying24 hi0 hz0 hz1 hz2 rfl (by decide) v1 L1.length (acV L1) rfl o1 x2.heap.size Ar2 L2.length cr2 (acV L2) rfl (Reads.of_own o2) (acV_one L2) (by have := HLE.out; unfold maxLen; omega) (by have := HLE.out; omega) hbs ?_
     intro v3 x3 h3 hg hn
     have S3 := Lib.hid (S2.out.app h3 hg)
     refine hK.out _ _ (fun _ => (grown_B0 hg hbs (fun k hk => own_ge o1 k hk))) ?_
     clear hK K
     clear h3 hg hn o1 o2 hbs S2
     refine anyO_two (i := 6) (j := 10) (by kernel_rfl) rfl rfl (fun K hK => ?_) (fun K hK => ?_)
     ·go_simp
      have o3 := S3.out.rows _ List.mem_cons_self
      refine (played_top x3 md ns v3 (L1 ++ L2) HS.out.1 HS.out.2.1 HS.out.2.2 (own_acl o3) (by rw [List.length_append]; have := HLE.out; omega) HOA.out (HTX.out _ S3.out.hb)).mono ?_
      rintro e x4 ⟨ws, wd, ww, rfl, h4, b⟩
      rw [HO3.out] at h4
      refine hK.out _ _ (fun _ => (b.mono S3.out.hb.size)) ?_
      clear hK K
      have S4 := Lib.hid (S3.out.play h4 b)
      obtain ⟨E1, d1, E2, d2, E3, d3, rfl, rfl, rfl⟩ := outR_form h4
      clear b S3 o3 h4
      refine anyO_seg false [7, 8, 9] 3 rfl (by kernel_rfl) (by kernel_rfl) (by kernel_rfl) (fun _ _ d _ _ h => by cases d <;> exact h) (fun h => by cases h) ?_
      simp only [pickOps, List.getElem?_toArray, List.getElem?_cons_zero, List.getElem?_cons_succ]
      go_wp2_with fail
      refine ⟨rfl, by rfl, ?_⟩
      refine anyO_one (i := 10) (by kernel_rfl) rfl (fun K hK => ?_)
      go_simp
      refine hK.out _ _ (fun _ => ((boxed _ _).mono S4.out.hb.size)) ?_
      clear hK K
      have S5 := Lib.hid S4.out.fz
      obtain ⟨z15, hz⟩ : ∃ z, x4.heap.size = z := ⟨_, rfl⟩
      rw [hz] at S5 ⊢
      generalize World.alloc _ _ = x5 at S5 ⊢
      clear S4 hz
      obtain ⟨bz, lz⟩ := S5.out.bz _ rfl
      have f0 := bz.cell_ 0 _ rfl
      have f1 := bz.cell_ 1 _ rfl
      have f2 := bz.cell_ 2 _ rfl
      have ff := bz.frozen
      clear bz
      refine anyO_one (i := 11) (by kernel_rfl) rfl (fun K hK => ?_)
      go_simp
      refine hK.out _ _ (fun _ => ((((((Below.refl _ _).setCell (p := ⟨z15, 0, none⟩) lz _)).setCell (p := ⟨z15, 1, none⟩) lz _)).setCell (p := ⟨z15, 2, none⟩) lz _)) ?_
      clear hK K
      refine anyO_seg false [12] 0 rfl (by kernel_rfl) (by kernel_rfl) (by kernel_rfl) (fun _ _ d _ _ h => by cases d <;> exact h) (fun h => by cases h) ?_
      simp only [pickOps, List.getElem?_toArray, List.getElem?_cons_zero, List.getElem?_cons_succ]
      go_wp2_with fail
      refine ⟨rfl, by rfl, ?_⟩
      refine anyO_done (by kernel_rfl) ?_ _
      have FN := Lib.hid (S5.out.fin lw rfl)
      clear f0 f1 f2 ff lz
      generalize World.setCell _ _ _ = x9 at FN ⊢
      go_wp2_with fail
      go_meet
      exact ⟨z15, _, _, _, rfl, rfl, FN.out⟩
     ·go_simp
      refine hK.out _ _ (fun _ => ((boxed _ _).mono S3.out.hb.size)) ?_
      clear hK K
      have S4 := Lib.hid S3.out.fz
      obtain ⟨z15, hz⟩ : ∃ z, x3.heap.size = z := ⟨_, rfl⟩
      rw [hz] at S4 ⊢
      generalize World.alloc _ _ = x4 at S4 ⊢
      clear S3 hz
      refine anyO_one (i := 6) (by kernel_rfl) rfl (fun K hK => ?_)
      go_simp
      have o3 := S4.out.rows _ List.mem_cons_self
      refine (played_top x4 md ns v3 (L1 ++ L2) HS.out.1 HS.out.2.1 HS.out.2.2 (own_acl o3) (by rw [List.length_append]; have := HLE.out; omega) HOA.out (HTX.out _ S4.out.hb)).mono ?_
      rintro e x5 ⟨ws, wd, ww, rfl, h4, b⟩
      rw [HO3.out] at h4
      refine hK.out _ _ (fun _ => (b.mono S4.out.hb.size)) ?_
      clear hK K
      have S5 := Lib.hid (S4.out.play h4 b)
      obtain ⟨E1, d1, E2, d2, E3, d3, rfl, rfl, rfl⟩ := outR_form h4
      clear b S4 o3 h4
      refine anyO_seg false [7, 8, 9] 2 rfl (by kernel_rfl) (by kernel_rfl) (by kernel_rfl) (fun _ _ d _ _ h => by cases d <;> exact h) (fun h => by cases h) ?_
      simp only [pickOps, List.getElem?_toArray, List.getElem?_cons_zero, List.getElem?_cons_succ]
      go_wp2_with fail
      refine ⟨rfl, by rfl, ?_⟩
      obtain ⟨bz, lz⟩ := S5.out.bz _ rfl
      have f0 := bz.cell_ 0 _ rfl
      have f1 := bz.cell_ 1 _ rfl
      have f2 := bz.cell_ 2 _ rfl
      have ff := bz.frozen
      clear bz
      refine anyO_one (i := 11) (by kernel_rfl) rfl (fun K hK => ?_)
      go_simp
      refine hK.out _ _ (fun _ => ((((((Below.refl _ _).setCell (p := ⟨z15, 0, none⟩) lz _)).setCell (p := ⟨z15, 1, none⟩) lz _)).setCell (p := ⟨z15, 2, none⟩) lz _)) ?_
      clear hK K
      refine anyO_seg false [12] 0 rfl (by kernel_rfl) (by kernel_rfl) (by kernel_rfl) (fun _ _ d _ _ h => by cases d <;> exact h) (fun h => by cases h) ?_
      simp only [pickOps, List.getElem?_toArray, List.getElem?_cons_zero, List.getElem?_cons_succ]
      go_wp2_with fail
      refine ⟨rfl, by rfl, ?_⟩
      refine anyO_done (by kernel_rfl) ?_ _
      have FN := Lib.hid (S5.out.fin lw rfl)
      clear f0 f1 f2 ff lz
      generalize World.setCell _ _ _ = x9 at FN ⊢
      go_wp2_with fail
      go_meet
      exact ⟨z15, _, _, _, rfl, rfl, FN.out⟩
    ·go_simp
     refine hK.out _ _ (fun _ => ((boxed _ _).mono S2.out.hb.size)) ?_
     clear hK K
     have S3 := Lib.hid S2.out.fz
     obtain ⟨z15, hz⟩ : ∃ z, x2.heap.size = z := ⟨_, rfl⟩
     rw [hz] at S3 ⊢
     generalize World.alloc _ _ = x3 at S3 ⊢
     clear S2 hz
     refine anyO_one (i := 5) (by kernel_rfl) rfl (fun K hK => ?_)
     rw [if_pos (by rfl)]
     have o1 := S3.out.rows _ (List.mem_cons_of_mem _ List.mem_cons_self)
     have o2 := S3.out.rows _ List.mem_cons_self
     have hbs := S3.out.hb.size
     refine wp_append_any x3 _ _ _ rfl wr.heap.size 54 i0 _ 3 32 Tryz.underlying24 hi0 hz0 hz1 hz2 rfl (by decide) v1 L1.length (acV L1) rfl o1 x3.heap.size Ar2 L2.length cr2 (acV L2) rfl (Reads.of_own o2) (acV_one L2) (by have := HLE.out; unfold maxLen; omega) (by have := HLE.out; omega) hbs ?_
     intro v3 x4 h3 hg hn
     have S4 := Lib.hid (S3.out.app h3 hg)
     refine hK.out _ _ (fun _ => (grown_B0 hg hbs (fun k hk => own_ge o1 k hk))) ?_
     clear hK K
     clear h3 hg hn o1 o2 hbs S3
     refine anyO_one (i := 6) (by kernel_rfl) rfl (fun K hK => ?_)
     go_simp
     have o3 := S4.out.rows _ List.mem_cons_self
     refine (played_top x4 md ns v3 (L1 ++ L2) HS.out.1 HS.out.2.1 HS.out.2.2 (own_acl o3) (by rw [List.length_append]; have := HLE.out; omega) HOA.out (HTX.out _ S4.out.hb)).mono ?_
     rintro e x5 ⟨ws, wd, ww, rfl, h4, b⟩
     rw [HO3.out] at h4
     refine hK.out _ _ (fun _ => (b.mono S4.out.hb.size)) ?_
     clear hK K
     have S5 := Lib.hid (S4.out.play h4 b)
     obtain ⟨E1, d1, E2, d2, E3, d3, rfl, rfl, rfl⟩ := outR_form h4
     clear b S4 o3 h4
     refine anyO_seg false [7, 8, 9] 2 rfl (by kernel_rfl) (by kernel_rfl) (by kernel_rfl) (fun _ _ d _ _ h => by cases d <;> exact h) (fun h => by cases h) ?_
     simp only [pickOps, List.getElem?_toArray, List.getElem?_cons_zero, List.getElem?_cons_succ]
     go_wp2_with fail
     refine ⟨rfl, by rfl, ?_⟩
     obtain ⟨bz, lz⟩ := S5.out.bz _ rfl
     have f0 := bz.cell_ 0 _ rfl
     have f1 := bz.cell_ 1 _ rfl
     have f2 := bz.cell_ 2 _ rfl
     have ff := bz.frozen
     clear bz
     refine anyO_one (i := 11) (by kernel_rfl) rfl (fun K hK => ?_)
     go_simp
     refine hK.out _ _ (fun _ => ((((((Below.refl _ _).setCell (p := ⟨z15, 0, none⟩) lz _)).setCell (p := ⟨z15, 1, none⟩) lz _)).setCell (p := ⟨z15, 2, none⟩) lz _)) ?_
     clear hK K
     refine anyO_seg false [12] 0 rfl (by kernel_rfl) (by kernel_rfl) (by kernel_rfl) (fun _ _ d _ _ h => by cases d <;> exact h) (fun h => by cases h) ?_
     simp only [pickOps, List.getElem?_toArray, List.getElem?_cons_zero, List.getElem?_cons_succ]
     go_wp2_with fail
     refine ⟨rfl, by rfl, ?_⟩
     refine anyO_done (by kernel_rfl) ?_ _
     have FN := Lib.hid (S5.out.fin lw rfl)
     clear f0 f1 f2 ff lz
     generalize World.setCell _ _ _ = x9 at FN ⊢
     go_wp2_with fail
     go_meet
     exact ⟨z15, _, _, _, rfl, rfl, FN.out⟩
   ·go_simp
    refine hK.out _ _ (fun _ => ((boxed _ _).mono S1.out.hb.size)) ?_
    clear hK K
    have S2 := Lib.hid S1.out.fz
    obtain ⟨z15, hz⟩ : ∃ z, x1.heap.size = z := ⟨_, rfl⟩
    rw [hz] at S2 ⊢
    generalize World.alloc _ _ = x2 at S2 ⊢
    clear S1 hz
    refine anyO_one (i := 4) (by kernel_rfl) rfl (fun K hK => ?_)
    go_simp
    refine (acts_any x2 (.slice A2 N2 cap2) l2 (HL2.out _ S2.out.hb) 20 5 (by decide) (by decide) (by decide) (HTX.out _ S2.out.hb)).mono ?_
    rintro e x3 ⟨v2, rfl, o2, b⟩
    rw [HL2E.out] at o2
    refine hK.out _ _ (fun _ => (b.mono S2.out.hb.size)) ?_
    clear hK K
    obtain ⟨Ar2, cr2, rfl⟩ := own_slice o2
    have S3 := Lib.hid (S2.out.add b o2)
    clear b S2 o2
    refine anyO_one (i := 5) (by kernel_rfl) rfl (fun K hK => ?_)
    rw [if_pos (by rfl)]
    have o1 := S3.out.rows _ (List.mem_cons_of_mem _ List.mem_cons_self)
    have o2 := S3.out.rows _ List.mem_cons_self
    have hbs := S3.out.hb.size
    refine wp_append_any x3 _ _ _ rfl wr.heap.size 54 i0 _ 3 32 Tryz.underlying24 hi0 hz0 hz1 hz2 rfl (by decide) v1 L1.length (acV L1) rfl o1 x3.heap.size Ar2 L2.length cr2 (acV L2) rfl (Reads.of_own o2) (acV_one L2) (by have := HLE.out; unfold maxLen; omega) (by have := HLE.out; omega) hbs ?_
    intro v3 x4 h3 hg hn
    have S4 := Lib.hid (S3.out.app h3 hg)
    refine hK.out _ _ (fun _ => (grown_B0 hg hbs (fun k hk => own_ge o1 k hk))) ?_
    clear hK K
    clear h3 hg hn o1 o2 hbs S3
    refine anyO_one (i := 6) (by kernel_rfl) rfl (fun K hK => ?_)
    go_simp
    have o3 := S4.out.rows _ List.mem_cons_self
    refine (played_top x4 md ns v3 (L1 ++ L2) HS.out.1 HS.out.2.1 HS.out.2.2 (own_acl o3) (by rw [List.length_append]; have := HLE.out; omega) HOA.out (HTX.out _ S4.out.hb)).mono ?_
    rintro e x5 ⟨ws, wd, ww, rfl, h4, b⟩
    rw [HO3.out] at h4
    refine hK.out _ _ (fun _ => (b.mono S4.out.hb.size)) ?_
    clear hK K
    have S5 := Lib.hid (S4.out.play h4 b)
    obtain ⟨E1, d1, E2, d2, E3, d3, rfl, rfl, rfl⟩ := outR_form h4
    clear b S4 o3 h4
    refine anyO_seg false [7, 8, 9] 2 rfl (by kernel_rfl) (by kernel_rfl) (by kernel_rfl) (fun _ _ d _ _ h => by cases d <;> exact h) (fun h => by cases h) ?_
    simp only [pickOps, List.getElem?_toArray, List.getElem?_cons_zero, List.getElem?_cons_succ]
    go_wp2_with fail
    refine ⟨rfl, by rfl, ?_⟩
    obtain ⟨bz, lz⟩ := S5.out.bz _ rfl
    have f0 := bz.cell_ 0 _ rfl
    have f1 := bz.cell_ 1 _ rfl
    have f2 := bz.cell_ 2 _ rfl
    have ff := bz.frozen
    clear bz
    refine anyO_one (i := 11) (by kernel_rfl) rfl (fun K hK => ?_)
    go_simp
    refine hK.out _ _ (fun _ => ((((((Below.refl _ _).setCell (p := ⟨z15, 0, none⟩) lz _)).setCell (p := ⟨z15, 1, none⟩) lz _)).setCell (p := ⟨z15, 2, none⟩) lz _)) ?_
    clear hK K
    refine anyO_seg false [12] 0 rfl (by kernel_rfl) (by kernel_rfl) (by kernel_rfl) (fun _ _ d _ _ h => by cases d <;> exact h) (fun h => by cases h) ?_
    simp only [pickOps, List.getElem?_toArray, List.getElem?_cons_zero, List.getElem?_cons_succ]
    go_wp2_with fail
    refine ⟨rfl, by rfl, ?_⟩
    refine anyO_done (by kernel_rfl) ?_ _
    have FN := Lib.hid (S5.out.fin lw rfl)
    clear f0 f1 f2 ff lz
    generalize World.setCell _ _ _ = x9 at FN ⊢
    go_wp2_with fail
    go_meet
    exact ⟨z15, _, _, _, rfl, rfl, FN.out⟩
  ·go_simp
   refine hK.out _ _ (fun _ => ((boxed _ _).mono S0.out.hb.size)) ?_
   clear hK K
   have S1 := Lib.hid S0.out.fz
   obtain ⟨z15, hz⟩ : ∃ z, x0.heap.size = z := ⟨_, rfl⟩
   rw [hz] at S1 ⊢
   generalize World.alloc _ _ = x1 at S1 ⊢
   clear S0 hz
   refine anyO_one (i := 2) (by kernel_rfl) rfl (fun K hK => ?_)
   go_simp
   refine (clone_acts x1 W0.heap.size (.slice Ar n1 cr) L1 (HA.out _ S1.out.hb) HLE.out.1).mono ?_
   rintro e x2 ⟨v1, rfl, o1, b⟩
   refine hK.out _ _ (fun _ => (b.mono S1.out.hb.size)) ?_
   clear hK K
   have S2 := Lib.hid (S1.out.add b o1)
   clear b S1 o1
   refine anyO_one (i := 4) (by kernel_rfl) rfl (fun K hK => ?_)
   go_simp
   refine (acts_any x2 (.slice A2 N2 cap2) l2 (HL2.out _ S2.out.hb) 20 5 (by decide) (by decide) (by decide) (HTX.out _ S2.out.hb)).mono ?_
   rintro e x3 ⟨v2, rfl, o2, b⟩
   rw [HL2E.out] at o2
   refine hK.out _ _ (fun _ => (b.mono S2.out.hb.size)) ?_
   clear hK K
   obtain ⟨Ar2, cr2, rfl⟩ := own_slice o2
   have S3 := Lib.hid (S2.out.add b o2)
   clear b S2 o2
   refine anyO_one (i := 5) (by kernel_rfl) rfl (fun K hK => ?_)
   rw [if_pos (by rfl)]
   have o1 := S3.out.rows _ (List.mem_cons_of_mem _ List.mem_cons_self)
   have o2 := S3.out.rows _ List.mem_cons_self
   have hbs := S3.out.hb.size
   refine wp_append_any x3 _ _ _ rfl wr.heap.size 54 i0 _ 3 32 Tryz.underlying24 hi0 hz0 hz1 hz2 rfl (by decide) v1 L1.length (acV L1) rfl o1 x3.heap.size Ar2 L2.length cr2 (acV L2) rfl (Reads.of_own o2) (acV_one L2) (by have := HLE.out; unfold maxLen; omega) (by have := HLE.out; omega) hbs ?_
   intro v3 x4 h3 hg hn
   have S4 := Lib.hid (S3.out.app h3 hg)
   refine hK.out _ _ (fun _ => (grown_B0 hg hbs (fun k hk => own_ge o1 k hk))) ?_
   clear hK K
   clear h3 hg hn o1 o2 hbs S3
   refine anyO_one (i := 6) (by kernel_rfl) rfl (fun K hK => ?_)
   go_simp
   have o3 := S4.out.rows _ List.mem_cons_self
   refine (played_top x4 md ns v3 (L1 ++ L2) HS.out.1 HS.out.2.1 HS.out.2.2 (own_acl o3) (by rw [List.length_append]; have := HLE.out; omega) HOA.out (HTX.out _ S4.out.hb)).mono ?_
   rintro e x5 ⟨ws, wd, ww, rfl, h4, b⟩
   rw [HO3.out] at h4
   refine hK.out _ _ (fun _ => (b.mono S4.out.hb.size)) ?_
   clear hK K
   have S5 := Lib.hid (S4.out.play h4 b)
   obtain ⟨E1, d1, E2, d2, E3, d3, rfl, rfl, rfl⟩ := outR_form h4
   clear b S4 o3 h4
   refine anyO_seg false [7, 8, 9] 2 rfl (by kernel_rfl) (by kernel_rfl) (by kernel_rfl) (fun _ _ d _ _ h => by cases d <;> exact h) (fun h => by cases h) ?_
   simp only [pickOps, List.getElem?_toArray, List.getElem?_cons_zero, List.getElem?_cons_succ]
   go_wp2_with fail
   refine ⟨rfl, by rfl, ?_⟩
   obtain ⟨bz, lz⟩ := S5.out.bz _ rfl
   have f0 := bz.cell_ 0 _ rfl
   have f1 := bz.cell_ 1 _ rfl
   have f2 := bz.cell_ 2 _ rfl
   have ff := bz.frozen
   clear bz
   refine anyO_one (i := 11) (by kernel_rfl) rfl (fun K hK => ?_)
   go_simp
   refine hK.out _ _ (fun _ => ((((((Below.refl _ _).setCell (p := ⟨z15, 0, none⟩) lz _)).setCell (p := ⟨z15, 1, none⟩) lz _)).setCell (p := ⟨z15, 2, none⟩) lz _)) ?_
   clear hK K
   refine anyO_seg false [12] 0 rfl (by kernel_rfl) (by kernel_rfl) (by kernel_rfl) (fun _ _ d _ _ h => by cases d <;> exact h) (fun h => by cases h) ?_
   simp only [pickOps, List.getElem?_toArray, List.getElem?_cons_zero, List.getElem?_cons_succ]
   go_wp2_with fail
   refine ⟨rfl, by rfl, ?_⟩
   refine anyO_done (by kernel_rfl) ?_ _
   have FN := Lib.hid (S5.out.fin lw rfl)
   clear f0 f1 f2 ff lz
   generalize World.setCell _ _ _ = x9 at FN ⊢
   go_wp2_with fail
   go_meet
   exact ⟨z15, _, _, _, rfl, rfl, FN.out⟩

 case rest =>
  obtain ⟨z, vs3, vd3, vr3, rfl, rfl, FN⟩ := hcut
  have X8 := Lib.hid (X7.out.keep FN.hb)
  have Y8 := Lib.hid (Y.out.keep FN.hb)
  have B8 := Lib.hid (below_step B7.out (Nat.le_refl _) FN.hb)
  have Z8 := Lib.hid FN.box
  obtain ⟨E1, d1, E3, d3, E4, d4, rfl, rfl, rfl⟩ := outR_form FN.box.out
  clear FN u0 u1 lw HA HTX HLX HL2 X7 Y B7 U7 OA7
  obtain ⟨ds, hds⟩ := HTW.out.1
  have hlen : o.deeds.length ≤ o3.deeds.length := by rw [hds, List.length_append]; omega
  have HLN := Lib.hid hlen
  have HDS := Lib.hid (show o3.deeds.take o.deeds.length = o.deeds by rw [hds, List.take_left])
  have hm1 := Lib.hid X8.out.out.deeds.most
  have hm3 := Lib.hid Z8.out.out.deeds.most
  obtain ⟨g1, hg1⟩ : ∃ n, o.deeds.length = n := ⟨_, rfl⟩
  obtain ⟨g3, hg3⟩ : ∃ n, o3.deeds.length = n := ⟨_, rfl⟩
  obtain ⟨r1, hr1⟩ : ∃ n, o.rows.length = n := ⟨_, rfl⟩
  obtain ⟨r3, hr3⟩ : ∃ n, o3.rows.length = n := ⟨_, rfl⟩
  rw [HS6.out, hg1, hr1] at X8 Y8
  rw [HT6.out, hg3, hr3] at Z8
  rw [hg1, hg3] at hlen
  have HG1 := Lib.hid hg1
  have HG3 := Lib.hid hg3
  clear hds hg1 hg3 hr1 hr3
  have x0 := X8.out.blk.cell_ 0 _ rfl
  have x1 := X8.out.blk.cell_ 1 _ rfl
  have x2 := X8.out.blk.cell_ 2 _ rfl
  have y0 := Y8.out.blk.cell_ 0 _ rfl
  have y1 := Y8.out.blk.cell_ 1 _ rfl
  have y2 := Y8.out.blk.cell_ 2 _ rfl
  go_wp2_with fail
  refine (same_top wc W0.heap.size _ _ _ _ _ _ o X8.out.out Y8.out.out).mono ?_
  rintro e w9 ⟨rfl, b9⟩
  have X9 := Lib.hid (X8.out.keep b9)
  have Z9 := Lib.hid (Z8.out.keep b9)
  have B9 := Lib.hid (below_step B8.out (Nat.le_refl _) b9)
  clear b9 x0 x1 x2 y0 y1 y2 X8 Y8 Z8 B8
  have x0 := X9.out.blk.cell_ 0 _ rfl
  have x1 := X9.out.blk.cell_ 1 _ rfl
  have z1 := Z9.out.blk.cell_ 1 _ rfl
  have gl : (g1 : Int) ≤ (g3 : Int) := by omega
  go_upto_region 9 with fail
  clear x0 x1 z1
  generalize Value.bool (decide (g3 < g1)) = s68
  go_loopw [73] (fun i wx => ∃ k : Nat, k ≤ 6 ∧ i = .int .i64 k ∧ BoxO wx W0.heap.size q (.slice A1 6 c1) (.slice A3 g1 c3) (.slice A4 r1 c4) o ∧ BoxO wx W0.heap.size z (.slice E1 6 d1) (.slice E3 g3 d3) (.slice E4 r3 d4) o3 ∧ Below W0.heap.size W0 wx) (fun i _ => 6 - (intOf i).toNat)
  case atStart => exact ⟨0, Nat.zero_le _, rfl, X9.out, Z9.out, B9.out⟩
  case round =>
   obtain ⟨k, hk, rfl, hX, hZ, hB⟩ := hrel
   have HX := Lib.hid hX
   have HZ := Lib.hid hZ
   have HB := Lib.hid hB
   by_cases hlt : k < 6
   ·have g1' : (k : Int) < 6 := by omega
    have g2' : (0 : Int) ≤ (k : Int) := by omega
    obtain ⟨-, h6c, ad, rfl, xs⟩ := sent_at hX.out HS6.out hlt
    obtain ⟨-, h6d, ad3, rfl, zs⟩ := sent_at hZ.out HT6.out hlt
    obtain ⟨t, ht⟩ := HTW.out.2 k hlt
    rw [ht] at zs
    obtain ⟨s, hs⟩ : ∃ s, o.sent.getD k ByteArray.empty = s := ⟨_, rfl⟩
    rw [hs] at xs zs
    have x0 := hX.blk.cell_ 0 _ rfl
    have z0 := hZ.blk.cell_ 0 _ rfl
    clear hX hZ hB ht hs
    go_upto_region 11 with fail
    refine region_segs [] (by kernel_rfl) ?_
    refine anyB_seg [0, 1, 2, 3, 4, 5, 6, 7, 8, 9] 2 rfl (by kernel_rfl) (by kernel_rfl) (by kernel_rfl) (fun _ _ d _ _ h => by cases d <;> exact h) ?_
    simp only [pickOps, List.getElem?_toArray, List.getElem?_cons_zero, List.getElem?_cons_succ]
    go_wp2_with fail
    refine ⟨rfl, by rfl, ?_⟩
    refine anyB_one (i := 10) (by kernel_rfl) rfl (fun K hK => ?_)
    go_simp
    refine (Tryz.strings_HasPrefix _ _ _).mono ?_
    rintro e wy ⟨rfl, rfl⟩
    rw [prefix_app]
    refine hK.out _ _ (fun _ => (Below.refl _ _)) ?_
    clear hK K
    refine anyB_seg [11] 0 rfl (by kernel_rfl) (by kernel_rfl) (by kernel_rfl) (fun _ _ d _ _ h => by cases d <;> exact h) ?_
    simp only [pickOps, List.getElem?_toArray, List.getElem?_cons_zero, List.getElem?_cons_succ]
    go_wp2_with fail
    refine ⟨rfl, by rfl, ?_⟩
    refine anyB_done (by kernel_rfl) ?_ _
    have X10 := Lib.hid (HX.out.keep (Below.refl _ _).drew)
    have Z10 := Lib.hid (HZ.out.keep (Below.refl _ _).drew)
    have B10 := Lib.hid HB.out.drew
    clear x0 z0 xs zs HX HZ HB
    generalize World.drew _ = x9 at X10 Z10 B10 ⊢
    go_wp2_with fail
    go_roundw
    case rel => exact ⟨k + 1, by omega, by go_num, X10.out, Z10.out, B10.out⟩
    case measure => simp [intOf]; omega
   ·have g1' : (6 : Int) ≤ (k : Int) := by omega
    have x1 := hX.blk.cell_ 1 _ rfl
    have z1 := hZ.blk.cell_ 1 _ rfl
    have h3c : g3 ≤ d3 := by
     obtain ⟨_, c, e, hc⟩ := hZ.out.deeds.form
     injection e with _ _ e3
     rw [HG3.out] at hc
     omega
    have gc : (g1 : Int) ≤ (d3 : Int) := by omega
    have gz : (0 : Int) ≤ (g1 : Int) := by omega
    clear hX hZ hB
    go_upto_region 14 with fail
    refine region_segs [] (by kernel_rfl) ?_
    refine anyB_seg [0, 1, 2, 3, 4, 5, 6, 7] 2 rfl (by kernel_rfl) (by kernel_rfl) (by kernel_rfl) (fun _ _ d _ _ h => by cases d <;> exact h) ?_
    simp only [pickOps, List.getElem?_toArray, List.getElem?_cons_zero, List.getElem?_cons_succ]
    go_wp2_with fail
    refine ⟨rfl, by rfl, ?_⟩
    have X10 := Lib.hid (HX.out.keep (Below.refl _ _).drew)
    have Z10 := Lib.hid (HZ.out.keep (Below.refl _ _).drew)
    have B10 := Lib.hid HB.out.drew
    clear x1 z1 HX HZ HB
    generalize World.drew _ = x8 at X10 Z10 B10 ⊢
    refine anyB_one (i := 8) (by kernel_rfl) rfl (fun K hK => ?_)
    go_simp
    refine (deeds_same x8 _ _ _ _ g1 o.deeds HG1.out (by rw [← HG1.out]; exact hm1.out) (by have := deeds_reads X10.out.out; rwa [HG1.out] at this) (by have := reads_take (i := g1) (deeds_reads Z10.out.out) (by rw [HG3.out]; exact hlen) rfl; rw [← HG1.out] at this ⊢; rwa [HDS.out] at this)).mono ?_
    rintro e x9 ⟨rfl, b⟩
    refine hK.out _ _ (fun _ => b) ?_
    clear hK K
    refine anyB_seg [9] 0 rfl (by kernel_rfl) (by kernel_rfl) (by kernel_rfl) (fun _ _ d _ _ h => by cases d <;> exact h) ?_
    simp only [pickOps, List.getElem?_toArray, List.getElem?_cons_zero, List.getElem?_cons_succ]
    go_wp2_with fail
    refine ⟨rfl, by rfl, ?_⟩
    refine anyB_done (by kernel_rfl) ?_ _
    have B11 := Lib.hid (below_step B10.out (Nat.le_refl _) b)
    clear b
    go_wp2_with fail
    go_ret
    exact ⟨rfl, B11.out⟩
end Go.Proofs.YtjbnfigpflambacGreatDoor
/- Plain part of TopCuts: the acts cut in two. -/
namespace Go.Proofs.YtjbnfigpflambacGreatDoor
open Go.RowKit
def kAt (at_ : Int) (i : Nat) (a : Ac) : Nat := (pick (wrap64 (at_ + (i : Int))) ((a.data.size : Int) + 1)).toNat
def cutL (at_ : Int) : Nat → List Ac → List (Ac × Nat)
 | _, [] => []
 | i, a :: l => (a, kAt at_ i a) :: cutL at_ (i + 1) l
theorem cutL_snoc (at_ : Int) (a : Ac) : ∀ (l : List Ac) (i : Nat), cutL at_ i (l ++ [a]) = cutL at_ i l ++ [(a, kAt at_ (i + l.length) a)]
 | [], i => rfl
 | b :: l, i => by
  show (b, kAt at_ i b) :: cutL at_ (i + 1) (l ++ [a]) = (b, kAt at_ i b) :: cutL at_ (i + 1) l ++ _
  rw [cutL_snoc at_ a l (i + 1), show i + (b :: l).length = i + 1 + l.length by rw [List.length_cons]; omega]
  rfl
theorem cutL_fst (at_ : Int) : ∀ (l : List Ac) (i : Nat), (cutL at_ i l).map (·.1) = l
 | [], _ => rfl
 | a :: l, i => by
  show a :: (cutL at_ (i + 1) l).map (·.1) = _
  rw [cutL_fst at_ l]
theorem cutAll_app : ∀ (l m : List (Ac × Nat)), cutAll (l ++ m) = cutAll l ++ cutAll m
 | [], _ => rfl
 | (a, k) :: l, m => by
  show _ :: _ :: cutAll (l ++ m) = _ :: _ :: cutAll l ++ _
  rw [cutAll_app l m]
  rfl
theorem cutAll_len : ∀ (l : List (Ac × Nat)), (cutAll l).length = 2 * l.length
 | [] => rfl
 | (a, k) :: l => by
  show (cutAll l).length + 1 + 1 = _
  rw [cutAll_len l, List.length_cons]
  omega
theorem cutL_len (at_ : Int) (l : List Ac) (i : Nat) : (cutL at_ i l).length = l.length := by
 have := congrArg List.length (cutL_fst at_ l i)
 rwa [List.length_map] at this
theorem cutAll_mem : ∀ (l : List (Ac × Nat)) (a : Ac), a ∈ cutAll l → ∃ p ∈ l, ∃ x y, a = ⟨p.1.kind, p.1.c, p.1.data.extract x y⟩
 | [], a, h => by simp [cutAll] at h
 | (b, k) :: l, a, h => by
  simp only [cutAll, List.mem_cons] at h
  rcases h with rfl | rfl | h
  ·exact ⟨(b, k), List.mem_cons_self, _, _, rfl⟩
  ·exact ⟨(b, k), List.mem_cons_self, _, _, rfl⟩
  ·obtain ⟨p, hp, x, y, e⟩ := cutAll_mem l a h
   exact ⟨p, List.mem_cons_of_mem _ hp, x, y, e⟩
theorem cut_ok {l : List (Ac × Nat)} (h : ∀ p ∈ l, AcOk p.1) : ∀ a ∈ cutAll l, AcOk a := fun a ha => by
 obtain ⟨p, hp, x, y, rfl⟩ := cutAll_mem l a ha
 obtain ⟨h1, h2, h3, h4⟩ := h p hp
 refine ⟨h1, h2, h3, ?_⟩
 show (p.1.data.extract x y).size ≤ 1000
 rw [ByteArray.size_extract]
 omega
theorem mem_cutL {at_ : Int} {l : List Ac} {i : Nat} {p : Ac × Nat} (h : p ∈ cutL at_ i l) : p.1 ∈ l := by
 have := List.mem_map_of_mem (f := (·.1)) h
 rwa [cutL_fst] at this
theorem kAt_bd {at_ : Int} {i : Nat} {a : Ac} : pick (wrap64 (at_ + (i : Int))) ((a.data.size : Int) + 1) = (kAt at_ i a : Int) ∧ kAt at_ i a ≤ a.data.size := by
 have h := pick_bd (wrap64 (at_ + (i : Int))) ((a.data.size : Int) + 1) (by omega)
 unfold kAt
 omega
theorem cuts_same (mode at_ : Int) {L : List Ac} (hf : ∀ a ∈ L, AcFair 4 a ∧ a.kind = 1 ∧ noX a.data) : outM mode 4 L = outM mode 4 (cutAll (cutL at_ 0 L)) := by
 have h := out_cuts mode (cutL at_ 0 L) (fun p hp => hf _ (mem_cutL hp)) (fun a ha => by
  obtain ⟨p, hp, x, y, rfl⟩ := cutAll_mem _ a ha
  exact (fair_in4 (hf _ (mem_cutL hp)).1).2)
 rwa [cutL_fst] at h
theorem cut_step (at_ : Int) {L : List Ac} {k : Nat} (hk : k < L.length) : cutAll (cutL at_ 0 (L.take (k + 1))) = cutAll (cutL at_ 0 (L.take k)) ++ [⟨L[k].kind, L[k].c, L[k].data.extract 0 (kAt at_ k L[k])⟩, ⟨L[k].kind, L[k].c, L[k].data.extract (kAt at_ k L[k]) L[k].data.size⟩] := by
 rw [List.take_succ_eq_append_getElem hk, cutL_snoc, cutAll_app, Nat.zero_add, List.length_take, Nat.min_eq_left (by omega)]
 rfl
set_option maxHeartbeats 1000000 in
theorem Picked_any (n m : Int) (w : World) (hn : (Lit.int .i64 n).wf = true) (hm : 0 < m) (hm2 : m ≤ 9223372036854775807) :
  Calls Tryz.prog 34 #[.int .i64 n, .int .i64 m] w fun e w' => e = .returned (.int .i64 (pick n m)) ∧ w = w' := by
 go_enter Tryz.func34, Tryz.ntmps34
 go_wp2_with fail
 refine (picked_any n m _ hn hm hm2).mono ?_
 rintro e w1 ⟨rfl, rfl⟩
 go_wp2_with fail
 go_ret
 exact ⟨rfl, rfl⟩
end Go.Proofs.YtjbnfigpflambacGreatDoor
