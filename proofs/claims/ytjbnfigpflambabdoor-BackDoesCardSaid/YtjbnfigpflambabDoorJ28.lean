/- tillermankeep.played: statements in some sessions of a world that begins empty. The reference's DidOf: what it returns is what back.Do returns. -/
import Derived.Test.YtjbnfigpflambabDoorJ04
import Derived.Test.YtjbnfigpflambabDoorJ22
import Derived.Test.YtjbnfigpflambabDoorJ23
import Derived.Test.YtjbnfigpflambabDoorJ27
/- tillermankeep.played: statements in some sessions of a world that begins empty. -/
namespace Go.Proofs.YtjbnfigpflambabDoor
open Go.ChangeShapes Go.WideShapes Go.ChangeAt Go.RowKit
/-- a world of the call's own in a box -/
structure BoxW (B : Nat) (w : World) (q : Nat) (W : Wo) : Prop where
 box : ∃ r s, Blk w q 31 #[r, s] ∧ OPL w B r W.rows ∧ ∃ cs, OSL w B s W.ses cs
theorem BoxW.keep {B : Nat} {w w' : World} {q : Nat} {W : Wo} (h : BoxW B w q W) (hb : Below w.heap.size w w') : BoxW B w' q W := by
 obtain ⟨r, s, h1, h2, cs, h3⟩ := h.box
 exact ⟨r, s, h1.keep hb, h2.keeps (.of_below hb), cs, (Keeps.of_below hb).own h3.own, h3.ses.keeps (.of_below hb)⟩
theorem osl_keeps {B : Nat} {w w' : World} {s : Value} {ss : List Se} {cs : List Value} (h : OSL w B s ss cs) (k1 : Keeps 58 w w') (k2 : Keeps 66 w w') : OSL w' B s ss cs := ⟨k1.own h.own, h.ses.keeps k2⟩
/-- in the midst of 'next, a, e := back.Do(..)': the variables' boxes as far as they are made, what Do returned -/
structure DoS (B : Nat) (wr wx : World) (z12 z13 : Option Nat) (X : Option (Value × Value × Wo)) : Prop where
 hb : Below wr.heap.size wr wx
 b12 : ∀ z, z12 = some z → Blk wx z 31 #[.slice none 0 0, .slice none 0 0] ∧ wr.heap.size ≤ z
 b13 : ∀ z, z13 = some z → Blk wx z 48 #[.int .i64 0, .string ⟨#[]⟩, .int .i64 0] ∧ wr.heap.size ≤ z
 nx : ∀ r s V, X = some (r, s, V) → OPL wx B r V.rows ∧ ∃ cs, OSL wx B s V.ses cs
section
variable {B : Nat} {wr wx wy : World} {z12 z13 : Option Nat} {X : Option (Value × Value × Wo)}
theorem DoS.start (B : Nat) (wr : World) : DoS B wr wr none none none :=
 ⟨Below.refl _ _, fun _ h => (by cases h), fun _ h => (by cases h), fun _ _ _ h => (by cases h)⟩
theorem DoS.keep (h : DoS B wr wx z12 z13 X) (hb : Below wx.heap.size wx wy) : DoS B wr wy z12 z13 X :=
 ⟨below_step h.hb (Nat.le_refl _) hb, fun z hz => ⟨(h.b12 z hz).1.keep hb, (h.b12 z hz).2⟩, fun z hz => ⟨(h.b13 z hz).1.keep hb, (h.b13 z hz).2⟩, fun r s V hx => by
  obtain ⟨h1, cs, h2⟩ := h.nx r s V hx
  exact ⟨h1.keeps (.of_below hb), cs, osl_keeps h2 (.of_below hb) (.of_below hb)⟩⟩
theorem DoS.f12 (h : DoS B wr wx none z13 X) : DoS B wr (wx.alloc (.cells #[.slice none 0 0, .slice none 0 0] 31)) (some wx.heap.size) z13 X := by
 have k := h.keep (boxed wx (.cells #[.slice none 0 0, .slice none 0 0] 31))
 exact ⟨k.hb, fun z hz => (by injection hz with hz; subst hz; exact ⟨Blk.new wx _ _, h.hb.size⟩), k.b13, k.nx⟩
theorem DoS.f13 (h : DoS B wr wx z12 none X) : DoS B wr (wx.alloc (.cells #[.int .i64 0, .string ⟨#[]⟩, .int .i64 0] 48)) z12 (some wx.heap.size) X := by
 have k := h.keep (boxed wx (.cells #[.int .i64 0, .string ⟨#[]⟩, .int .i64 0] 48))
 exact ⟨k.hb, k.b12, fun z hz => (by injection hz with hz; subst hz; exact ⟨Blk.new wx _ _, h.hb.size⟩), k.nx⟩
theorem DoS.did (h : DoS B wr wx z12 z13 none) (hB : B ≤ wx.heap.size) {r s : Value} {cs : List Value} {V : Wo} (o1 : OPL wy wx.heap.size r V.rows) (o2 : OSL wy wx.heap.size s V.ses cs) (hb : Below wx.heap.size wx wy) : DoS B wr wy z12 z13 (some (r, s, V)) := by
 have k := h.keep hb
 exact ⟨k.hb, k.b12, k.b13, fun r' s' V' hx => (by injection hx with hx; injection hx with h1 h2; injection h2 with h2 h3; subst h1 h2 h3; exact ⟨o1.base hB, cs, o2.base hB⟩)⟩
/-- behind it -/
structure DoN (B : Nat) (wr wy : World) (z12 z13 : Nat) (r s : Value) (V : Wo) (a : An) : Prop where
 hb : Below wr.heap.size wr wy
 b12 : Blk wy z12 31 #[r, s]
 b13 : Blk wy z13 48 #[.int .i64 a.kind, .string a.text, .int .i64 a.st]
 rows : OPL wy B r V.rows
 ses : ∃ cs, OSL wy B s V.ses cs
 l12 : wr.heap.size ≤ z12
 l13 : wr.heap.size ≤ z13
theorem DoN.box {z12 z13 : Nat} {r s : Value} {V : Wo} {a : An} (h : DoN B wr wy z12 z13 r s V a) : BoxW B wy z12 V := ⟨r, s, h.b12, h.rows, h.ses⟩
theorem DoN.keep {wz : World} {z12 z13 : Nat} {r s : Value} {V : Wo} {a : An} (h : DoN B wr wy z12 z13 r s V a) (hb : Below wy.heap.size wy wz) : DoN B wr wz z12 z13 r s V a := by
 obtain ⟨cs, h3⟩ := h.ses
 exact ⟨below_step h.hb (Nat.le_refl _) hb, h.b12.keep hb, h.b13.keep hb, h.rows.keeps (.of_below hb), ⟨cs, osl_keeps h3 (.of_below hb) (.of_below hb)⟩, h.l12, h.l13⟩
theorem DoS.fin {z12 z13 : Nat} {r s : Value} {V : Wo} {a : An} (h : DoS B wr wx (some z12) (some z13) (some (r, s, V)))
  (e : wy = ((((wx.setCell ⟨z12, 0, none⟩ r).setCell ⟨z12, 1, none⟩ s).setCell ⟨z13, 0, none⟩ (.int .i64 a.kind)).setCell ⟨z13, 1, none⟩ (.string a.text)).setCell ⟨z13, 2, none⟩ (.int .i64 a.st)) : DoN B wr wy z12 z13 r s V a := by
 subst e
 obtain ⟨b12, l12⟩ := h.b12 _ rfl
 obtain ⟨b13, l13⟩ := h.b13 _ rfl
 obtain ⟨o1, cs, o2⟩ := h.nx _ _ _ rfl
 have ne : z13 ≠ z12 := b13.ne_ b12 (by decide)
 have A0 := (b13.far (p := ⟨z12, 0, none⟩) ne r).far (p := ⟨z12, 1, none⟩) ne s
 have A1 := A0.set_ 0 (.int .i64 a.kind)
 have A2 := A1.set_ 1 (.string a.text)
 have k : ∀ t, 31 ≠ t → 48 ≠ t → Keeps t wx (((((wx.setCell ⟨z12, 0, none⟩ r).setCell ⟨z12, 1, none⟩ s).setCell ⟨z13, 0, none⟩ (.int .i64 a.kind)).setCell ⟨z13, 1, none⟩ (.string a.text)).setCell ⟨z13, 2, none⟩ (.int .i64 a.st)) := fun t h1 h2 =>
  ((((Keeps.set_ (p := ⟨z12, 0, none⟩) b12 h1 _).trans (Keeps.set_ (p := ⟨z12, 1, none⟩) (b12.set_ 0 r) h1 _)).trans (Keeps.set_ (p := ⟨z13, 0, none⟩) A0 h2 _)).trans (Keeps.set_ (p := ⟨z13, 1, none⟩) A1 h2 _)).trans (Keeps.set_ (p := ⟨z13, 2, none⟩) A2 h2 _)
 have l2 : ∀ j, wr.heap.size ≤ (⟨z12, j, none⟩ : Addr).block := fun _ => l12
 have l3 : ∀ j, wr.heap.size ≤ (⟨z13, j, none⟩ : Addr).block := fun _ => l13
 have ne' : ∀ j, z12 ≠ (⟨z13, j, none⟩ : Addr).block := fun _ => Ne.symm ne
 exact ⟨((((h.hb.setCell (l2 0) _).setCell (l2 1) _).setCell (l3 0) _).setCell (l3 1) _).setCell (l3 2) _, ((((b12.set_ 0 r).set_ 1 s).far (ne' 0) _).far (ne' 1) _).far (ne' 2) _, A2.set_ 2 _,
  o1.keeps (k _ (by decide) (by decide)), ⟨cs, osl_keeps o2 (k _ (by decide) (by decide)) (k _ (by decide) (by decide))⟩, l12, l13⟩
end
/-- in the midst of played -/
structure PlayAt (w0 wx : World) (q : Nat) (W : Wo) : Prop where
 bel : Below w0.heap.size w0 wx
 res : Blk wx w0.heap.size 31 #[.slice none 0 0, .slice none 0 0]
 box : BoxW w0.heap.size wx q W
 lq : w0.heap.size < q
theorem PlayAt.keep {w0 wx wy : World} {q : Nat} {W : Wo} (h : PlayAt w0 wx q W) (hb : Below wx.heap.size wx wy) : PlayAt w0 wy q W :=
 ⟨below_step h.bel (Nat.le_refl _) hb, h.res.keep hb, h.box.keep hb, h.lq⟩
theorem PlayAt.fin {w0 wx : World} {q b : Nat} {W : Wo} (h : PlayAt w0 wx q W) (hb : w0.heap.size = b) (u v : Value) : BoxW w0.heap.size ((wx.setCell ⟨b, 0, none⟩ u).setCell ⟨b, 1, none⟩ v) q W ∧ Blk ((wx.setCell ⟨b, 0, none⟩ u).setCell ⟨b, 1, none⟩ v) b 31 #[u, v] ∧ Below w0.heap.size w0 ((wx.setCell ⟨b, 0, none⟩ u).setCell ⟨b, 1, none⟩ v) := by
 subst hb
 have lq := h.lq
 obtain ⟨r, s, y, o1, cs, o2⟩ := h.box.box
 have n : ∀ j, q ≠ (⟨w0.heap.size, j, none⟩ : Addr).block := fun j => by show q ≠ w0.heap.size; omega
 have k : ∀ t, 31 ≠ t → Keeps t wx ((wx.setCell ⟨w0.heap.size, 0, none⟩ u).setCell ⟨w0.heap.size, 1, none⟩ v) := fun t ht => (Keeps.set_ (p := ⟨w0.heap.size, 0, none⟩) h.res ht _).trans (Keeps.set_ (p := ⟨w0.heap.size, 1, none⟩) (h.res.set_ 0 u) ht _)
 exact ⟨⟨r, s, (y.far (n 0) _).far (n 1) _, o1.keeps (k _ (by decide)), cs, osl_keeps o2 (k _ (by decide)) (k _ (by decide))⟩, (h.res.set_ 0 u).set_ 1 v, (h.bel.setCell (Nat.le_refl _) _).setCell (Nat.le_refl _) _⟩
end Go.Proofs.YtjbnfigpflambabDoor
/- The reference's DidOf: what it returns is what back.Do returns. -/
namespace Go.Proofs.YtjbnfigpflambabDoor
open Go.ChangeShapes Go.WideShapes Go.ChangeAt Go.RowKit
theorem DoS.did2 {B : Nat} {wr wx wy : World} {z12 z13 : Option Nat} {r r' : Value} {g n cap : Nat} {W V : Wo} {cs' : List Value} (h : DoS B wr wx z12 z13 (some (r, .slice (some ⟨g, 0, none⟩) n cap, W))) (on : Only2 g g wx wy) (hg : wr.heap.size ≤ g)
  (o1 : OPL wy B r' V.rows) (o2 : OSL wy B (.slice (some ⟨g, 0, none⟩) n cap) V.ses cs') : DoS B wr wy z12 z13 (some (r', .slice (some ⟨g, 0, none⟩) n cap, V)) := by
 obtain ⟨-, cs, o⟩ := h.nx _ _ _ rfl
 obtain ⟨cur, hgb⟩ := o.row
 refine ⟨on.bel h.hb h.hb.size hg hg, fun z hz => ?_, fun z hz => ?_, fun r0 s0 V0 hx => ?_⟩
 ·obtain ⟨h1, h2⟩ := h.b12 z hz
  have := h1.ne_ hgb (by decide)
  exact ⟨on.blk h1 this this, h2⟩
 ·obtain ⟨h1, h2⟩ := h.b13 z hz
  have := h1.ne_ hgb (by decide)
  exact ⟨on.blk h1 this this, h2⟩
 ·injection hx with hx
  injection hx with h1 h2
  injection h2 with h2 h3
  subst h1 h2 h3
  exact ⟨o1, cs', o2⟩
/-- behind the statement -/
structure OfN (w wx : World) (q z12 z13 : Nat) (r s : Value) (V : Wo) (a : An) : Prop where
 bel : Below w.heap.size w wx
 rw_ : Blk wx (q + 2) 31 #[.slice none 0 0, .slice none 0 0]
 ra : Blk wx (q + 3) 48 #[.int .i64 0, .string ⟨#[]⟩, .int .i64 0]
 b12 : Blk wx z12 31 #[r, s]
 b13 : Blk wx z13 48 #[.int .i64 a.kind, .string a.text, .int .i64 a.st]
 rows : OPL wx w.heap.size r V.rows
 ses : ∃ cs, OSL wx w.heap.size s V.ses cs
 l12 : q + 3 < z12
 l13 : q + 3 < z13
theorem OfN.keep {w wx wy : World} {q z12 z13 : Nat} {r s : Value} {V : Wo} {a : An} (h : OfN w wx q z12 z13 r s V a) (hb : Below wx.heap.size wx wy) : OfN w wy q z12 z13 r s V a := by
 obtain ⟨cs, h3⟩ := h.ses
 exact ⟨below_step h.bel (Nat.le_refl _) hb, h.rw_.keep hb, h.ra.keep hb, h.b12.keep hb, h.b13.keep hb, h.rows.keeps (.of_below hb), ⟨cs, h3.keep hb⟩, h.l12, h.l13⟩
/-- the results are stored -/
theorem fin_stores {w wx : World} {q : Nat} (hb : Below w.heap.size w wx) (hq : w.heap.size = q) (h2 : Blk wx (q + 2) 31 #[.slice none 0 0, .slice none 0 0]) (h3 : Blk wx (q + 3) 48 #[.int .i64 0, .string ⟨#[]⟩, .int .i64 0]) (u0 u1 u2 u3 u4 : Value) :
  Below w.heap.size w (((((wx.setCell ⟨q + 2, 0, none⟩ u0).setCell ⟨q + 2, 1, none⟩ u1).setCell ⟨q + 3, 0, none⟩ u2).setCell ⟨q + 3, 1, none⟩ u3).setCell ⟨q + 3, 2, none⟩ u4) ∧
  (∀ t, 31 ≠ t → 48 ≠ t → Keeps t wx (((((wx.setCell ⟨q + 2, 0, none⟩ u0).setCell ⟨q + 2, 1, none⟩ u1).setCell ⟨q + 3, 0, none⟩ u2).setCell ⟨q + 3, 1, none⟩ u3).setCell ⟨q + 3, 2, none⟩ u4)) ∧
  Blk (((((wx.setCell ⟨q + 2, 0, none⟩ u0).setCell ⟨q + 2, 1, none⟩ u1).setCell ⟨q + 3, 0, none⟩ u2).setCell ⟨q + 3, 1, none⟩ u3).setCell ⟨q + 3, 2, none⟩ u4) (q + 2) 31 #[u0, u1] ∧
  Blk (((((wx.setCell ⟨q + 2, 0, none⟩ u0).setCell ⟨q + 2, 1, none⟩ u1).setCell ⟨q + 3, 0, none⟩ u2).setCell ⟨q + 3, 1, none⟩ u3).setCell ⟨q + 3, 2, none⟩ u4) (q + 3) 48 #[u2, u3, u4] := by
 have l2 : ∀ j, w.heap.size ≤ (⟨q + 2, j, none⟩ : Addr).block := fun _ => by show w.heap.size ≤ q + 2; omega
 have l3 : ∀ j, w.heap.size ≤ (⟨q + 3, j, none⟩ : Addr).block := fun _ => by show w.heap.size ≤ q + 3; omega
 have n23 : q + 3 ≠ q + 2 := by omega
 have n32 : q + 2 ≠ q + 3 := by omega
 have r2 := (h2.set_ 0 u0).set_ 1 u1
 have r3 := (h3.far (p := ⟨q + 2, 0, none⟩) n23 u0).far (p := ⟨q + 2, 1, none⟩) n23 u1
 exact ⟨((((hb.setCell (l2 0) _).setCell (l2 1) _).setCell (l3 0) _).setCell (l3 1) _).setCell (l3 2) _,
  fun t h1' h2' => ((((Keeps.set_ (p := ⟨q + 2, 0, none⟩) h2 h1' _).trans (Keeps.set_ (p := ⟨q + 2, 1, none⟩) (h2.set_ 0 u0) h1' _)).trans (Keeps.set_ (p := ⟨q + 3, 0, none⟩) r3 h2' _)).trans (Keeps.set_ (p := ⟨q + 3, 1, none⟩) (r3.set_ 0 u2) h2' _)).trans (Keeps.set_ (p := ⟨q + 3, 2, none⟩) ((r3.set_ 0 u2).set_ 1 u3) h2' _),
  ((r2.far (p := ⟨q + 3, 0, none⟩) n32 _).far (p := ⟨q + 3, 1, none⟩) n32 _).far (p := ⟨q + 3, 2, none⟩) n32 _, ((r3.set_ 0 u2).set_ 1 u3).set_ 2 u4⟩
set_option maxHeartbeats 8000000 in
set_option maxRecDepth 100000 in
theorem didof_bad (w : World) (r s : Value) (W : Wo) (i : Int) (x : St) (hT : Tabs w) (h : WL w w.heap.size r s W) (hi : (Lit.int .i64 i).wf = true) (hk : x.key.size ≤ maxLen) (hv : x.val.size ≤ maxLen) (hE : doE W i x ≠ 0) :
  Calls Tryd.prog 24 #[.agg #[r, s], .int .i64 i, .agg #[.int .i64 x.k, .string x.key, .string x.val]] w (DoP w W i x) := by
 obtain ⟨A, c, er⟩ := h.rows.form
 obtain ⟨A', c', es, _, hn', _⟩ := h.ses
 subst er es
 have D0 := Lib.hid (DoAt.start w (.slice A W.rows.length c) (.slice A' W.ses.length c') x)
 have HW := Lib.hid h
 have HT := Lib.hid hT
 have HI := wf_i64 hi
 obtain ⟨n, hN⟩ : ∃ n, W.ses.length = n := ⟨_, rfl⟩
 rw [hN] at D0 HW hn' ⊢
 have HN := Lib.hid hN
 obtain ⟨kx, key, val⟩ := x
 have HM := Lib.hid (fun (u : World) (hb : Below w.heap.size w u) => worldMay_any u (.slice A W.rows.length c) (.slice A' n c') W (HT.out.below hb) ((HW.out.below hb).more hb.size))
 have HF := Lib.hid (fun (u : World) (hb : Below w.heap.size w u) => fault_all ⟨kx, key, val⟩ u (HT.out.below hb) hk hv)
 have hR := Lib.hid (doR_bad hE)
 have HE := Lib.hid hE
 clear hT hk hv hE h hN hi
 by_cases hg : goodW W = true
 ·have h8 := ((good_iff W).1 hg).few
  rw [HN.out] at h8
  have HG := Lib.hid hg
  by_cases hin : 0 ≤ i ∧ i < n
  ·have hd : doE W i ⟨kx, key, val⟩ = checkE ⟨kx, key, val⟩ := by unfold doE; rw [if_pos hg, if_pos (by rw [HN.out]; exact hin)]
   have hne : checkE ⟨kx, key, val⟩ ≠ 0 := by rw [← hd]; exact HE.out
   have HD := Lib.hid hd
   obtain ⟨Z, hZ⟩ : ∃ Z, checkE ⟨kx, key, val⟩ = Z := ⟨_, rfl⟩
   rw [hZ] at HD hne
   have XZ := Lib.hid hZ
   have g3 : (Z != 0) = true := by simpa using hne
   clear hg hd hne hZ HE
   go_enter Tryd.func24, Tryd.ntmps24
   go_upto_region 1 with fail
   generalize (((World.alloc _ _).alloc _).alloc _).alloc _ = x0 at D0 ⊢
   have y0 := D0.out.bx.cell_ 0 _ rfl
   have y1 := D0.out.bx.cell_ 1 _ rfl
   go_wp2_with fail
   refine (HM.out _ D0.out.bel).mono ?_
   rintro e x1 ⟨rfl, b1⟩
   have D1 := Lib.hid (D0.out.keep b1)
   clear b1 D0 y0 y1
   rw [HG.out]
   have y1 := D1.out.bx.cell_ 1 _ rfl
   have w1 : wrap64 ((n : Int) - 1) = (n : Int) - 1 := by simp only [wrap64]; omega
   go_wp2_with fail
   refine (in_yes i 0 ((n : Int) - 1) _ (by omega) (by omega)).mono ?_
   rintro e x2 ⟨rfl, rfl⟩
   clear y1
   have a0 := D1.out.ax.cell_ 0 _ rfl
   have a1 := D1.out.ax.cell_ 1 _ rfl
   have a2 := D1.out.ax.cell_ 2 _ rfl
   go_wp2_with fail
   refine (HF.out _ D1.out.bel).mono ?_
   rintro e x2 ⟨rfl, b2⟩
   have D2 := Lib.hid (D1.out.keep b2)
   clear b2 a0 a1 a2 D1
   rw [XZ.out]
   have u0 := D2.out.rw_.cell_ 0 _ rfl
   have u1 := D2.out.rw_.cell_ 1 _ rfl
   have v0 := D2.out.ra.cell_ 0 _ rfl
   have v1 := D2.out.ra.cell_ 1 _ rfl
   have v2 := D2.out.ra.cell_ 2 _ rfl
   have ff := D2.out.rw_.frozen
   have fg := D2.out.ra.frozen
   go_wp2_with fail
   obtain ⟨E1, -, E4, E5⟩ := fin_stores D2.out.bel rfl D2.out.rw_ D2.out.ra (.slice none 0 0) (.slice none 0 0) (.int .i64 0) (.string ⟨#[]⟩) (.int .i64 0)
   have q0 := E4.cell_ 0 _ rfl
   have q1 := E4.cell_ 1 _ rfl
   have p0 := E5.cell_ 0 _ rfl
   have p1 := E5.cell_ 1 _ rfl
   have p2 := E5.cell_ 2 _ rfl
   clear u0 u1 v0 v1 v2 ff fg
   refine bodyPost_ret (v := .tuple #[.agg #[.slice none 0 0, .slice none 0 0], .agg #[.int .i64 0, .string ⟨#[]⟩, .int .i64 0], .int .i64 (Z)]) (by simp [results, Tryd.results24, go_sem, q0, q1, p0, p1, p2]) rfl ?_
   exact ⟨.slice none 0 0, .slice none 0 0, [], by rw [hR.out, HD.out]; rfl, by rw [hR.out]; exact (nilDo _ _).1, by rw [hR.out]; exact (nilDo _ _).2, E1⟩
  ·have HD := Lib.hid (show doE W i ⟨kx, key, val⟩ = 6 by unfold doE; rw [if_pos hg, if_neg (by rw [HN.out]; exact hin)])
   clear hg HE
   go_enter Tryd.func24, Tryd.ntmps24
   go_upto_region 1 with fail
   generalize (((World.alloc _ _).alloc _).alloc _).alloc _ = x0 at D0 ⊢
   have y0 := D0.out.bx.cell_ 0 _ rfl
   have y1 := D0.out.bx.cell_ 1 _ rfl
   go_wp2_with fail
   refine (HM.out _ D0.out.bel).mono ?_
   rintro e x1 ⟨rfl, b1⟩
   have D1 := Lib.hid (D0.out.keep b1)
   clear b1 D0 y0 y1
   rw [HG.out]
   have y1 := D1.out.bx.cell_ 1 _ rfl
   have w1 : wrap64 ((n : Int) - 1) = (n : Int) - 1 := by simp only [wrap64]; omega
   go_wp2_with fail
   refine (in_no i 0 ((n : Int) - 1) _ (by omega)).mono ?_
   rintro e x2 ⟨rfl, rfl⟩
   clear y1
   have u0 := D1.out.rw_.cell_ 0 _ rfl
   have u1 := D1.out.rw_.cell_ 1 _ rfl
   have v0 := D1.out.ra.cell_ 0 _ rfl
   have v1 := D1.out.ra.cell_ 1 _ rfl
   have v2 := D1.out.ra.cell_ 2 _ rfl
   have ff := D1.out.rw_.frozen
   have fg := D1.out.ra.frozen
   go_wp2_with fail
   obtain ⟨E1, -, E4, E5⟩ := fin_stores D1.out.bel rfl D1.out.rw_ D1.out.ra (.slice none 0 0) (.slice none 0 0) (.int .i64 0) (.string ⟨#[]⟩) (.int .i64 0)
   have q0 := E4.cell_ 0 _ rfl
   have q1 := E4.cell_ 1 _ rfl
   have p0 := E5.cell_ 0 _ rfl
   have p1 := E5.cell_ 1 _ rfl
   have p2 := E5.cell_ 2 _ rfl
   clear u0 u1 v0 v1 v2 ff fg
   refine bodyPost_ret (v := .tuple #[.agg #[.slice none 0 0, .slice none 0 0], .agg #[.int .i64 0, .string ⟨#[]⟩, .int .i64 0], .int .i64 (6)]) (by simp [results, Tryd.results24, go_sem, q0, q1, p0, p1, p2]) rfl ?_
   exact ⟨.slice none 0 0, .slice none 0 0, [], by rw [hR.out, HD.out]; rfl, by rw [hR.out]; exact (nilDo _ _).1, by rw [hR.out]; exact (nilDo _ _).2, E1⟩
 ·have HD := Lib.hid (show doE W i ⟨kx, key, val⟩ = 5 by unfold doE; rw [if_neg hg])
  have hg' : goodW W = false := by simpa using hg
  have HG := Lib.hid hg'
  clear hg hg' HE
  go_enter Tryd.func24, Tryd.ntmps24
  go_upto_region 1 with fail
  generalize (((World.alloc _ _).alloc _).alloc _).alloc _ = x0 at D0 ⊢
  have y0 := D0.out.bx.cell_ 0 _ rfl
  have y1 := D0.out.bx.cell_ 1 _ rfl
  go_wp2_with fail
  refine (HM.out _ D0.out.bel).mono ?_
  rintro e x1 ⟨rfl, b1⟩
  have D1 := Lib.hid (D0.out.keep b1)
  clear b1 D0 y0 y1
  rw [HG.out]
  have u0 := D1.out.rw_.cell_ 0 _ rfl
  have u1 := D1.out.rw_.cell_ 1 _ rfl
  have v0 := D1.out.ra.cell_ 0 _ rfl
  have v1 := D1.out.ra.cell_ 1 _ rfl
  have v2 := D1.out.ra.cell_ 2 _ rfl
  have ff := D1.out.rw_.frozen
  have fg := D1.out.ra.frozen
  go_wp2_with fail
  obtain ⟨E1, -, E4, E5⟩ := fin_stores D1.out.bel rfl D1.out.rw_ D1.out.ra (.slice none 0 0) (.slice none 0 0) (.int .i64 0) (.string ⟨#[]⟩) (.int .i64 0)
  have q0 := E4.cell_ 0 _ rfl
  have q1 := E4.cell_ 1 _ rfl
  have p0 := E5.cell_ 0 _ rfl
  have p1 := E5.cell_ 1 _ rfl
  have p2 := E5.cell_ 2 _ rfl
  clear u0 u1 v0 v1 v2 ff fg
  refine bodyPost_ret (v := .tuple #[.agg #[.slice none 0 0, .slice none 0 0], .agg #[.int .i64 0, .string ⟨#[]⟩, .int .i64 0], .int .i64 (5)]) (by simp [results, Tryd.results24, go_sem, q0, q1, p0, p1, p2]) rfl ?_
  exact ⟨.slice none 0 0, .slice none 0 0, [], by rw [hR.out, HD.out]; rfl, by rw [hR.out]; exact (nilDo _ _).1, by rw [hR.out]; exact (nilDo _ _).2, E1⟩
end Go.Proofs.YtjbnfigpflambabDoor
