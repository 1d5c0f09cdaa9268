/- back.Copy: a world of the call's own that reads as the world that came in; the walk of BackCopies. -/
import Derived.Test.YtjbnfigpflambacGreatDoorG05
import Derived.Deep.DeepCutAuto
/- back.Copy: a world of the call's own that reads as the world that came in; the walk of BackCopies. -/
namespace Go.Proofs.YtjbnfigpflambacGreatDoor
open Go.ChangeShapes Go.WideShapes Go.ChangeAt Go.RowKit
def Keeps (t : TypeId) (w w' : World) : Prop := ∀ (g : Nat) (cs : Array Value) (fr : Nat × Nat), w.heap[g]? = some (Obj.cells cs t fr) → w'.heap[g]? = some (Obj.cells cs t fr)
section
variable {t t' : TypeId} {w w' u : World} {B size n : Nat} {v : Value} {xs : List Value}
theorem heap_lt {g : Nat} {o : Obj} (h : w.heap[g]? = some o) : g < w.heap.size := (Array.getElem?_eq_some_iff.1 h).1
theorem Keeps.refl (t : TypeId) (w : World) : Keeps t w w := fun _ _ _ h => h
theorem Keeps.trans (a : Keeps t w w') (b : Keeps t w' u) : Keeps t w u := fun g cs fr h => b g cs fr (a g cs fr h)
theorem Keeps.of_below (h : Below w.heap.size w w') : Keeps t w w' := fun g _ _ hg => (h.block g (heap_lt hg)).trans hg
theorem Keeps.step (h : Below w.heap.size w w') (k : Keeps t w' u) : Keeps t w u := (Keeps.of_below h).trans k
theorem Keeps.alloc (w : World) (o : Obj) : Keeps t w (w.alloc o) := .of_below (boxed w o)
theorem Keeps.drewN (w : World) (n : Nat) : Keeps t w (w.drewN n) := fun _ _ _ h => h
theorem Keeps.set_ {p : Addr} {cs : Array Value} {fr : Nat × Nat} (hg : w.heap[p.block]? = some (Obj.cells cs t' fr)) (hne : t' ≠ t) (x : Value) : Keeps t w (w.setCell p x) := by
 intro g ds fr' h
 have hgp : g ≠ p.block := by
  rintro rfl
  rw [hg] at h
  injection h with h
  injection h with _ ht
  exact hne ht
 exact (Below.heap_setCell w p x g hgp).trans h
theorem Keeps.grown {row : Option Nat} (hg : w.grownBy w' row) (hr : ∀ g, row = some g → ∃ cs fr, w.heap[g]? = some (Obj.cells cs t' fr)) (hne : t' ≠ t) : Keeps t w w' := by
 intro g ds fr h
 refine (hg.block g (heap_lt h) fun e => ?_).trans h
 obtain ⟨cs, fr', h'⟩ := hr g e.symm
 rw [h] at h'
 injection h' with h'
 injection h' with _ ht
 exact hne ht.symm
theorem own_row {base : Nat} (h : w.ownsRow base t size v n xs) : ∀ g, v.ownBlock = some g → ∃ cs fr, w.heap[g]? = some (Obj.cells cs t fr) := by
 intro g hg
 rcases h.2 with ⟨rfl, _⟩ | ⟨g', cap, cur, rfl, _, hh, _⟩
 ·simp [Value.ownBlock] at hg
 ·have : g' = g := by simpa [Value.ownBlock] using hg
  subst this
  exact ⟨cur, (0, 0), hh⟩
theorem Keeps.own {base : Nat} (k : Keeps t w w') (h : w.ownsRow base t size v n xs) : w'.ownsRow base t size v n xs := by
 refine ⟨h.1, ?_⟩
 rcases h.2 with h0 | ⟨g, cap, cur, e, hb, hh, hr⟩
 ·exact .inl h0
 ·exact .inr ⟨g, cap, cur, e, hb, k g cur (0, 0) hh, hr⟩
end
theorem own_slice {w : World} {base size n : Nat} {t : TypeId} {v : Value} {xs : List Value} (h : w.ownsRow base t size v n xs) : ∃ A c, v = .slice A n c := by
 rcases h.2 with ⟨rfl, rfl⟩ | ⟨g, cap, cur, rfl, _⟩
 ·exact ⟨none, 0, rfl⟩
 ·exact ⟨_, cap, rfl⟩
structure OPL (w : World) (B : Nat) (v : Value) (l : List Pr) : Prop where
 own : w.ownsRow B 60 2 v l.length (cellsP l)
 fits : Fits l
theorem OPL.keeps {w w' : World} {B : Nat} {v : Value} {l : List Pr} (h : OPL w B v l) (k : Keeps 60 w w') : OPL w' B v l := ⟨k.own h.own, h.fits⟩
theorem OPL.pl {w : World} {B : Nat} {v : Value} {l : List Pr} (h : OPL w B v l) : PL w w.heap.size v l := PL.of_own h.own h.fits
theorem OPL.form {w : World} {B : Nat} {v : Value} {l : List Pr} (h : OPL w B v l) : ∃ A c, v = .slice A l.length c := h.pl.form
theorem OPL.base {w : World} {B B' : Nat} {v : Value} {l : List Pr} (h : OPL w B v l) (hB : B' ≤ B) : OPL w B' v l := by
 refine ⟨⟨h.own.1, ?_⟩, h.fits⟩
 rcases h.own.2 with h0 | ⟨g, cap, cur, e, hb, hh⟩
 ·exact .inl h0
 ·exact .inr ⟨g, cap, cur, e, Nat.le_trans hB hb, hh⟩
theorem OPL.nil_ (w : World) (B : Nat) : OPL w B (.slice none 0 0) [] := ⟨World.ownsRow_nil _ _ _ _, by simp [Fits]⟩
def SesC (w : World) (B : Nat) : List Value → List Se → Prop
 | cs, [] => cs = []
 | cs, s :: ss => ∃ a b c d rest, cs = .int .i64 s.st :: a :: b :: c :: d :: rest ∧ OPL w B a s.set ∧ OPL w B b s.pre ∧ OPL w B c s.sav ∧ OPL w B d s.wri ∧ (-9223372036854775808 ≤ s.st ∧ s.st ≤ 9223372036854775807) ∧ SesC w B rest ss
structure OSL (w : World) (B : Nat) (v : Value) (ss : List Se) (cs : List Value) : Prop where
 own : w.ownsRow B 133 5 v ss.length cs
 ses : SesC w B cs ss
theorem SesC.keeps {w w' : World} {B : Nat} (k : Keeps 60 w w') : ∀ {ss : List Se} {cs : List Value}, SesC w B cs ss → SesC w' B cs ss
 | [], _, h => h
 | _ :: _, _, ⟨a, b, c, d, rest, e, h1, h2, h3, h4, h5, h6⟩ => ⟨a, b, c, d, rest, e, h1.keeps k, h2.keeps k, h3.keeps k, h4.keeps k, h5, SesC.keeps k h6⟩
theorem SesC.snoc {w : World} {B : Nat} {s : Se} {a b c d : Value} (h1 : OPL w B a s.set) (h2 : OPL w B b s.pre) (h3 : OPL w B c s.sav) (h4 : OPL w B d s.wri) (h5 : -9223372036854775808 ≤ s.st ∧ s.st ≤ 9223372036854775807) :
  ∀ {ss : List Se} {cs : List Value}, SesC w B cs ss → SesC w B (cs ++ [.int .i64 s.st, a, b, c, d]) (ss ++ [s])
 | [], _, h => by
  have h : _ = _ := h
  subst h
  exact ⟨a, b, c, d, [], rfl, h1, h2, h3, h4, h5, rfl⟩
 | _ :: ss, _, ⟨a', b', c', d', rest, e, k1, k2, k3, k4, k5, k6⟩ => by
  subst e
  exact ⟨a', b', c', d', rest ++ [.int .i64 s.st, a, b, c, d], rfl, k1, k2, k3, k4, k5, SesC.snoc h1 h2 h3 h4 h5 k6⟩
theorem ses_info : (Tryz.prog.info? 133).map (fun i => (i.zero, i.size, i.bytes)) = some (some (.agg #[.int .i64 0, .slice none 0 0, .slice none 0 0, .slice none 0 0, .slice none 0 0]), 5, 104) := by kernel_rfl
theorem clone_own (w : World) (B : Nat) (v : Value) (l : List Pr) (h : PL w w.heap.size v l) (hB : B ≤ w.heap.size) :
  Calls Tryz.prog 46 #[v] w fun e w' => ∃ v', e = .returned v' ∧ OPL w' B v' l ∧ Below w.heap.size w w' :=
 (clone_any w v l h).mono fun _ _ ⟨v', e, ho, hb⟩ => ⟨v', e, (OPL.mk ho h.fits).base hB, hb⟩
theorem Blk.new1 (w : World) (o : Obj) (t : TypeId) (cs : Array Value) : Blk ((w.alloc o).alloc (.cells cs t)) (w.heap.size + 1) t cs := by
 have h := Blk.new (w.alloc o) t cs
 have e : (w.alloc o).heap.size = w.heap.size + 1 := by simp
 rw [e] at h
 exact h
theorem four_sets {w : World} {b : Nat} {t t' : TypeId} {cs : Array Value} (h : Blk w b t cs) (hne : t ≠ t') (i j k l : Nat) (x y z u : Value) :
  Keeps t' w ((((w.setCell ⟨b, i, none⟩ x).setCell ⟨b, j, none⟩ y).setCell ⟨b, k, none⟩ z).setCell ⟨b, l, none⟩ u) :=
 (((Keeps.set_ (p := ⟨b, i, none⟩) h hne x).trans (Keeps.set_ (p := ⟨b, j, none⟩) (h.set_ i x) hne y)).trans (Keeps.set_ (p := ⟨b, k, none⟩) ((h.set_ i x).set_ j y) hne z)).trans (Keeps.set_ (p := ⟨b, l, none⟩) (((h.set_ i x).set_ j y).set_ k z) hne u)
theorem Reads.new_ (w : World) (t : TypeId) (cs : Array Value) {n size : Nat} (h : cs.size = n * size) : Reads (w.alloc (.cells cs t)) (w.heap.size + 1) size (some ⟨w.heap.size, 0, none⟩) n cs.toList := by
 refine ⟨by simpa using h, fun _ => ⟨_, rfl, Nat.lt_succ_self _, fun j u hu => ?_⟩⟩
 have hadd : (⟨w.heap.size, 0, none⟩ : Addr).add j = ⟨w.heap.size, j, none⟩ := by unfold Addr.add; split <;> simp_all
 rw [hadd]
 exact ((Blk.new w t cs).cell j).trans (by simpa using hu)
structure CopyAt (w wx : World) (O : Nat) (r v : Value) (cs : List Value) (W : Wo) (k : Nat) : Prop where
 bel : Below w.heap.size w wx
 res : Blk wx (w.heap.size + 1) 39 #[.slice none 0 0, .slice none 0 0]
 out : Blk wx O 39 #[r, v]
 lt : w.heap.size + 1 < O
 rows : OPL wx w.heap.size r W.rows
 ses : OSL wx w.heap.size v (W.ses.take k) cs
theorem CopyAt.keep {w wx wy : World} {O : Nat} {r v : Value} {cs : List Value} {W : Wo} {k : Nat} (h : CopyAt w wx O r v cs W k) (hb : Below wx.heap.size wx wy) : CopyAt w wy O r v cs W k :=
 ⟨below_step h.bel (Nat.le_refl _) hb, h.res.keep hb, h.out.keep hb, h.lt, h.rows.keeps (.of_below hb), ⟨(Keeps.of_below hb).own h.ses.own, h.ses.ses.keeps (.of_below hb)⟩⟩
theorem CopyAt.set_ {w wx : World} {O b : Nat} {r v : Value} {cs : List Value} {W : Wo} {k : Nat} (h : CopyAt w wx O r v cs W k) (hb : wx.heap.size ≤ b) (wy : World) (hk : Below wx.heap.size wx wy) (i : Nat) (u : Value) : CopyAt w (wy.setCell ⟨b, i, none⟩ u) O r v cs W k :=
 h.keep (hk.setCell hb u)
theorem copy_step {w wc w5 : World} {O k cv : Nat} {Av : Option Addr} {r v' a b c d : Value} {cs : List Value} {W : Wo} {t : Se} (M : CopyAt w wc O r (.slice Av k cv) cs W k) (htk : (W.ses.take k).length = k) (ht : W.ses.take (k + 1) = W.ses.take k ++ [t])
  (o : Obj) (ha : OPL wc w.heap.size a t.set) (hb : OPL wc w.heap.size b t.pre) (hc : OPL wc w.heap.size c t.sav) (hd : OPL wc w.heap.size d t.wri) (hi : -9223372036854775808 ≤ t.st ∧ t.st ≤ 9223372036854775807)
  (hgr : (wc.alloc o).grownBy w5 (Value.slice Av k cv).ownBlock) (hown : w5.ownsRow w.heap.size 133 5 v' (k + 1) (cs ++ [.int .i64 t.st, a, b, c, d])) :
  Blk w5 O 39 #[r, .slice Av k cv] ∧ CopyAt w (w5.setCell ⟨O, 1, none⟩ v') O r v' (cs ++ [.int .i64 t.st, a, b, c, d]) W (k + 1) := by
 have own0 := M.ses.own
 rw [htk] at own0
 have own1 := own0.alloc o
 have kp : Keeps 60 wc w5 := (Keeps.alloc wc o).trans (Keeps.grown (t' := 133) hgr (own_row own1) (by decide))
 have out5 : Blk w5 O 39 #[r, .slice Av k cv] := (M.out.alloc o).grown hgr fun e => own_blk_ne own1 (M.out.alloc o) (by decide) e.symm
 have res5 : Blk w5 (w.heap.size + 1) 39 #[.slice none 0 0, .slice none 0 0] := (M.res.alloc o).grown hgr fun e => own_blk_ne own1 (M.res.alloc o) (by decide) e.symm
 have bel5 : Below w.heap.size w w5 := (M.bel.alloc M.bel.size o).grown hgr (Nat.le_trans M.bel.size (by simp)) fun g hg => (own1.lt g hg).1
 have k2 : Keeps 60 w5 (w5.setCell ⟨O, 1, none⟩ v') := Keeps.set_ (p := ⟨O, 1, none⟩) out5 (by decide) v'
 have k3 : Keeps 133 w5 (w5.setCell ⟨O, 1, none⟩ v') := Keeps.set_ (p := ⟨O, 1, none⟩) out5 (by decide) v'
 have lt := M.lt
 refine ⟨out5, bel5.setCell (by show w.heap.size ≤ O; omega) _, res5.far (by show w.heap.size + 1 ≠ O; omega) _, out5.set_ 1 v', M.lt, (M.rows.keeps kp).keeps k2, ?_, ?_⟩
 ·have e : (W.ses.take (k + 1)).length = k + 1 := by rw [ht, List.length_append, htk]; rfl
  rw [e]
  exact k3.own hown
 ·rw [ht]
  have kk := kp.trans k2
  exact SesC.snoc (ha.keeps kk) (hb.keeps kk) (hc.keeps kk) (hd.keeps kk) hi (M.ses.ses.keeps kk)
set_option maxHeartbeats 8000000 in
set_option maxRecDepth 100000 in
theorem copy_any (w : World) (r s : Value) (W : Wo) (h : WL w w.heap.size r s W) :
  Calls Tryz.prog 64 #[.agg #[r, s]] w fun e w' => ∃ r' s' cs, e = .returned (.agg #[r', s']) ∧ OPL w' w.heap.size r' W.rows ∧ OSL w' w.heap.size s' W.ses cs ∧ Below w.heap.size w w' := by
 obtain ⟨i0, hi0, hz0, hz1, hz2⟩ := info_parts ses_info
 have HW := Lib.hid h
 obtain ⟨A, c, rfl, hc, hn, hs⟩ := h.ses
 have HS := Lib.hid hs
 clear h hs hc
 obtain ⟨n, hN⟩ : ∃ n, W.ses.length = n := ⟨_, rfl⟩
 rw [hN] at hn ⊢
 have HN := Lib.hid hN
 clear hN
 go_enter Tryz.func64, Tryz.ntmps64
 go_wp2_with fail
 refine (clone_own _ w.heap.size _ W.rows ((HW.out.rows.below (boxed2 _ _ _)).more (by simp; omega)) (by simp; omega)).mono ?_
 rintro e w1 ⟨r1, rfl, hr1, hb1⟩
 obtain ⟨c0, d0⟩ := box2_cell hb1 0
 obtain ⟨c1, d1⟩ := box2_cell hb1 1
 obtain ⟨Ar, cr, rfl⟩ := hr1.form
 have hz1' : w.heap.size + 2 ≤ w1.heap.size := by have := hb1.size; simp at this; omega
 have hb : Below w.heap.size w w1 := (boxed2 w _ _).trans (hb1.mono (by simp; omega))
 have HR := Lib.hid hr1
 have HB := Lib.hid hb
 have HZ := Lib.hid hz1'
 have HB1 := Lib.hid hb1
 have l1 : w.heap.size < w1.heap.size := by omega
 have l2 : w.heap.size + 1 < w1.heap.size := by omega
 clear hb1 hr1 hb hz1'
 have M0 : CopyAt w (w1.alloc (.cells #[.slice Ar W.rows.length cr, .slice none 0 0] 39)) w1.heap.size (.slice Ar W.rows.length cr) (.slice none 0 0) [] W 0 :=
  ⟨HB.out.alloc HB.out.size _, ((Blk.new1 w _ _ _).keep HB1.out).alloc _, Blk.new _ _ _, by omega, HR.out.keeps (.alloc _ _), ⟨by rw [List.take_zero]; exact World.ownsRow_nil _ _ _ _, by rw [List.take_zero]; rfl⟩⟩
 have HM := Lib.hid M0
 clear M0
 go_wp2_with fail
 go_loopw [13] (fun i wx => ∃ (k : Nat) (v : Value) (cs : List Value), k ≤ n ∧ i = .int .i64 k ∧ CopyAt w wx w1.heap.size (.slice Ar W.rows.length cr) v cs W k) (fun i _ => n - (intOf i).toNat)
 case atStart => exact ⟨0, _, _, Nat.zero_le _, rfl, HM.out⟩
 case round =>
  obtain ⟨k, v, cs, hk, rfl, hM⟩ := hrel
  by_cases hlt : k < n
  ·have hlt' : k < W.ses.length := by rw [HN.out]; exact hlt
   obtain ⟨ad, hA, hB, hse⟩ := HS.out (by omega)
   subst hA
   have q := (hse k hlt').below (by rw [block_of_add]; exact hB) hM.bel
   obtain ⟨t, ht⟩ : ∃ t, W.ses[k] = t := ⟨_, rfl⟩
   rw [ht] at q
   obtain ⟨x0, ⟨v1, x1, p1⟩, ⟨v2, x2, p2⟩, ⟨v3, x3, p3⟩, ⟨v4, x4, p4⟩, i1, i2⟩ := q
   obtain ⟨A1, z1, rfl⟩ := p1.form
   obtain ⟨A2, z2, rfl⟩ := p2.form
   obtain ⟨A3, z3, rfl⟩ := p3.form
   obtain ⟨A4, z4, rfl⟩ := p4.form
   have P1 := Lib.hid p1
   have P2 := Lib.hid p2
   have P3 := Lib.hid p3
   have P4 := Lib.hid p4
   have ht2 : W.ses.take (k + 1) = W.ses.take k ++ [t] := by rw [← ht, List.take_succ_eq_append_getElem hlt']
   have HT := Lib.hid ht2
   have HM := Lib.hid hM
   have HI := Lib.hid (And.intro i1 i2)
   have g1 : (k : Int) < (n : Int) := by omega
   have g2 : (0 : Int) ≤ (k : Int) := by omega
   have g3 := hM.bel.size
   clear p1 p2 p3 p4 ht ht2 hse hM hB hlt' i1 i2 l1 l2 HR HB HZ HB1 c0 c1 d0 d1
   go_upto_region 5 with fail
   go_cut [5] (fun p wc => p = .pointer (some ⟨wr.heap.size, 0, none⟩) ∧ ∃ a b c d, Blk wc wr.heap.size 133 #[.int .i64 t.st, a, b, c, d] ∧ OPL wc w.heap.size a t.set ∧ OPL wc w.heap.size b t.pre ∧ OPL wc w.heap.size c t.sav ∧ OPL wc w.heap.size d t.wri ∧ Below wr.heap.size wr wc)
   case first =>
    go_wp2_with fail
    obtain ⟨b, hb0⟩ : ∃ b, wr.heap.size = b := ⟨_, rfl⟩
    obtain ⟨wq, hq⟩ : ∃ wq, wr.alloc (.cells #[.int .i64 t.st, .slice A1 t.set.length z1, .slice A2 t.pre.length z2, .slice A3 t.sav.length z3, .slice A4 t.wri.length z4] 133) = wq := ⟨_, rfl⟩
    have hblk := Blk.new wr 133 #[.int .i64 t.st, .slice A1 t.set.length z1, .slice A2 t.pre.length z2, .slice A3 t.sav.length z3, .slice A4 t.wri.length z4]
    have hbel := boxed wr (.cells #[.int .i64 t.st, .slice A1 t.set.length z1, .slice A2 t.pre.length z2, .slice A3 t.sav.length z3, .slice A4 t.wri.length z4] 133)
    rw [hq] at hblk hbel ⊢
    have hwq : Below w.heap.size wr wq := hbel.mono g3
    rw [hb0] at hblk hbel ⊢
    have y1 : wq.cell? ⟨b, 1, none⟩ = some (.slice A1 t.set.length z1) := hblk.cell 1
    have y2 : wq.cell? ⟨b, 2, none⟩ = some (.slice A2 t.pre.length z2) := hblk.cell 2
    have y3 : wq.cell? ⟨b, 3, none⟩ = some (.slice A3 t.sav.length z3) := hblk.cell 3
    have y4 : wq.cell? ⟨b, 4, none⟩ = some (.slice A4 t.wri.length z4) := hblk.cell 4
    clear hq
    have D0 : Below w.heap.size wr wq.drew := ⟨hwq.os, hwq.tape, hwq.output, hwq.size, hwq.block⟩
    have e0 : w.heap.size ≤ wq.drew.heap.size := Nat.le_trans g3 hwq.size
    have hblk0 : Blk wq.drew b 133 #[.int .i64 t.st, .slice A1 t.set.length z1, .slice A2 t.pre.length z2, .slice A3 t.sav.length z3, .slice A4 t.wri.length z4] := hblk
    have hbq : Below b wr wq.drew := ⟨hbel.os, hbel.tape, hbel.output, hbel.size, hbel.block⟩
    have hb1 : b ≤ wr.heap.size := Nat.le_of_eq hb0.symm
    have HB0 := Lib.hid hb0
    clear hblk hbel hwq hb0
    refine region_late (fun w' => w'.cell? ⟨b, 1, none⟩ = some (.slice A1 t.set.length z1) ∧ w'.cell? ⟨b, 2, none⟩ = some (.slice A2 t.pre.length z2) ∧ w'.cell? ⟨b, 3, none⟩ = some (.slice A3 t.sav.length z3) ∧ w'.cell? ⟨b, 4, none⟩ = some (.slice A4 t.wri.length z4)) [12, 13, 14, 15, 16, 17, 18, 19] (by kernel_rfl) ?_
    refine anyL_take (by kernel_rfl) (fun _ _ d _ _ h => by cases d <;> exact h) [(0, .pointer (some ⟨b, 1, none⟩)), (1, .slice A1 t.set.length z1), (3, .pointer (some ⟨b, 2, none⟩)), (4, .slice A2 t.pre.length z2), (6, .pointer (some ⟨b, 3, none⟩)), (7, .slice A3 t.sav.length z3), (9, .pointer (some ⟨b, 4, none⟩)), (10, .slice A4 t.wri.length z4)] 12 rfl (by kernel_rfl) ?_ ⟨y1, y2, y3, y4⟩ ?_
    ·iterate 8 (refine ⟨?_, ?_⟩; · exact Or.inl ⟨by rfl, fun w' hS => by (obtain ⟨s1, s2, s3, s4⟩ := hS; go_simp)⟩)
     exact trivial
    simp only [putAll, Act.put, List.getElem?_toArray, List.getElem?_cons_zero, List.getElem?_cons_succ, List.setIfInBounds_toArray, List.set_cons_zero, List.set_cons_succ]
    have HK0 := Lib.hid (And.intro D0 (And.intro e0 (And.intro hblk0 hbq)))
    clear D0 e0 hblk0 hbq
    refine anyL_one (i := 2) (by kernel_rfl) rfl (fun K hK => ?_)
    go_simp
    refine (clone_own _ w.heap.size _ t.set ((P1.out.below HK0.out.1).more HK0.out.2.1) HK0.out.2.1).mono ?_
    rintro e w1 ⟨u1, rfl, o1, b1⟩
    have D1 := below_step HK0.out.1 g3 b1
    have e1 : w.heap.size ≤ w1.heap.size := Nat.le_trans HK0.out.2.1 b1.size
    have hblk1 := HK0.out.2.2.1.keep b1
    have hbq1 := below_step HK0.out.2.2.2 hb1 b1
    replace y1 := keep_cell b1 y1
    replace y2 := keep_cell b1 y2
    replace y3 := keep_cell b1 y3
    replace y4 := keep_cell b1 y4
    refine hK.out _ _ (fun _ => ⟨y1, y2, y3, y4⟩) ?_
    obtain ⟨B1, q1, rfl⟩ := o1.form
    have O1 := Lib.hid o1
    have BB1 := Lib.hid b1
    have HK1 := Lib.hid (And.intro D1 (And.intro e1 (And.intro hblk1 hbq1)))
    clear hK K D1 e1 hblk1 hbq1 o1 b1
    refine anyL_any_ (by kernel_rfl) (fun _ _ d _ _ h => by cases d <;> exact h) [(12, .pointer (some ⟨b, 1, none⟩))] 10 rfl (by kernel_rfl) ?_ ?_
    ·refine ⟨?_, trivial⟩
     exact Or.inl ⟨by rfl, fun w' _ => by go_simp⟩
    simp only [putAll, Act.put, List.getElem?_toArray, List.getElem?_cons_zero, List.getElem?_cons_succ, List.setIfInBounds_toArray, List.set_cons_zero, List.set_cons_succ]
    refine anyL_one (i := 5) (by kernel_rfl) rfl (fun K hK => ?_)
    go_simp
    refine (clone_own _ w.heap.size _ t.pre ((P2.out.below HK1.out.1).more HK1.out.2.1) HK1.out.2.1).mono ?_
    rintro e w2 ⟨u2, rfl, o2, b2⟩
    have D2 := below_step HK1.out.1 g3 b2
    have e2 : w.heap.size ≤ w2.heap.size := Nat.le_trans HK1.out.2.1 b2.size
    have hblk2 := HK1.out.2.2.1.keep b2
    have hbq2 := below_step HK1.out.2.2.2 hb1 b2
    replace y1 := keep_cell b2 y1
    replace y2 := keep_cell b2 y2
    replace y3 := keep_cell b2 y3
    replace y4 := keep_cell b2 y4
    refine hK.out _ _ (fun _ => ⟨y1, y2, y3, y4⟩) ?_
    obtain ⟨B2, q2, rfl⟩ := o2.form
    have O2 := Lib.hid o2
    have BB2 := Lib.hid b2
    have HK2 := Lib.hid (And.intro D2 (And.intro e2 (And.intro hblk2 hbq2)))
    clear hK K D2 e2 hblk2 hbq2 o2 b2
    refine anyL_one (i := 8) (by kernel_rfl) rfl (fun K hK => ?_)
    go_simp
    refine (clone_own _ w.heap.size _ t.sav ((P3.out.below HK2.out.1).more HK2.out.2.1) HK2.out.2.1).mono ?_
    rintro e w3 ⟨u3, rfl, o3, b3⟩
    have D3 := below_step HK2.out.1 g3 b3
    have e3 : w.heap.size ≤ w3.heap.size := Nat.le_trans HK2.out.2.1 b3.size
    have hblk3 := HK2.out.2.2.1.keep b3
    have hbq3 := below_step HK2.out.2.2.2 hb1 b3
    replace y1 := keep_cell b3 y1
    replace y2 := keep_cell b3 y2
    replace y3 := keep_cell b3 y3
    replace y4 := keep_cell b3 y4
    refine hK.out _ _ (fun _ => ⟨y1, y2, y3, y4⟩) ?_
    obtain ⟨B3, q3, rfl⟩ := o3.form
    have O3 := Lib.hid o3
    have BB3 := Lib.hid b3
    have HK3 := Lib.hid (And.intro D3 (And.intro e3 (And.intro hblk3 hbq3)))
    clear hK K D3 e3 hblk3 hbq3 o3 b3
    refine anyL_one (i := 11) (by kernel_rfl) rfl (fun K hK => ?_)
    go_simp
    refine (clone_own _ w.heap.size _ t.wri ((P4.out.below HK3.out.1).more HK3.out.2.1) HK3.out.2.1).mono ?_
    rintro e w4 ⟨u4, rfl, o4, b4⟩
    have D4 := below_step HK3.out.1 g3 b4
    have e4 : w.heap.size ≤ w4.heap.size := Nat.le_trans HK3.out.2.1 b4.size
    have hblk4 := HK3.out.2.2.1.keep b4
    have hbq4 := below_step HK3.out.2.2.2 hb1 b4
    replace y1 := keep_cell b4 y1
    replace y2 := keep_cell b4 y2
    replace y3 := keep_cell b4 y3
    replace y4 := keep_cell b4 y4
    refine hK.out _ _ (fun _ => ⟨y1, y2, y3, y4⟩) ?_
    obtain ⟨B4, q4, rfl⟩ := o4.form
    have O4 := Lib.hid o4
    have BB4 := Lib.hid b4
    have HK4 := Lib.hid (And.intro D4 (And.intro e4 (And.intro hblk4 hbq4)))
    clear hK K D4 e4 hblk4 hbq4 o4 b4
    have F : ∀ i, w4.frozen? ⟨b, i, none⟩ = false := HK4.out.2.2.1.frozen
    refine anyL_one (i := 13) (by kernel_rfl) rfl (fun K hK => ?_)
    go_simp
    refine hK.out _ _ (fun h => absurd (by decide) h) ?_
    clear hK K
    refine anyL_one (i := 14) (by kernel_rfl) rfl (fun K hK => ?_)
    go_simp
    refine hK.out _ _ (fun h => absurd (by decide) h) ?_
    clear hK K
    refine anyL_one (i := 15) (by kernel_rfl) rfl (fun K hK => ?_)
    go_simp
    refine hK.out _ _ (fun h => absurd (by decide) h) ?_
    clear hK K
    refine anyL_one (i := 16) (by kernel_rfl) rfl (fun K hK => ?_)
    go_simp
    refine hK.out _ _ (fun h => absurd (by decide) h) ?_
    clear hK K
    refine anyL_one (i := 17) (by kernel_rfl) rfl (fun K hK => ?_)
    go_simp
    refine hK.out _ _ (fun h => absurd (by decide) h) ?_
    clear hK K
    refine anyL_one (i := 18) (by kernel_rfl) rfl (fun K hK => ?_)
    go_simp
    refine hK.out _ _ (fun h => absurd (by decide) h) ?_
    clear hK K
    refine anyL_one (i := 19) (by kernel_rfl) rfl (fun K hK => ?_)
    go_simp
    refine hK.out _ _ (fun h => absurd (by decide) h) ?_
    clear hK K
    refine anyL_done (by kernel_rfl) ?_ _
    clear y1 y2 y3 y4 F
    go_wp2_with fail
    go_meet
    have k4 := four_sets HK4.out.2.2.1 (t' := 60) (by decide) 1 2 3 4 (.slice B1 t.set.length q1) (.slice B2 t.pre.length q2) (.slice B3 t.sav.length q3) (.slice B4 t.wri.length q4)
    rw [HB0.out]
    refine ⟨rfl, .slice B1 t.set.length q1, .slice B2 t.pre.length q2, .slice B3 t.sav.length q3, .slice B4 t.wri.length q4, ?_, ?_, ?_, ?_, ?_, ?_⟩
    ·exact (((HK4.out.2.2.1.set_ 1 _).set_ 2 _).set_ 3 _).set_ 4 _
    ·exact ((((O1.out.keeps (.of_below BB2.out)).keeps (.of_below BB3.out)).keeps (.of_below BB4.out))).keeps k4
    ·exact (((O2.out.keeps (.of_below BB3.out)).keeps (.of_below BB4.out))).keeps k4
    ·exact (O3.out.keeps (.of_below BB4.out)).keeps k4
    ·exact O4.out.keeps k4
    ·exact (((HK4.out.2.2.2.setCell (Nat.le_refl _) _).setCell (Nat.le_refl _) _).setCell (Nat.le_refl _) _).setCell (Nat.le_refl _) _
   case rest =>
    obtain ⟨rfl, a, b, c', d, hblk, o1, o2, o3, o4, hbel⟩ := hcut
    have M := HM.out.keep hbel
    have htk : (W.ses.take k).length = k := by rw [List.length_take, HN.out]; omega
    obtain ⟨A1', z1', rfl⟩ := o1.form
    obtain ⟨A2', z2', rfl⟩ := o2.form
    obtain ⟨A3', z3', rfl⟩ := o3.form
    obtain ⟨A4', z4', rfl⟩ := o4.form
    have hown := M.ses.own
    rw [htk] at hown
    obtain ⟨Av, cv, rfl⟩ := own_slice hown
    have ys := hblk.cell 0
    have ys1 := hblk.cell 1
    have ys2 := hblk.cell 2
    have ys3 := hblk.cell 3
    have ys4 := hblk.cell 4
    have yo := M.out.cell 1
    have fo := M.out.frozen
    have lo := M.out.lt
    have lb := hblk.lt
    have hOwn := Lib.hid (hown.alloc (.cells #[.int .i64 t.st, .slice A1' t.set.length z1', .slice A2' t.pre.length z2', .slice A3' t.sav.length z3', .slice A4' t.wri.length z4'] 133))
    have HTK := Lib.hid htk
    have HO := Lib.hid (And.intro o1 (And.intro o2 (And.intro o3 o4)))
    have HBL := Lib.hid hbel
    have HM2 := Lib.hid M
    clear hown o1 o2 o3 o4 hbel M hblk HM htk
    go_wp2_with (at_builtin; refine wpList_append_any _ rfl (.tmp 34) (.tmp 36) 37 rfl w.heap.size 133 i0 _ 5 104 Tryz.underlying37 hi0 hz0 hz1 hz2 rfl (by decide) (.slice Av k cv) k cs rfl hOwn.out (wc.heap.size + 1) (some ⟨wc.heap.size, 0, none⟩) 1 1 [.int .i64 t.st, .slice A1' t.set.length z1', .slice A2' t.pre.length z2', .slice A3' t.sav.length z3', .slice A4' t.wri.length z4'] rfl (Reads.new_ wc _ #[_, _, _, _, _] rfl) (by intro u hu; simp only [List.mem_cons, List.not_mem_nil, or_false] at hu; rcases hu with rfl | rfl | rfl | rfl | rfl <;> rfl) (by unfold maxLen; omega) (by omega) (Nat.le_trans HM2.out.bel.size (by simp)) ?_; rotate_right; skip)
    intro v' w5 hown5 hgr hat
    have st := copy_step HM2.out HTK.out HT.out _ HO.out.1 HO.out.2.1 HO.out.2.2.1 HO.out.2.2.2 HI.out hgr hown5
    obtain ⟨Av', cv', rfl⟩ := own_slice hown5
    have yo5 := st.1.cell 1
    have fo5 := st.1.frozen
    have ST := Lib.hid st.2
    clear st hown5 hgr hat hOwn
    go_wp2_with fail
    go_roundw
    case rel => exact ⟨k + 1, _, _, by omega, by go_num, ST.out⟩
    case measure => simp [intOf]; omega
  ·obtain rfl : k = n := by omega
   have htk : W.ses.take k = W.ses := List.take_of_length_le (by rw [HN.out]; exact Nat.le_refl _)
   have hown := hM.ses.own
   have hses := hM.ses.ses
   rw [htk] at hown hses
   obtain ⟨Av, cv, rfl⟩ := own_slice hown
   have y0 := hM.out.cell 0
   have y1 := hM.out.cell 1
   have x0 := hM.res.cell 0
   have x1 := hM.res.cell 1
   have fx := hM.res.frozen
   have lo := hM.lt
   have no1 : w1.heap.size ≠ w.heap.size + 1 := by omega
   have k2 : Keeps 60 wr ((wr.setCell ⟨w.heap.size + 1, 0, none⟩ (.slice Ar W.rows.length cr)).setCell ⟨w.heap.size + 1, 1, none⟩ (.slice Av W.ses.length cv)) :=
    (Keeps.set_ (p := ⟨w.heap.size + 1, 0, none⟩) hM.res (by decide) _).trans (Keeps.set_ (p := ⟨w.heap.size + 1, 1, none⟩) (hM.res.set_ 0 _) (by decide) _)
   have k3 : Keeps 133 wr ((wr.setCell ⟨w.heap.size + 1, 0, none⟩ (.slice Ar W.rows.length cr)).setCell ⟨w.heap.size + 1, 1, none⟩ (.slice Av W.ses.length cv)) :=
    (Keeps.set_ (p := ⟨w.heap.size + 1, 0, none⟩) hM.res (by decide) _).trans (Keeps.set_ (p := ⟨w.heap.size + 1, 1, none⟩) (hM.res.set_ 0 _) (by decide) _)
   have FIN := Lib.hid (And.intro (hM.rows.keeps k2) (And.intro (OSL.mk (k3.own hown) (hses.keeps k2)) ((hM.bel.setCell (show w.heap.size ≤ (⟨w.heap.size + 1, 0, none⟩ : Addr).block from Nat.le_succ _) (.slice Ar W.rows.length cr)).setCell (show w.heap.size ≤ (⟨w.heap.size + 1, 1, none⟩ : Addr).block from Nat.le_succ _) (.slice Av W.ses.length cv))))
   have bl := Lib.hid hM.res
   clear htk hown hses k2 k3 hM HM
   go_wp2_with fail
   have hb2 := (bl.out.set_ 0 (.slice Ar W.rows.length cr)).set_ 1 (.slice Av W.ses.length cv)
   have q0 := hb2.cell 0
   have q1 := hb2.cell 1
   clear y0 y1 x0 x1 fx
   refine bodyPost_ret (v := .agg #[.slice Ar W.rows.length cr, .slice Av W.ses.length cv]) ?_ rfl ⟨_, _, cs, rfl, FIN.out.1, FIN.out.2.1, FIN.out.2.2⟩
   simp [results, Tryz.results64, go_sem, q0, q1]
theorem SesC.at_ {w : World} {B : Nat} : ∀ {ss : List Se} {cs : List Value}, SesC w B cs ss → ∀ (i : Nat) (h : i < ss.length), ∃ a b c d, cs[i * 5]? = some (.int .i64 ss[i].st) ∧ cs[i * 5 + 1]? = some a ∧ cs[i * 5 + 2]? = some b ∧ cs[i * 5 + 3]? = some c ∧ cs[i * 5 + 4]? = some d ∧
  OPL w B a ss[i].set ∧ OPL w B b ss[i].pre ∧ OPL w B c ss[i].sav ∧ OPL w B d ss[i].wri ∧ (-9223372036854775808 ≤ ss[i].st ∧ ss[i].st ≤ 9223372036854775807)
 | s :: ss, _, ⟨a, b, c, d, rest, e, h1, h2, h3, h4, h5, h6⟩, i, h => by
  subst e
  rcases i with _ | i
  ·exact ⟨a, b, c, d, rfl, rfl, rfl, rfl, rfl, h1, h2, h3, h4, h5⟩
  ·obtain ⟨a', b', c', d', k0, k1, k2, k3, k4, r⟩ := SesC.at_ h6 i (by simpa using h)
   have e : (i + 1) * 5 = i * 5 + 5 := by omega
   rw [e]
   exact ⟨a', b', c', d', by simpa using k0, by simpa [Nat.add_right_comm] using k1, by simpa [Nat.add_right_comm] using k2, by simpa [Nat.add_right_comm] using k3, by simpa [Nat.add_right_comm] using k4, r⟩
theorem OSL.sl {w : World} {B : Nat} {v : Value} {ss : List Se} {cs : List Value} (h : OSL w B v ss cs) (hz : ss.length ≤ 1353245080300) : SL w w.heap.size v ss := by
 rcases h.own.2 with ⟨rfl, h0⟩ | ⟨g, cap, cur, hv, _, _, hn, _⟩
 ·exact ⟨none, 0, by rw [h0], by omega, hz, fun hp => by omega⟩
 ·subst hv
  refine ⟨_, cap, rfl, hn, hz, fun hp => ⟨⟨g, 0, none⟩, rfl, (h.own.lt g rfl).2, fun i hi => ?_⟩⟩
  obtain ⟨a, b, c, d, k0, k1, k2, k3, k4, o1, o2, o3, o4, o5⟩ := SesC.at_ h.ses i hi
  have hc := h.own.cells (g := g) rfl
  have e1 : ∀ j, (⟨((⟨g, 0, none⟩ : Addr).add (i * 5)).block, ((⟨g, 0, none⟩ : Addr).add (i * 5)).off + (j + 1), none⟩ : Addr) = (⟨g, 0, none⟩ : Addr).add (i * 5 + (j + 1)) := by
   intro j
   have hadd : ∀ n, (⟨g, 0, none⟩ : Addr).add n = ⟨g, n, none⟩ := fun n => by unfold Addr.add; split <;> simp_all
   rw [hadd, hadd]
  exact ⟨hc _ _ k0, ⟨a, by rw [e1 0]; exact hc _ _ k1, o1.pl⟩, ⟨b, by rw [e1 1]; exact hc _ _ k2, o2.pl⟩, ⟨c, by rw [e1 2]; exact hc _ _ k3, o3.pl⟩, ⟨d, by rw [e1 3]; exact hc _ _ k4, o4.pl⟩, o5⟩
end Go.Proofs.YtjbnfigpflambacGreatDoor
