/- tillermantop.played. Plain laws, no program: where there are servers enough, a client is served at once; how long a server is kept, and how bytes are cut, does not show. Plain laws, no program: with servers enough, an act is done at once; TopModes and TopCuts. Plain laws, no program: every row was written by a client that was answered so; a client gets its own settings alone. The pool's outcome is the house's. -/
import Derived.Test.YtjbnfigpflambacGreatDoorG06
import Derived.Test.YtjbnfigpflambacGreatDoorG26
import Derived.Test.YtjbnfigpflambacGreatDoorG34
/- tillermantop.played. -/
namespace Go.Proofs.YtjbnfigpflambacGreatDoor
open Go.ChangeShapes Go.WideShapes Go.ChangeAt Go.RowKit
theorem OutR.keeps {w w' : World} {B : Nat} {vs vd vr : Value} {o : Outc} (h : OutR w B vs vd vr o) (k1 : Keeps 9 w w') (k2 : Keeps 71 w w') (k3 : Keeps 60 w w') : OutR w' B vs vd vr o :=
 ⟨h.sent.ofKeeps k1, h.deeds.ofKeeps k2, h.rows.keeps k3⟩
theorem OutR.keep {w w' : World} {B : Nat} {vs vd vr : Value} {o : Outc} (h : OutR w B vs vd vr o) (hb : Below w.heap.size w w') : OutR w' B vs vd vr o := h.keeps (.of_below hb) (.of_below hb) (.of_below hb)
theorem OwnO.base {w : World} {B B' : Nat} {e : TypeId} {size n : Nat} {v : Value} {xs : List Value} (h : OwnO w B e size v n xs) (hB : B' ≤ B) : OwnO w B' e size v n xs := by
 obtain ⟨h1, h2⟩ := h
 refine ⟨h1, h2.imp id ?_⟩
 rintro ⟨g, off, cap, cs, e, hb, r⟩
 exact ⟨g, off, cap, cs, e, by omega, r⟩
theorem OutR.base {w : World} {B B' : Nat} {vs vd vr : Value} {o : Outc} (h : OutR w B vs vd vr o) (hB : B' ≤ B) : OutR w B' vs vd vr o := ⟨h.sent.base hB, h.deeds.base hB, h.rows.base hB⟩
structure BoxO (w : World) (B z : Nat) (vs vd vr : Value) (o : Outc) : Prop where
 lb : B ≤ z
 blk : Blk w z 29 #[vs, vd, vr]
 out : OutR w B vs vd vr o
theorem BoxO.keep {w w' : World} {B z : Nat} {vs vd vr : Value} {o : Outc} (h : BoxO w B z vs vd vr o) (hb : Below w.heap.size w w') : BoxO w' B z vs vd vr o := ⟨h.lb, h.blk.keep hb, h.out.keep hb⟩
structure PlS (w0 wx : World) (z4 z6 : Nat) (c vs vd vr : Value) (o : Outc) : Prop where
 hb : Below w0.heap.size w0 wx
 l4 : w0.heap.size ≤ z4
 c6 : wx.cell? ⟨z6, 0, none⟩ = some vs
 b4 : ∃ x y z, Blk wx z4 29 #[x, y, z] ∧ (c = .bool true → x = vs ∧ y = vd ∧ z = vr)
 ne : z6 ≠ z4
 out : OutR wx w0.heap.size vs vd vr o
theorem PlS.store {w0 wx : World} {z4 z6 : Nat} {c vs vd vr : Value} {o : Outc} (h : PlS w0 wx z4 z6 c vs vd vr o) : PlS w0 (((wx.setCell ⟨z4, 0, none⟩ vs).setCell ⟨z4, 1, none⟩ vd).setCell ⟨z4, 2, none⟩ vr) z4 z6 (.bool true) vs vd vr o := by
 obtain ⟨x, y, z, b, _⟩ := h.b4
 have s0 := b.set_ 0 vs
 have s1 := s0.set_ 1 vd
 have s2 := s1.set_ 2 vr
 have k : ∀ t, 29 ≠ t → Keeps t wx (((wx.setCell ⟨z4, 0, none⟩ vs).setCell ⟨z4, 1, none⟩ vd).setCell ⟨z4, 2, none⟩ vr) := fun t ht =>
  ((Keeps.set_ (p := ⟨z4, 0, none⟩) b ht vs).trans (Keeps.set_ (p := ⟨z4, 1, none⟩) s0 ht vd)).trans (Keeps.set_ (p := ⟨z4, 2, none⟩) s1 ht vr)
 refine ⟨((h.hb.setCell (p := ⟨z4, 0, none⟩) h.l4 _).setCell (p := ⟨z4, 1, none⟩) h.l4 _).setCell (p := ⟨z4, 2, none⟩) h.l4 _, h.l4, ?_, ⟨_, _, _, s2, fun _ => ⟨rfl, rfl, rfl⟩⟩, h.ne, h.out.keeps (k _ (by decide)) (k _ (by decide)) (k _ (by decide))⟩
 have e : ∀ (u : World) (j : Nat) (v : Value), (u.setCell ⟨z4, j, none⟩ v).cell? ⟨z6, 0, none⟩ = u.cell? ⟨z6, 0, none⟩ := fun u j v => World.cell?_setCell_other u _ _ v (fun e => h.ne (congrArg Addr.block e).symm)
 rw [e, e, e]
 exact h.c6
theorem out_six (mode : Int) (n : Nat) (l : List Ac) : (outM mode n l).sent.length = 6 := by
 unfold outM
 rw [List.length_map, List.length_range]
theorem ownO_form {w : World} {B n : Nat} {t : TypeId} {size : Nat} {v : Value} {xs : List Value} (h : OwnO w B t size v n xs) : ∃ A c, v = .slice A n c := by
 obtain ⟨A, c, e, _⟩ := h.form
 exact ⟨A, c, e⟩
set_option maxHeartbeats 8000000 in
set_option maxRecDepth 100000 in
theorem played_top (w : World) (mode : Int) (n : Nat) (v : Value) (l : List Ac) (hm : setupE mode n = 0) (hn1 : 1 ≤ n) (hn4 : n ≤ 4) (hl : AcL w w.heap.size v l) (hlen : l.length ≤ 300) (hok : ∀ a ∈ l, AcOk a) (hT : Tabs w) :
  Calls Tryz.prog 26 #[.agg #[.int .i64 mode, .int .i64 (n : Int)], v] w fun e w' => ∃ vs vd vr, e = .returned (.tuple #[.agg #[vs, vd, vr], .bool true]) ∧ OutR w' w.heap.size vs vd vr (outM mode n l) ∧ Below w.heap.size w w' := by
 have HL := Lib.hid hl
 have HT := Lib.hid hT
 have HR := Lib.hid (fun (w' : World) (hl : AcL w' w'.heap.size v l) (hT : Tabs w') => run_any w' mode n v l hm hn1 hn4 hl hlen hok hT)
 have HS := Lib.hid (out_six mode n l)
 obtain ⟨o, ho⟩ : ∃ o, outM mode n l = o := ⟨_, rfl⟩
 rw [ho] at HS HR ⊢
 obtain ⟨A, cap, hv, _⟩ := hl
 obtain ⟨N, hN⟩ : ∃ N, l.length = N := ⟨_, rfl⟩
 rw [hN] at hv
 subst hv
 clear hT hm hn1 hn4 hlen hok ho hN
 go_enter Tryz.func26, Tryz.ntmps26
 go_wp2_with fail
 have B0 := Lib.hid ((boxed w (.cells #[.int .i64 mode, .int .i64 (n : Int)] 23)).alloc (by simp) (.cells #[.slice none 0 0, .slice none 0 0, .slice none 0 0] 29))
 have P4 := Lib.hid (Blk.new (w.alloc (.cells #[.int .i64 mode, .int .i64 (n : Int)] 23)) 29 #[.slice none 0 0, .slice none 0 0, .slice none 0 0])
 obtain ⟨z4, hz4⟩ : ∃ z, (w.alloc (.cells #[.int .i64 mode, .int .i64 (n : Int)] 23)).heap.size = z := ⟨_, rfl⟩
 have L4 := Lib.hid (show w.heap.size ≤ z4 by rw [← hz4]; simp)
 rw [hz4] at P4
 rw [show w.heap.size + 1 = z4 by rw [← hz4]; simp]
 clear hz4
 generalize World.alloc _ _ = w2 at B0 P4 ⊢
 refine (HR.out w2 (HL.out.below B0.out |>.more B0.out.size) (HT.out.below B0.out)).mono ?_
 rintro e w3 ⟨vs, vd, vr, rfl, ho, b⟩
 obtain ⟨As, cs, rfl⟩ := ownO_form ho.sent
 obtain ⟨Ad, cd, rfl⟩ := ownO_form ho.deeds
 obtain ⟨Ar, cr, rfl⟩ := ho.rows.form
 rw [HS.out] at ho ⊢
 have B3 := Lib.hid (below_step B0.out (Nat.le_refl _) b)
 have Q4 := Lib.hid (P4.out.keep b)
 have HO := Lib.hid (ho.base B0.out.size)
 clear b ho P4 B0
 obtain ⟨Nd, hNd⟩ : ∃ N, o.deeds.length = N := ⟨_, rfl⟩
 obtain ⟨Nr, hNr⟩ : ∃ N, o.rows.length = N := ⟨_, rfl⟩
 rw [hNd, hNr] at ⊢
 go_upto_region 2 with fail
 have P := Lib.hid (show PlS w (w3.alloc (.cells #[.slice As 6 cs, .slice Ad Nd cd, .slice Ar Nr cr] 29)).drew z4 w3.heap.size (.bool false) (.slice As 6 cs) (.slice Ad Nd cd) (.slice Ar Nr cr) o from by
  have y := Blk.new w3 29 #[.slice As 6 cs, .slice Ad Nd cd, .slice Ar Nr cr]
  have bb := boxed w3 (.cells #[.slice As 6 cs, .slice Ad Nd cd, .slice Ar Nr cr] 29)
  have hb := (Below.refl (w3.alloc (.cells #[.slice As 6 cs, .slice Ad Nd cd, .slice Ar Nr cr] 29)).heap.size (w3.alloc (.cells #[.slice As 6 cs, .slice Ad Nd cd, .slice Ar Nr cr] 29))).drew
  refine ⟨below_step (below_step B3.out (Nat.le_refl _) bb) (Nat.le_refl _) hb, L4.out, (y.keep hb).cell_ 0 _ rfl, ⟨_, _, _, (Q4.out.keep bb).keep hb, fun h => (by cases h)⟩, fun e => ?_, ?_⟩
  ·have := Q4.out.lt
   omega
  ·have := (HO.out.keep bb).keep hb
   rw [← hNd, ← hNr]
   rw [← hNd, ← hNr] at this
   exact this)
 have y := (Blk.new w3 29 #[.slice As 6 cs, .slice Ad Nd cd, .slice Ar Nr cr]).drew
 have y0 := y.cell_ 0 _ rfl
 have y1 := y.cell_ 1 _ rfl
 have y2 := y.cell_ 2 _ rfl
 clear y HO Q4 B3 HL HR HT hNd hNr
 obtain ⟨z6, hz6⟩ : ∃ z, w3.heap.size = z := ⟨_, rfl⟩
 rw [hz6] at P y0 y1 y2 ⊢
 generalize World.alloc _ _ = w4 at P y0 y1 y2 ⊢
 clear hz6
 go_cut [5] (fun v wc => v = .bool true ∧ PlS w wc z4 z6 (.bool true) (.slice As 6 cs) (.slice Ad Nd cd) (.slice Ar Nr cr) o)
 case first =>
  refine region_segs [9] (by kernel_rfl) ?_
  have S0 := P
  clear P
  generalize World.drew _ = x0 at S0 y0 y1 y2 ⊢
  refine anyB_seg [0, 1, 2, 3, 4] 6 rfl (by kernel_rfl) (by kernel_rfl) (by kernel_rfl) (fun _ _ d _ _ h => by cases d <;> exact h) ?_
  simp only [pickOps, List.getElem?_toArray, List.getElem?_cons_zero, List.getElem?_cons_succ]
  go_wp2_with fail
  refine ⟨rfl, by rfl, ?_⟩
  clear y0 y1 y2
  refine anyB_two (i := 5) (j := 9) (by kernel_rfl) rfl rfl (fun K hK => ?_) (fun K hK => ?_)
  ·have c6 := S0.out.c6
   go_simp
   refine hK.out _ _ (fun _ => (Below.refl _ _)) ?_
   clear hK K
   clear c6
   have S1 := S0
   clear S0
   obtain ⟨x1, hx⟩ : ∃ x, x0 = x := ⟨_, rfl⟩
   rw [hx] at S1 ⊢
   clear hx
   refine anyB_two (i := 6) (j := 9) (by kernel_rfl) rfl rfl (fun K hK => ?_) (fun K hK => ?_)
   ·have c6 := S1.out.c6
    go_simp
    refine hK.out _ _ (fun _ => (Below.refl _ _)) ?_
    clear hK K
    clear c6
    have S2 := S1
    clear S1
    obtain ⟨x2, hx⟩ : ∃ x, x1 = x := ⟨_, rfl⟩
    rw [hx] at S2 ⊢
    clear hx
    refine anyB_seg [7] 3 rfl (by kernel_rfl) (by kernel_rfl) (by kernel_rfl) (fun _ _ d _ _ h => by cases d <;> exact h) ?_
    simp only [pickOps, List.getElem?_toArray, List.getElem?_cons_zero, List.getElem?_cons_succ]
    go_wp2_with fail
    refine ⟨rfl, by rfl, ?_⟩
    refine anyB_two (i := 8) (j := 9) (by kernel_rfl) rfl rfl (fun K hK => ?_) (fun K hK => ?_)
    ·have c6 := S2.out.c6
     go_simp
     refine hK.out _ _ (fun _ => (Below.refl _ _)) ?_
     clear hK K
     clear c6
     have S3 := S2
     clear S2
     obtain ⟨x3, hx⟩ : ∃ x, x2 = x := ⟨_, rfl⟩
     rw [hx] at S3 ⊢
     clear hx
     refine anyB_one (i := 9) (by kernel_rfl) rfl (fun K hK => ?_)
     obtain ⟨_, _, _, b4, _⟩ := S3.out.b4
     have f0 := b4.cell_ 0 _ rfl
     have f1 := b4.cell_ 1 _ rfl
     have f2 := b4.cell_ 2 _ rfl
     have ff := b4.frozen
     clear b4
     go_simp
     refine hK.out _ _ (fun h => absurd (by decide) h) ?_
     clear hK K
     clear f0 f1 f2 ff
     have S4 := Lib.hid S3.out.store
     clear S3
     generalize World.setCell _ _ _ = x4 at S4 ⊢
     refine anyB_seg [10] 0 rfl (by kernel_rfl) (by kernel_rfl) (by kernel_rfl) (fun _ _ d _ _ h => by cases d <;> exact h) ?_
     simp only [pickOps, List.getElem?_toArray, List.getElem?_cons_zero, List.getElem?_cons_succ]
     go_wp2_with fail
     refine ⟨rfl, by rfl, ?_⟩
     refine anyB_done (by kernel_rfl) ?_ _
     go_wp2_with fail
     go_meet
     exact ⟨rfl, S4.out⟩
    ·obtain ⟨_, _, _, b4, _⟩ := S2.out.b4
     have f0 := b4.cell_ 0 _ rfl
     have f1 := b4.cell_ 1 _ rfl
     have f2 := b4.cell_ 2 _ rfl
     have ff := b4.frozen
     clear b4
     go_simp
     refine hK.out _ _ (fun h => absurd (by decide) h) ?_
     clear hK K
     clear f0 f1 f2 ff
     have S3 := Lib.hid S2.out.store
     clear S2
     generalize World.setCell _ _ _ = x3 at S3 ⊢
     refine anyB_one (i := 8) (by kernel_rfl) rfl (fun K hK => ?_)
     have c6 := S3.out.c6
     go_simp
     refine hK.out _ _ (fun _ => (Below.refl _ _)) ?_
     clear hK K
     clear c6
     have S4 := S3
     clear S3
     obtain ⟨x4, hx⟩ : ∃ x, x3 = x := ⟨_, rfl⟩
     rw [hx] at S4 ⊢
     clear hx
     refine anyB_seg [10] 0 rfl (by kernel_rfl) (by kernel_rfl) (by kernel_rfl) (fun _ _ d _ _ h => by cases d <;> exact h) ?_
     simp only [pickOps, List.getElem?_toArray, List.getElem?_cons_zero, List.getElem?_cons_succ]
     go_wp2_with fail
     refine ⟨rfl, by rfl, ?_⟩
     refine anyB_done (by kernel_rfl) ?_ _
     go_wp2_with fail
     go_meet
     exact ⟨rfl, S4.out⟩
   ·obtain ⟨_, _, _, b4, _⟩ := S1.out.b4
    have f0 := b4.cell_ 0 _ rfl
    have f1 := b4.cell_ 1 _ rfl
    have f2 := b4.cell_ 2 _ rfl
    have ff := b4.frozen
    clear b4
    go_simp
    refine hK.out _ _ (fun h => absurd (by decide) h) ?_
    clear hK K
    clear f0 f1 f2 ff
    have S2 := Lib.hid S1.out.store
    clear S1
    generalize World.setCell _ _ _ = x2 at S2 ⊢
    refine anyB_one (i := 6) (by kernel_rfl) rfl (fun K hK => ?_)
    have c6 := S2.out.c6
    go_simp
    refine hK.out _ _ (fun _ => (Below.refl _ _)) ?_
    clear hK K
    clear c6
    have S3 := S2
    clear S2
    obtain ⟨x3, hx⟩ : ∃ x, x2 = x := ⟨_, rfl⟩
    rw [hx] at S3 ⊢
    clear hx
    refine anyB_seg [7] 2 rfl (by kernel_rfl) (by kernel_rfl) (by kernel_rfl) (fun _ _ d _ _ h => by cases d <;> exact h) ?_
    simp only [pickOps, List.getElem?_toArray, List.getElem?_cons_zero, List.getElem?_cons_succ]
    go_wp2_with fail
    refine ⟨rfl, by rfl, ?_⟩
    refine anyB_one (i := 8) (by kernel_rfl) rfl (fun K hK => ?_)
    have c6 := S3.out.c6
    go_simp
    refine hK.out _ _ (fun _ => (Below.refl _ _)) ?_
    clear hK K
    clear c6
    have S4 := S3
    clear S3
    obtain ⟨x4, hx⟩ : ∃ x, x3 = x := ⟨_, rfl⟩
    rw [hx] at S4 ⊢
    clear hx
    refine anyB_seg [10] 0 rfl (by kernel_rfl) (by kernel_rfl) (by kernel_rfl) (fun _ _ d _ _ h => by cases d <;> exact h) ?_
    simp only [pickOps, List.getElem?_toArray, List.getElem?_cons_zero, List.getElem?_cons_succ]
    go_wp2_with fail
    refine ⟨rfl, by rfl, ?_⟩
    refine anyB_done (by kernel_rfl) ?_ _
    go_wp2_with fail
    go_meet
    exact ⟨rfl, S4.out⟩
  ·obtain ⟨_, _, _, b4, _⟩ := S0.out.b4
   have f0 := b4.cell_ 0 _ rfl
   have f1 := b4.cell_ 1 _ rfl
   have f2 := b4.cell_ 2 _ rfl
   have ff := b4.frozen
   clear b4
   go_simp
   refine hK.out _ _ (fun h => absurd (by decide) h) ?_
   clear hK K
   clear f0 f1 f2 ff
   have S1 := Lib.hid S0.out.store
   clear S0
   generalize World.setCell _ _ _ = x1 at S1 ⊢
   refine anyB_one (i := 5) (by kernel_rfl) rfl (fun K hK => ?_)
   have c6 := S1.out.c6
   go_simp
   refine hK.out _ _ (fun _ => (Below.refl _ _)) ?_
   clear hK K
   clear c6
   have S2 := S1
   clear S1
   obtain ⟨x2, hx⟩ : ∃ x, x1 = x := ⟨_, rfl⟩
   rw [hx] at S2 ⊢
   clear hx
   refine anyB_one (i := 6) (by kernel_rfl) rfl (fun K hK => ?_)
   have c6 := S2.out.c6
   go_simp
   refine hK.out _ _ (fun _ => (Below.refl _ _)) ?_
   clear hK K
   clear c6
   have S3 := S2
   clear S2
   obtain ⟨x3, hx⟩ : ∃ x, x2 = x := ⟨_, rfl⟩
   rw [hx] at S3 ⊢
   clear hx
   refine anyB_seg [7] 2 rfl (by kernel_rfl) (by kernel_rfl) (by kernel_rfl) (fun _ _ d _ _ h => by cases d <;> exact h) ?_
   simp only [pickOps, List.getElem?_toArray, List.getElem?_cons_zero, List.getElem?_cons_succ]
   go_wp2_with fail
   refine ⟨rfl, by rfl, ?_⟩
   refine anyB_one (i := 8) (by kernel_rfl) rfl (fun K hK => ?_)
   have c6 := S3.out.c6
   go_simp
   refine hK.out _ _ (fun _ => (Below.refl _ _)) ?_
   clear hK K
   clear c6
   have S4 := S3
   clear S3
   obtain ⟨x4, hx⟩ : ∃ x, x3 = x := ⟨_, rfl⟩
   rw [hx] at S4 ⊢
   clear hx
   refine anyB_seg [10] 0 rfl (by kernel_rfl) (by kernel_rfl) (by kernel_rfl) (fun _ _ d _ _ h => by cases d <;> exact h) ?_
   simp only [pickOps, List.getElem?_toArray, List.getElem?_cons_zero, List.getElem?_cons_succ]
   go_wp2_with fail
   refine ⟨rfl, by rfl, ?_⟩
   refine anyB_done (by kernel_rfl) ?_ _
   go_wp2_with fail
   go_meet
   exact ⟨rfl, S4.out⟩

 case rest =>
  obtain ⟨rfl, P⟩ := hcut
  obtain ⟨x, y, z, b4, hx⟩ := P.b4
  obtain ⟨rfl, rfl, rfl⟩ := hx rfl
  have q0 := b4.cell_ 0 _ rfl
  have q1 := b4.cell_ 1 _ rfl
  have q2 := b4.cell_ 2 _ rfl
  go_wp2_with fail
  exact bodyPost_ret (v := .tuple #[.agg #[.slice As 6 cs, .slice Ad Nd cd, .slice Ar Nr cr], .bool true]) (by simp [results, Tryz.results26, go_sem, q0, q1, q2]) rfl ⟨_, _, _, rfl, P.out, P.hb⟩
end Go.Proofs.YtjbnfigpflambacGreatDoor
/- Plain laws, no program: where there are servers enough, a client is served at once; how long a server is kept, and how bytes are cut, does not show. -/
namespace Go.Proofs.YtjbnfigpflambacGreatDoor
structure Au where
 deeds : List De
 sent : Nat → ByteArray
 w : Wo
def auOf (y : Fr × Wo) : Au := ⟨y.1.deeds, fun i => (y.1.c i).sent, y.2⟩
def Au.tell (u : Au) (i : Nat) (a : An) : Au := ⟨u.deeds, fun j => if j = i then u.sent i ++ tellM a else u.sent j, u.w⟩
def serve (mode : Int) (i : Nat) (u : Au) (p : St × Bool) : Au :=
 if p.2 = true then u.tell i ⟨4, tNotUnd, (u.w.se i).st⟩
 else if mode = 3 ∧ p.1.k = 1 then u.tell i ⟨4, tNotMode, (u.w.se i).st⟩
 else (⟨u.deeds ++ [⟨i, p.1, (doW u.w i p.1).2⟩], u.sent, (doW u.w i p.1).1⟩ : Au).tell i (doW u.w i p.1).2
theorem sent_set {f : Fr} {i : Nat} (hi : i < f.cl.length) (x : Cl) : (fun j => ((f.set i x).c j).sent) = fun j => if j = i then x.sent else (f.c j).sent := by
 funext j
 rw [c_set f hi]
 split <;> rfl
theorem sent_same {f : Fr} {i : Nat} (hi : i < f.cl.length) {x : Cl} (h : x.sent = (f.c i).sent) : (fun j => ((f.set i x).c j).sent) = fun j => (f.c j).sent := by
 rw [sent_set hi]
 funext j
 split
 ·rename_i e; rw [e, h]
 ·rfl
theorem sent_tell {f : Fr} {i : Nat} (hi : i < f.cl.length) (a : An) : (fun j => ((f.tell i a).c j).sent) = fun j => if j = i then (f.c i).sent ++ tellM a else (f.c j).sent := sent_set hi _
theorem sent_drop {f : Fr} {i : Nat} (hi : i < f.cl.length) : (fun j => ((f.drop i).c j).sent) = fun j => (f.c j).sent := sent_same hi rfl
theorem sent_done {f : Fr} {i : Nat} (hi : i < f.cl.length) (x : St) (a : An) : (fun j => ((doneF f i x a).c j).sent) = fun j => if j = i then (f.c i).sent ++ tellM a else (f.c j).sent := by
 have h1 := sent_drop hi
 have h2 : (fun j => (((f.drop i).deed ⟨i, x, a⟩).c j).sent) = fun j => (f.c j).sent := h1
 unfold doneF
 rw [sent_tell (f := (f.drop i).deed ⟨i, x, a⟩) (by show i < (f.drop i).cl.length; rw [len_drop]; exact hi)]
 funext j
 have e1 : (((f.drop i).deed ⟨i, x, a⟩).c i).sent = (f.c i).sent := congrFun h2 i
 have e2 : (((f.drop i).deed ⟨i, x, a⟩).c j).sent = (f.c j).sent := congrFun h2 j
 rw [e1, e2]
theorem sent_free {f : Fr} {i : Nat} (hi : i < f.cl.length) : (fun j => ((f.freeS i).c j).sent) = fun j => (f.c j).sent := sent_same (x := ⟨(f.c i).bytes, (f.c i).pend, -1, (f.c i).sent⟩) hi rfl
theorem au_next {y : Fr × Wo} {i : Nat} (hi : i < y.1.cl.length) {p : St × Bool} {l : List (St × Bool)} (ep : (y.1.c i).pend = p :: l) : auOf (nextM houseB y i) = serve y.1.mode i (auOf y) p := by
 obtain ⟨x, bad⟩ := p
 unfold serve
 cases bad with
 | true =>
  rw [next_bad _ _ _ ep, if_pos rfl]
  unfold auOf Au.tell
  simp only
  rw [sent_tell (by rw [len_drop]; exact hi)]
  have h1 := sent_drop hi
  congr 1
  funext j
  have e1 : ((y.1.drop i).c i).sent = (y.1.c i).sent := congrFun h1 i
  have e2 : ((y.1.drop i).c j).sent = (y.1.c j).sent := congrFun h1 j
  rw [e1, e2]
  rfl
 | false =>
  rw [if_neg (by simp)]
  by_cases hm : y.1.mode = 3 ∧ x.k = 1
  ·rw [next_mode _ _ _ ep hm, if_pos hm]
   unfold auOf Au.tell
   simp only
   rw [sent_tell (by rw [len_drop]; exact hi)]
   have h1 := sent_drop hi
   congr 1
   funext j
   have e1 : ((y.1.drop i).c i).sent = (y.1.c i).sent := congrFun h1 i
   have e2 : ((y.1.drop i).c j).sent = (y.1.c j).sent := congrFun h1 j
   rw [e1, e2]
   rfl
  ·rw [next_act _ _ _ ep hm, if_neg hm]
   have h1 := sent_done hi x (doW y.2 i x).2
   split
   ·unfold auOf Au.tell
    simp only
    rw [sent_free (by rw [len_done]; exact hi)]
    have h1 : (fun j => ((doneF y.1 i x (houseB.act y.2 i (y.1.c i).srv.toNat x).2).c j).sent) = _ := h1
    rw [h1]
    rfl
   ·unfold auOf Au.tell
    simp only
    have h1 : (fun j => ((doneF y.1 i x (houseB.act y.2 i (y.1.c i).srv.toNat x).2).c j).sent) = _ := h1
    rw [h1]
    rfl
def Held (S : List Nat) (f : Fr) : Prop := ∀ i, i < 6 → (f.c i).srv ≠ -1 → i ∈ S
structure Lone (S : List Nat) (f : Fr) (c : Nat) : Prop where
 held : Held S f
 few : S.length ≤ f.owner.length
 once : S.Nodup
 mem : c ∈ S
 lt : c < 6
 only : ∀ j, j ≠ c → busy f j = false
 wait : f.wait = []
theorem pick_lone {f : Fr} {c : Nat} (hc : c < 6) (ho : ∀ j, j ≠ c → busy f j = false) : pickF f = if ready f c = true then some c else none := by
 have hj : ∀ j, j ≠ c → ready f j = false := fun j hj => by unfold ready; rw [ho j hj]; rfl
 unfold pickF
 cases hr : ready f c with
 | false =>
  rw [if_neg (by simp), List.find?_eq_none]
  intro j _ h
  by_cases e : j = c
  ·rw [e, hr] at h; cases h
  ·rw [hj j e] at h; cases h
 | true =>
  rw [if_pos rfl]
  have h6 : c = 0 ∨ c = 1 ∨ c = 2 ∨ c = 3 ∨ c = 4 ∨ c = 5 := by omega
  have e6 : List.range 6 = [0, 1, 2, 3, 4, 5] := rfl
  rw [e6]
  rcases h6 with rfl | rfl | rfl | rfl | rfl | rfl <;> simp [hr, hj]
theorem queue_lone {f : Fr} {c : Nat} (hc : c < 6) (ho : ∀ j, j ≠ c → busy f j = false) (hw : f.wait = []) : (queueF f).wait = if busy f c = true then [c] else [] := by
 show f.wait ++ (List.range 6).filter (fun i => busy f i && !f.wait.contains i) = _
 rw [hw, List.nil_append]
 have e6 : List.range 6 = [0, 1, 2, 3, 4, 5] := rfl
 rw [e6]
 have h6 : c = 0 ∨ c = 1 ∨ c = 2 ∨ c = 3 ∨ c = 4 ∨ c = 5 := by omega
 cases hb : busy f c with
 | true => rcases h6 with rfl | rfl | rfl | rfl | rfl | rfl <;> simp [hb, ho]
 | false => rcases h6 with rfl | rfl | rfl | rfl | rfl | rfl <;> simp [hb, ho]
theorem idle_some {S : List Nat} {f : Fr} (hf : FI f) {c : Nat} (h : Lone S f c) (hs : (f.c c).srv = -1) : ∃ s, idleF f.owner = some s := by
 rcases e : idleF f.owner with _ | s
 ·exfalso
  have hall : ∀ s, s < f.owner.length → f.owner.getD s 0 ≠ -1 := by
   intro s hs h1
   exact List.find?_eq_none.1 e s (List.mem_range.2 hs) (by rw [h1]; rfl)
  -- the owners are clients of S without c, each once
  have hat : ∀ s, s < f.owner.length → ∃ i : Nat, i < 6 ∧ f.owner.getD s 0 = (i : Int) ∧ (f.c i).srv = (s : Int) := by
   intro s hs
   rcases hf.fo.ow s hs with e | h
   ·exact absurd e (hall s hs)
   ·exact h
  have hsub : f.owner ⊆ (S.erase c).map Int.ofNat := by
   intro x hx
   obtain ⟨s, hs', rfl⟩ := List.getElem_of_mem hx
   obtain ⟨i, hi, h1, h2⟩ := hat s hs'
   rw [getD_at hs'] at h1
   rw [h1]
   refine List.mem_map.2 ⟨i, ?_, rfl⟩
   have hic : i ≠ c := by rintro rfl; omega
   exact (h.once.mem_erase_iff).2 ⟨hic, h.held i hi (by omega)⟩
  have hnd : f.owner.Nodup := by
   unfold List.Nodup
   refine List.pairwise_iff_getElem.2 fun s t hs' ht hst heq => ?_
   obtain ⟨i, hi, h1, h2⟩ := hat s hs'
   obtain ⟨j, hj, h3, h4⟩ := hat t ht
   rw [getD_at hs'] at h1
   rw [getD_at ht] at h3
   have hij : i = j := by omega
   subst hij
   omega
  have hle := hnd.length_le_of_subset hsub
  rw [List.length_map, List.length_erase_of_mem h.mem] at hle
  have hpos : 0 < S.length := List.length_pos_of_mem h.mem
  have := h.few
  omega
 ·exact ⟨s, rfl⟩
structure Served (S : List Nat) (f : Fr) (w : Wo) (c : Nat) (l : List (St × Bool)) : Prop where
 au : auOf (pumpM houseB (f, w)) = l.foldl (serve f.mode c) (auOf (f, w))
 calm : ∀ j, busy (pumpM houseB (f, w)).1 j = false
 wait : (pumpM houseB (f, w)).1.wait = []
 held : Held S (pumpM houseB (f, w)).1
 owner : (pumpM houseB (f, w)).1.owner.length = f.owner.length
 mode : (pumpM houseB (f, w)).1.mode = f.mode
theorem busy_next {y : Fr × Wo} {i : Nat} (hi : i < y.1.cl.length) {p : St × Bool} {l : List (St × Bool)} (ep : (y.1.c i).pend = p :: l) (j : Nat) : ((nextM houseB y i).1.c j).pend = (if j = i then l else (y.1.c j).pend) ∧ (((nextM houseB y i).1.c j).srv = (y.1.c j).srv ∨ ((nextM houseB y i).1.c j).srv = -1) ∧
  (nextM houseB y i).1.wait = y.1.wait ∧ (nextM houseB y i).1.owner.length = y.1.owner.length ∧ (nextM houseB y i).1.mode = y.1.mode := by
 have hd : ∀ j, ((y.1.drop i).c j).pend = (if j = i then l else (y.1.c j).pend) ∧ ((y.1.drop i).c j).srv = (y.1.c j).srv := by
  intro j
  unfold Fr.drop
  rw [c_set _ hi]
  by_cases e : j = i
  ·subst e; rw [if_pos rfl, if_pos rfl]; exact ⟨by rw [ep]; rfl, rfl⟩
  ·rw [if_neg e, if_neg e]; exact ⟨rfl, rfl⟩
 have ht : ∀ (f : Fr) (a : An), i < f.cl.length → ((f.tell i a).c j).pend = (f.c j).pend ∧ ((f.tell i a).c j).srv = (f.c j).srv := by
  intro f a hf
  unfold Fr.tell
  rw [c_set _ hf]
  by_cases e : j = i
  ·subst e; rw [if_pos rfl]; exact ⟨rfl, rfl⟩
  ·rw [if_neg e]; exact ⟨rfl, rfl⟩
 have hld : i < (y.1.drop i).cl.length := by rw [len_drop]; exact hi
 obtain ⟨x, bad⟩ := p
 cases bad with
 | true =>
  rw [next_bad _ _ _ ep]
  obtain ⟨h1, h2⟩ := ht (y.1.drop i) ⟨4, tNotUnd, houseB.st y.2 i⟩ hld
  exact ⟨h1.trans (hd j).1, .inl (h2.trans (hd j).2), rfl, rfl, rfl⟩
 | false =>
  by_cases hm : y.1.mode = 3 ∧ x.k = 1
  ·rw [next_mode _ _ _ ep hm]
   obtain ⟨h1, h2⟩ := ht (y.1.drop i) ⟨4, tNotMode, houseB.st y.2 i⟩ hld
   exact ⟨h1.trans (hd j).1, .inl (h2.trans (hd j).2), rfl, rfl, rfl⟩
  ·rw [next_act _ _ _ ep hm]
   generalize houseB.act y.2 i (y.1.c i).srv.toNat x = r
   have h0 : ((doneF y.1 i x r.2).c j).pend = (if j = i then l else (y.1.c j).pend) ∧ ((doneF y.1 i x r.2).c j).srv = (y.1.c j).srv := by
    obtain ⟨h1, h2⟩ := ht ((y.1.drop i).deed ⟨i, x, r.2⟩) r.2 hld
    exact ⟨h1.trans (hd j).1, h2.trans (hd j).2⟩
   split
   ·have hl : i < (doneF y.1 i x r.2).cl.length := by rw [len_done]; exact hi
    have hc : ((doneF y.1 i x r.2).freeS i).c j = if j = i then ⟨((doneF y.1 i x r.2).c i).bytes, ((doneF y.1 i x r.2).c i).pend, -1, ((doneF y.1 i x r.2).c i).sent⟩ else (doneF y.1 i x r.2).c j := c_set _ hl _ j
    refine ⟨?_, ?_, rfl, List.length_set, rfl⟩
    ·simp only
     rw [hc]
     by_cases e : j = i
     ·subst e; rw [if_pos rfl]; exact h0.1
     ·rw [if_neg e]; exact h0.1
    ·simp only
     rw [hc]
     by_cases e : j = i
     ·subst e; rw [if_pos rfl]; exact .inr rfl
     ·rw [if_neg e]; exact .inl h0.2
   ·exact ⟨h0.1, .inl h0.2, rfl, rfl, rfl⟩
theorem busy_nil {f : Fr} {j : Nat} (h : (f.c j).pend = []) : busy f j = false := by unfold busy; rw [h]; rfl
theorem served (S : List Nat) (c : Nat) : ∀ (l : List (St × Bool)) {z : Fr × PB} {f : Fr} {w : Wo}, Sim z (f, w) → Lone S f c → (f.c c).pend = l → Served S f w c l := by
 intro l
 induction l with
 | nil =>
  intro z f w h hl ep
  have hb : ∀ j, busy f j = false := fun j => by
   by_cases e : j = c
   ·rw [e]; exact busy_nil ep
   ·exact hl.only j e
  have hr : ready f c = false := by unfold ready; rw [hb]; rfl
  have hp : pickF f = none := by rw [pick_lone hl.lt hl.only, hr]; rfl
  have hq : (queueF f).wait = [] := by rw [queue_lone hl.lt hl.only hl.wait, hb]; rfl
  have hs : stepM houseB (f, w) = ((queueF f, w), false) := step_stop houseB (f, w) hp (.inl hq)
  have hend : pumpM houseB (f, w) = (queueF f, w) := by rw [pump_end _ _ (by rw [hs]), hs]
  refine ⟨?_, ?_, ?_, ?_, ?_, ?_⟩ <;> rw [hend]
  ·rfl
  ·exact hb
  ·exact hq
  ·exact hl.held
  ·rfl
  ·rfl
 | cons p l ih =>
  have hgo : ∀ {z : Fr × PB} {f : Fr} {w : Wo}, Sim z (f, w) → Lone S f c → (f.c c).pend = p :: l → ready f c = true → Served S f w c (p :: l) := by
   intro z f w h hl ep hr
   have h6 : f.cl.length = 6 := by have := h.fi.six; rw [h.front] at this; exact this
   have hcl : c < f.cl.length := by rw [h6]; exact hl.lt
   have hp : pickF f = some c := by rw [pick_lone hl.lt hl.only, hr]; rfl
   have hs : stepM houseB (f, w) = (nextM houseB (f, w) c, true) := step_next houseB (f, w) hp
   have hb := busy_next (y := (f, w)) (i := c) hcl ep
   have hau := au_next (y := (f, w)) (i := c) hcl ep
   have hsim := (step_sim h).1
   rw [hs] at hsim
   simp only at hsim
   have hgo : pumpM houseB (f, w) = pumpM houseB (nextM houseB (f, w) c) := by rw [pump_go _ _ (by rw [hs]), hs]
   rcases hn : nextM houseB (f, w) c with ⟨f', w'⟩
   rw [hn] at hb hau hsim hgo
   simp only at hb
   have hl' : Lone S f' c := by
    refine ⟨fun i hi hne => ?_, by rw [(hb c).2.2.2.1]; exact hl.few, hl.once, hl.mem, hl.lt, fun j hj => ?_, by rw [(hb c).2.2.1]; exact hl.wait⟩
    ·rcases (hb i).2.1 with e | e
     ·rw [e] at hne; exact hl.held i hi hne
     ·exact absurd e hne
    ·have := (hb j).1
     rw [if_neg hj] at this
     have h2 := hl.only j hj
     unfold busy at h2 ⊢
     rw [this]
     exact h2
   have hpe : (f'.c c).pend = l := by have := (hb c).1; rw [if_pos rfl] at this; exact this
   have k := ih hsim hl' hpe
   refine ⟨?_, ?_, ?_, ?_, ?_, ?_⟩ <;> rw [hgo]
   ·rw [k.au, hau, (hb c).2.2.2.2]
    rfl
   ·exact k.calm
   ·exact k.wait
   ·exact k.held
   ·rw [k.owner]; exact (hb c).2.2.2.1
   ·rw [k.mode]; exact (hb c).2.2.2.2
  intro z f w h hl ep
  cases hr : ready f c with
  | true => exact hgo h hl ep hr
  | false =>
   have hfi : FI f := by have := h.fi; rw [h.front] at this; exact this
   have hcl : c < f.cl.length := by rw [hfi.six]; exact hl.lt
   have hbz : busy f c = true := by unfold busy; rw [ep]; rfl
   have hsv : (f.c c).srv = -1 := by
    rcases hfi.fo.cl c hl.lt with e | ⟨s, _, e, _⟩
    ·exact e
    ·exfalso
     have e : (f.c c).srv = (s : Int) := e
     unfold ready at hr
     rw [hbz, e] at hr
     simp at hr
   have hp : pickF f = none := by rw [pick_lone hl.lt hl.only, hr]; rfl
   have hq : (queueF f).wait = [c] := by rw [queue_lone hl.lt hl.only hl.wait, hbz]; rfl
   obtain ⟨s, hs⟩ := idle_some hfi hl hsv
   have hst : stepM houseB (f, w) = (((queueF f).unwait.bindS s c, w), true) := step_bind houseB (f, w) hp hq hs
   have hsim := (step_sim h).1
   rw [hst] at hsim
   simp only at hsim
   have hgo' : pumpM houseB (f, w) = pumpM houseB ((queueF f).unwait.bindS s c, w) := by rw [pump_go _ _ (by rw [hst]), hst]
   have hc : ∀ j, ((queueF f).unwait.bindS s c).c j = if j = c then ⟨(f.c c).bytes, (f.c c).pend, (s : Int), (f.c c).sent⟩ else f.c j := fun j => c_set f hcl _ j
   have hl' : Lone S ((queueF f).unwait.bindS s c) c := by
    refine ⟨fun i hi hne => ?_, by show S.length ≤ (f.owner.set s (c : Int)).length; rw [List.length_set]; exact hl.few, hl.once, hl.mem, hl.lt, fun j hj => ?_, by show (queueF f).wait.tail = []; rw [hq]; rfl⟩
    ·rw [hc] at hne
     by_cases e : i = c
     ·rw [e]; exact hl.mem
     ·rw [if_neg e] at hne
      exact hl.held i hi hne
    ·have h2 := hl.only j hj
     unfold busy at h2 ⊢
     rw [hc, if_neg hj]
     exact h2
   have hpe : (((queueF f).unwait.bindS s c).c c).pend = p :: l := by rw [hc, if_pos rfl]; exact ep
   have hrd : ready ((queueF f).unwait.bindS s c) c = true := by
    have hb2 : busy ((queueF f).unwait.bindS s c) c = true := by unfold busy; rw [hpe]; rfl
    unfold ready
    rw [hb2, hc, if_pos rfl]
    simp
   have k := hgo hsim hl' hpe hrd
   have hau : auOf ((queueF f).unwait.bindS s c, w) = auOf (f, w) := by
    unfold auOf
    simp only
    have : (fun i => (((queueF f).unwait.bindS s c).c i).sent) = fun i => (f.c i).sent := sent_same (x := ⟨(f.c c).bytes, (f.c c).pend, (s : Int), (f.c c).sent⟩) hcl rfl
    rw [this]
    rfl
   refine ⟨?_, ?_, ?_, ?_, ?_, ?_⟩ <;> rw [hgo']
   ·rw [k.au, hau]; rfl
   ·exact k.calm
   ·exact k.wait
   ·exact k.held
   ·rw [k.owner]; exact List.length_set
   ·rw [k.mode]; rfl
end Go.Proofs.YtjbnfigpflambacGreatDoor
/- Plain laws, no program: with servers enough, an act is done at once; TopModes and TopCuts. -/
namespace Go.Proofs.YtjbnfigpflambacGreatDoor
def feedB (b : ByteArray) : List (St × Bool) × ByteArray × Bool :=
 if _h : wholeB b = true then
  if kindAt b = 88 then ([], restAt b, true) else (askedOf b :: (feedB (restAt b)).1, (feedB (restAt b)).2)
 else ([], b, false)
termination_by b.size
decreasing_by all_goals exact rest_lt _h
theorem feedB_no {b : ByteArray} (h : wholeB b = false) : feedB b = ([], b, false) := by rw [feedB, dif_neg (by rw [h]; simp)]
theorem feedB_x {b : ByteArray} (h : wholeB b = true) (hk : kindAt b = 88) : feedB b = ([], restAt b, true) := by rw [feedB, dif_pos h, if_pos hk]
theorem feedB_go {b : ByteArray} (h : wholeB b = true) (hk : kindAt b ≠ 88) : feedB b = (askedOf b :: (feedB (restAt b)).1, (feedB (restAt b)).2) := by rw [feedB, dif_pos h, if_neg hk]
theorem feedC_eq (x : Cl) : feedC x = (⟨(feedB x.bytes).2.1, x.pend ++ (feedB x.bytes).1, x.srv, x.sent⟩, (feedB x.bytes).2.2) := by
 induction hn : x.bytes.size using Nat.strongRecOn generalizing x with
 | ind n ih =>
  rw [feedC]
  by_cases hw : wholeB x.bytes = true
  ·rw [dif_pos hw]
   by_cases hk : kindAt x.bytes = 88
   ·rw [if_pos hk, feedB_x hw hk]
    simp
   ·rw [if_neg hk, feedB_go hw hk, ih _ (by rw [← hn]; exact rest_lt hw) ⟨restAt x.bytes, x.pend ++ [askedOf x.bytes], x.srv, x.sent⟩ rfl]
    simp
  ·rw [dif_neg hw, feedB_no (by simpa using hw)]
   simp
structure Av where
 u : Au
 bytes : Nat → ByteArray
def avOf (y : Fr × Wo) : Av := ⟨auOf y, fun i => (y.1.c i).bytes⟩
def Av.leave (v : Av) (i : Nat) : Av := ⟨⟨v.u.deeds, v.u.sent, v.u.w.put i Se.new⟩, fun j => if j = i then ⟨#[]⟩ else v.bytes j⟩
def Av.fed (mode : Int) (v : Av) (i : Nat) (data : ByteArray) : Av := ⟨(feedB (v.bytes i ++ data)).1.foldl (serve mode i) v.u, fun j => if j = i then (feedB (v.bytes i ++ data)).2.1 else v.bytes j⟩
def actV (mode : Int) (v : Av) (a : Ac) : Av :=
 if a.kind = 2 then v.leave a.c.toNat
 else if (feedB (v.bytes a.c.toNat ++ a.data)).2.2 = true then (v.fed mode a.c.toNat a.data).leave a.c.toNat else v.fed mode a.c.toNat a.data
structure AtRest (S : List Nat) (f : Fr) : Prop where
 held : Held S f
 few : S.length ≤ f.owner.length
 once : S.Nodup
 idle : ∀ j, busy f j = false
 wait : f.wait = []
theorem bytes_pump (y : Fr × Wo) : (fun i => ((pumpM houseB y).1.c i).bytes) = fun i => (y.1.c i).bytes := by
 funext i
 exact pump_bytes houseB y i
theorem pump_lone {S : List Nat} {z : Fr × PB} {f : Fr} {w : Wo} (h : Sim z (f, w)) {c : Nat} (hl : Lone S f c) :
  avOf (pumpM houseB (f, w)) = ⟨(f.c c).pend.foldl (serve f.mode c) (auOf (f, w)), fun i => (f.c i).bytes⟩ ∧ AtRest S (pumpM houseB (f, w)).1 ∧ (pumpM houseB (f, w)).1.mode = f.mode := by
 have k := served S c _ h hl rfl
 refine ⟨?_, ⟨k.held, by rw [k.owner]; exact hl.few, hl.once, k.calm, k.wait⟩, k.mode⟩
 unfold avOf
 rw [k.au, bytes_pump]
theorem pend_of_calm {f : Fr} {c : Nat} (h : busy f c = false) : (f.c c).pend = [] := by
 unfold busy at h
 simpa using h
theorem close_calm {S : List Nat} {z : Fr × PB} {f : Fr} {w : Wo} (h : Sim z (f, w)) (k : AtRest S f) {c : Nat} (hm : c ∈ S) (h6 : c < 6) :
  avOf (pumpM houseB (closeM houseB (f, w) c)) = (avOf (f, w)).leave c ∧ AtRest S (pumpM houseB (closeM houseB (f, w) c)).1 ∧ (pumpM houseB (closeM houseB (f, w) c)).1.mode = f.mode := by
 have hfi : FI f := by have := h.fi; rw [h.front] at this; exact this
 have hl : c < f.cl.length := by rw [hfi.six]; exact h6
 have hs := h.close h6
 have hc : ∀ j, (closeM houseB (f, w) c).1.c j = if j = c then ⟨⟨#[]⟩, [], -1, (f.c c).sent⟩ else f.c j := fun j => c_set f hl _ j
 have hau : auOf (closeM houseB (f, w) c) = ⟨f.deeds, fun i => (f.c i).sent, w.put c Se.new⟩ := by
  unfold auOf
  have : (fun i => ((closeM houseB (f, w) c).1.c i).sent) = fun i => (f.c i).sent := sent_same (x := ⟨⟨#[]⟩, [], -1, (f.c c).sent⟩) hl rfl
  rw [this]
  rfl
 have hmode : (closeM houseB (f, w) c).1.mode = f.mode := rfl
 have hown : (closeM houseB (f, w) c).1.owner.length = f.owner.length := by
  show (if 0 ≤ (f.c c).srv then f.owner.set (f.c c).srv.toNat (-1) else f.owner).length = _
  split
  ·exact List.length_set
  ·rfl
 have hwait : (closeM houseB (f, w) c).1.wait = [] := by
  show f.wait.filter _ = []
  rw [k.wait]
  rfl
 generalize closeM houseB (f, w) c = y at *
 obtain ⟨f', w'⟩ := y
 simp only at hc hau hmode hown hwait
 have hlo : Lone S f' c := by
  refine ⟨fun i hi hne => ?_, by rw [hown]; exact k.few, k.once, hm, h6, fun j hj => ?_, hwait⟩
  ·rw [hc] at hne
   by_cases e : i = c
   ·rw [e]; exact hm
   ·rw [if_neg e] at hne
    exact k.held i hi hne
  ·have := k.idle j
   unfold busy at this ⊢
   rw [hc, if_neg hj]
   exact this
 obtain ⟨p1, p2, p3⟩ := pump_lone hs hlo
 refine ⟨?_, p2, p3.trans hmode⟩
 rw [p1, hc, if_pos rfl, hau]
 unfold Av.leave avOf auOf
 simp only [List.foldl_nil]
 congr 1
 funext j
 rw [hc]
 by_cases e : j = c
 ·rw [if_pos e, if_pos e]
 ·rw [if_neg e, if_neg e]
theorem act_calm {S : List Nat} {z : Fr × PB} {f : Fr} {w : Wo} (h : Sim z (f, w)) (k : AtRest S f) {a : Ac} (hm : a.c.toNat ∈ S) (h6 : a.c.toNat < 6) :
  avOf (actM houseB (f, w) a) = actV f.mode (avOf (f, w)) a ∧ AtRest S (actM houseB (f, w) a).1 ∧ (actM houseB (f, w) a).1.mode = f.mode := by
 have hfi : FI f := by have := h.fi; rw [h.front] at this; exact this
 have hl : a.c.toNat < f.cl.length := by rw [hfi.six]; exact h6
 unfold actM actV
 by_cases h2 : a.kind = 2
 ·rw [if_pos h2, if_pos h2]
  exact close_calm h k hm h6
 ·rw [if_neg h2, if_neg h2]
  generalize a.c.toNat = c at *
  have hp := h.pour h6 a.data
  have hpc : pourC (f.c c) a.data = (⟨(feedB ((f.c c).bytes ++ a.data)).2.1, (f.c c).pend ++ (feedB ((f.c c).bytes ++ a.data)).1, (f.c c).srv, (f.c c).sent⟩, (feedB ((f.c c).bytes ++ a.data)).2.2) := feedC_eq _
  rw [pend_of_calm (k.idle c), List.nil_append] at hpc
  have hav : (avOf (f, w)).bytes c = (f.c c).bytes := rfl
  rw [hav]
  unfold deliverM
  simp only
  rw [hpc]
  have hp' : Sim (z.1.set c (pourC (z.1.c c) a.data).1, z.2) (f.set c ⟨(feedB ((f.c c).bytes ++ a.data)).2.1, (feedB ((f.c c).bytes ++ a.data)).1, (f.c c).srv, (f.c c).sent⟩, w) := by
   have := hp
   simp only at this
   rw [hpc] at this
   exact this
  have hc : ∀ j, (f.set c ⟨(feedB ((f.c c).bytes ++ a.data)).2.1, (feedB ((f.c c).bytes ++ a.data)).1, (f.c c).srv, (f.c c).sent⟩).c j = if j = c then ⟨(feedB ((f.c c).bytes ++ a.data)).2.1, (feedB ((f.c c).bytes ++ a.data)).1, (f.c c).srv, (f.c c).sent⟩ else f.c j := fun j => c_set f hl _ j
  have hau : auOf (f.set c ⟨(feedB ((f.c c).bytes ++ a.data)).2.1, (feedB ((f.c c).bytes ++ a.data)).1, (f.c c).srv, (f.c c).sent⟩, w) = auOf (f, w) := by
   unfold auOf
   have : (fun i => ((f.set c ⟨(feedB ((f.c c).bytes ++ a.data)).2.1, (feedB ((f.c c).bytes ++ a.data)).1, (f.c c).srv, (f.c c).sent⟩).c i).sent) = fun i => (f.c i).sent := sent_same hl rfl
   simp only
   rw [this]
   rfl
  have hfed : (avOf (f, w)).fed f.mode c a.data = ⟨(feedB ((f.c c).bytes ++ a.data)).1.foldl (serve f.mode c) (auOf (f, w)), fun j => if j = c then (feedB ((f.c c).bytes ++ a.data)).2.1 else (f.c j).bytes⟩ := rfl
  have hlo : Lone S (f.set c ⟨(feedB ((f.c c).bytes ++ a.data)).2.1, (feedB ((f.c c).bytes ++ a.data)).1, (f.c c).srv, (f.c c).sent⟩) c := by
   refine ⟨fun i hi hne => ?_, k.few, k.once, hm, h6, fun j hj => ?_, k.wait⟩
   ·rw [hc] at hne
    by_cases e : i = c
    ·rw [e]; exact hm
    ·rw [if_neg e] at hne
     exact k.held i hi hne
   ·have := k.idle j
    unfold busy at this ⊢
    rw [hc, if_neg hj]
    exact this
  generalize hx : (⟨(feedB ((f.c c).bytes ++ a.data)).2.1, (feedB ((f.c c).bytes ++ a.data)).1, (f.c c).srv, (f.c c).sent⟩ : Cl) = x at *
  obtain ⟨p1, p2, p3⟩ := pump_lone hp' hlo
  have hfin : avOf (pumpM houseB (f.set c x, w)) = (avOf (f, w)).fed f.mode c a.data := by
   rw [p1, hau, hfed, hc, if_pos rfl]
   have e1 : x.pend = (feedB ((f.c c).bytes ++ a.data)).1 := by rw [← hx]
   rw [e1]
   congr 1
   funext j
   rw [hc]
   by_cases e : j = c
   ·rw [if_pos e, if_pos e, ← hx]
   ·rw [if_neg e, if_neg e]
  have hm2 : (f.set c x).mode = f.mode := rfl
  by_cases hb : (feedB ((f.c c).bytes ++ a.data)).2.2 = true
  ·rw [if_pos hb, if_pos hb]
   rcases hpu : pumpM houseB (f.set c x, w) with ⟨f', w'⟩
   have hs' := hp'.pump
   rw [hpu] at hfin p2 p3 hs'
   obtain ⟨q1, q2, q3⟩ := close_calm hs' p2 hm h6
   refine ⟨by rw [q1, hfin], q2, q3.trans p3⟩
  ·rw [if_neg hb, if_neg hb]
   exact ⟨hfin, p2, p3⟩
theorem run_calm {S : List Nat} : ∀ (l : List Ac) {z : Fr × PB} {f : Fr} {w : Wo}, (∀ a ∈ l, a.c.toNat ∈ S ∧ a.c.toNat < 6) → Sim z (f, w) → AtRest S f → avOf (runM houseB (f, w) l) = l.foldl (actV f.mode) (avOf (f, w))
 | [], _, _, _, _, _, _ => rfl
 | a :: l, z, f, w, hl, h, k => by
  obtain ⟨h1, h2⟩ := hl a List.mem_cons_self
  obtain ⟨p1, p2, p3⟩ := act_calm h k h1 h2
  have hs := h.actM (a := a) h2
  show avOf (runM houseB (actM houseB (f, w) a) l) = _
  rcases hy : actM houseB (f, w) a with ⟨f', w'⟩
  rw [hy] at p1 p2 p3 hs
  rw [run_calm l (fun x hx => hl x (List.mem_cons_of_mem _ hx)) hs p2, p1]
  have p3 : f'.mode = f.mode := p3
  rw [p3]
  rfl
end Go.Proofs.YtjbnfigpflambacGreatDoor
/- Plain laws, no program: every row was written by a client that was answered so; a client gets its own settings alone. -/
namespace Go.Proofs.YtjbnfigpflambacGreatDoor
def Wrote (ds : List De) (p : Pr) : Prop := ∃ d ∈ ds, d.a.kind = 1 ∧ ((d.x.k = 10 ∧ d.x.key = p.k ∧ d.x.val = p.v) ∨ d.x.k = 8)
theorem Wrote.more {ds : List De} {p : Pr} (h : Wrote ds p) (l : List De) : Wrote (ds ++ l) p := by
 obtain ⟨d, hd, h⟩ := h
 exact ⟨d, List.mem_append_left _ hd, h⟩
def SetBy (ds : List De) (j : Nat) (p : Pr) : Prop := ∃ d ∈ ds, d.c = j ∧ d.x.k = 9 ∧ d.x.key = p.k ∧ d.x.val = p.v ∧ d.a.kind = 1
theorem SetBy.more {ds : List De} {j : Nat} {p : Pr} (h : SetBy ds j p) (l : List De) : SetBy (ds ++ l) j p := by
 obtain ⟨d, hd, h⟩ := h
 exact ⟨d, List.mem_append_left _ hd, h⟩
def Fair (ds : List De) : Prop := ∀ l1 d l2, ds = l1 ++ d :: l2 → d.x.k = 6 → d.a.kind = 2 → SetBy l1 d.c ⟨d.x.key, d.a.text⟩
theorem Fair.snoc {ds : List De} (h : Fair ds) (d : De) (hd : d.x.k = 6 → d.a.kind = 2 → SetBy ds d.c ⟨d.x.key, d.a.text⟩) : Fair (ds ++ [d]) := by
 intro l1 e l2 he h6 h2
 rcases List.append_eq_append_iff.1 he with ⟨m, e1, e2⟩ | ⟨m, e1, e2⟩
 ·rcases m with _ | ⟨a, m⟩
  ·simp only [List.nil_append, List.append_nil, List.cons.injEq] at e1 e2
   rw [e1, ← e2.1]
   rw [← e2.1] at h6 h2
   exact hd h6 h2
  ·simp at e2
 ·rcases m with _ | ⟨a, m⟩
  ·simp only [List.nil_append, List.append_nil, List.cons.injEq] at e1 e2
   rw [← e1, e2.1]
   rw [e2.1] at h6 h2
   exact hd h6 h2
  ·simp only [List.cons_append, List.cons.injEq] at e2
   rw [← e2.1] at e1
   exact h l1 e m e1 h6 h2
end Go.Proofs.YtjbnfigpflambacGreatDoor
/- The pool's outcome is the house's. -/
namespace Go.Proofs.YtjbnfigpflambacGreatDoor
open Go.RowKit
theorem fair_c {m : Nat} (h6 : m ≤ 6) {l : List Ac} (h : ∀ a ∈ l, AcFair m a) : ∀ a ∈ l, a.c.toNat < 6 := fun a ha => by
 have := (h a ha).lt
 have := (h a ha).ok.c0
 omega
theorem fair_ok {m : Nat} {l : List Ac} (h : ∀ a ∈ l, AcFair m a) : ∀ a ∈ l, AcOk a := fun a ha => (h a ha).ok
noncomputable def outH (y : Fr × Wo) : Outc := ⟨(List.range 6).map fun c => (y.1.c c).sent, y.1.deeds, y.2.rows⟩
theorem out_house (mode : Int) (n : Nat) (hn : n ≤ 8) (l : List Ac) (hl : ∀ a ∈ l, a.c.toNat < 6) : outM mode n l = outH (runM houseB (startF mode n, startH) l) := by
 have h := run_sim mode n hn l hl
 unfold outM outH
 rw [h.front, h.rb.rows]
end Go.Proofs.YtjbnfigpflambacGreatDoor
