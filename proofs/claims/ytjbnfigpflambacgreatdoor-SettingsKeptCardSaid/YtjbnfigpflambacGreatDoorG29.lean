/- pool.Run's end: the outcome is gathered. (pool).next: its walk. say.Unpack and the reference's UnpackedOf: what each returns. -/
import Derived.Test.YtjbnfigpflambacGreatDoorG01
import Derived.Test.YtjbnfigpflambacGreatDoorG05
import Derived.Test.YtjbnfigpflambacGreatDoorG23
import Derived.Test.YtjbnfigpflambacGreatDoorG25
import Derived.Test.YtjbnfigpflambacGreatDoorG27
import Derived.Test.YtjbnfigpflambacGreatDoorG28
import Derived.Deep.QuietTactic
import Derived.BigQuiet
/- pool.Run's end: the outcome is gathered. -/
namespace Go.Proofs.YtjbnfigpflambacGreatDoor
open Go.ChangeShapes Go.WideShapes Go.ChangeAt Go.RowKit
structure RO (w wx : World) : Prop where
 bel : Below w.heap.size w wx
 out : Blk wx (w.heap.size + 1) 29 #[.slice none 0 0, .slice none 0 0, .slice none 0 0]
theorem ty_out (r : Role) : r.ty ≠ 29 := by cases r <;> simp [Role.ty]
theorem RO.turn {w x wx : World} {p : Nat} {V V' : PV} {ks : List KV} {M : MV} (h : RO w x) (r : PoolR x w.heap.size p V ks M) (t : Turn p x V wx V') : RO w wx :=
 ⟨h.bel.trans (t.bel h.bel.size fun _ hk => (r.o.lt hk).1), t.box h.out (r.o.notBox h.out ty_out)⟩
theorem RO.keep {w x wx : World} (h : RO w x) (hb : Below x.heap.size x wx) : RO w wx := ⟨below_step h.bel (Nat.le_refl _) hb, h.out.keep hb⟩
theorem OwnO.ofKeeps {w w' : World} {B : Nat} {e : TypeId} {size n : Nat} {v : Value} {xs : List Value} (h : OwnO w B e size v n xs) (k : Keeps e w w') : OwnO w' B e size v n xs :=
 h.keep fun g hg => by
  obtain ⟨cs, b⟩ := h.row g hg
  exact (k g cs (0, 0) b).trans b.symm
theorem Blk.ofKeeps {w w' : World} {q : Nat} {t : TypeId} {cs : Array Value} (h : Blk w q t cs) (k : Keeps t w w') : Blk w' q t cs := k q cs (0, 0) h
theorem OwnO.grow {w w' : World} {B : Nat} {e : TypeId} {size n : Nat} {v : Value} {xs : List Value} (h : OwnO w B e size v n xs) (g : w.grownBy w' v.ownBlock) {t : TypeId} (hne : e ≠ t) : Keeps t w w' :=
 Keeps.grown g (fun q hq => by obtain ⟨cs, b⟩ := h.row q hq; exact ⟨cs, (0, 0), b⟩) hne
theorem OwnO.bel {w0 w w' : World} {B : Nat} {e : TypeId} {size n : Nat} {v : Value} {xs : List Value} (h : OwnO w B e size v n xs) (g : w.grownBy w' v.ownBlock) (hb : Below B w0 w) (hB : B ≤ w.heap.size) : Below B w0 w' :=
 hb.trans ⟨g.os, g.tape, g.output, g.size, fun k hk => g.block k (by omega) fun e => by have := (h.lt k e.symm).1; omega⟩
structure RunE (w0 wx : World) (p : Nat) (V : PV) (M : MV) (z b s : Nat) (vs vr : Value) : Prop where
 ro : RO w0 wx
 pb : PoolB wx p M V
 buf : ∀ j, b ≤ j → j < 6 → OwnO wx w0.heap.size 5 1 (V.buf j) (M.sent j).size (Lib.strCells (M.sent j))
 ap : ∀ i j k, i < 6 → j < 6 → i ≠ j → (V.buf i).ownBlock = some k → (V.buf j).ownBlock ≠ some k
 deeds : OwnO wx w0.heap.size 71 7 V.deeds M.deeds.length (deV M.deeds)
 rows : OPL wx w0.heap.size vr M.w.rows
 box : Blk wx z 29 #[vs, V.deeds, vr]
 sent : OwnO wx w0.heap.size 9 1 vs s ((List.range s).map fun c => .string (M.sent c))
 ne : z ≠ w0.heap.size + 1
 zl : w0.heap.size ≤ z
section
variable {w0 wx wy : World} {p z b s : Nat} {V : PV} {M : MV} {vs vr : Value}
theorem RunE.keep (h : RunE w0 wx p V M z b s vs vr) (hb : Below wx.heap.size wx wy) : RunE w0 wy p V M z b s vs vr :=
 ⟨h.ro.keep hb, h.pb.keep (hb.block p h.pb.lt), fun j h1 h2 => (h.buf j h1 h2).below hb, h.ap, h.deeds.below hb, h.rows.keeps (.of_below hb), h.box.keep hb, h.sent.below hb, h.ne, h.zl⟩
theorem RunE.pblk (h : RunE w0 wx p V M z b s vs vr) : ∃ cs, Blk wx p 101 cs := by
 obtain ⟨cs, hb, _⟩ := h.pb.blk
 exact ⟨cs, hb⟩
theorem RunE.read (h : RunE w0 wx p V M z b s vs vr) (h6 : b < 6) (g : wx.grownBy wy (V.buf b).ownBlock) : RunE w0 wy p V M z (b + 1) s vs vr := by
 have ho := h.buf b (Nat.le_refl _) h6
 have k : ∀ t, 5 ≠ t → Keeps t wx wy := fun t ht => ho.grow g ht
 obtain ⟨cs, pb⟩ := h.pblk
 refine ⟨⟨ho.bel g h.ro.bel h.ro.bel.size, h.ro.out.ofKeeps (k _ (by decide))⟩, h.pb.keep ((k _ (by decide) p cs (0, 0) pb).trans pb.symm), fun j h1 h2 => ?_, h.ap, h.deeds.ofKeeps (k _ (by decide)), h.rows.keeps (k _ (by decide)), h.box.ofKeeps (k _ (by decide)), h.sent.ofKeeps (k _ (by decide)), h.ne, h.zl⟩
 have hj := h.buf j (by omega) h2
 exact hj.keep fun q hq => g.block q (hj.lt q hq).2 fun e => h.ap b j q h6 h2 (by omega) e.symm hq
theorem RunE.add (h : RunE w0 wx p V M z b s vs vr) {v' : Value} (ho : OwnO wy w0.heap.size 9 1 v' (s + 1) (((List.range s).map fun c => .string (M.sent c)) ++ [.string (M.sent s)])) (g : wx.grownBy wy vs.ownBlock) :
  RunE w0 (wy.setCell ⟨z, 0, none⟩ v') p V M z b (s + 1) v' vr ∧ wy.cell? ⟨z, 0, none⟩ = some vs ∧ ∀ j, wy.frozen? ⟨z, j, none⟩ = false := by
 have hs := h.sent
 have k : ∀ t, 9 ≠ t → Keeps t wx wy := fun t ht => hs.grow g ht
 obtain ⟨cs, pb⟩ := h.pblk
 have box := h.box.ofKeeps (k _ (by decide))
 have k2 : ∀ t, 29 ≠ t → Keeps t wy (wy.setCell ⟨z, 0, none⟩ v') := fun t ht => Keeps.set_ (p := ⟨z, 0, none⟩) (show wy.heap[z]? = _ from box) ht v'
 have pb2 := pb.ofKeeps (k _ (by decide))
 refine ⟨⟨⟨(hs.bel g h.ro.bel h.ro.bel.size).setCell (p := ⟨z, 0, none⟩) h.zl v', (h.ro.out.ofKeeps (k _ (by decide))).far (p := ⟨z, 0, none⟩) (fun e => h.ne e.symm) v'⟩, (h.pb.keep ((k _ (by decide) p cs (0, 0) pb).trans pb.symm)).keep (((k2 _ (by decide)) p cs (0, 0) pb2).trans pb2.symm), fun j h1 h2 => ((h.buf j h1 h2).ofKeeps (k _ (by decide))).ofKeeps (k2 _ (by decide)), h.ap,
  (h.deeds.ofKeeps (k _ (by decide))).ofKeeps (k2 _ (by decide)), (h.rows.keeps (k _ (by decide))).keeps (k2 _ (by decide)), box.set_ 0 v', ?_, h.ne, h.zl⟩, box.cell_ 0 _ rfl, box.frozen⟩
 have : OwnO (wy.setCell ⟨z, 0, none⟩ v') w0.heap.size 9 1 v' (s + 1) _ := ho.ofKeeps (k2 _ (by decide))
 rw [List.range_succ, List.map_append]
 exact this
end
structure RunC (B : Nat) (wr wx : World) (rows : List Pr) (v : Option Value) (z : Option Nat) : Prop where
 hb : Below wr.heap.size wr wx
 vr : ∀ u, v = some u → OPL wx B u rows
 bz : ∀ y, z = some y → Blk wx y 29 #[.slice none 0 0, .slice none 0 0, .slice none 0 0] ∧ wr.heap.size ≤ y
section
variable {B : Nat} {wr wx wy : World} {rows : List Pr} {v : Option Value} {z : Option Nat}
theorem RunC.start (B : Nat) (wr : World) (rows : List Pr) : RunC B wr wr rows none none := ⟨Below.refl _ _, fun _ h => (by cases h), fun _ h => (by cases h)⟩
theorem RunC.keep (h : RunC B wr wx rows v z) (hb : Below wx.heap.size wx wy) : RunC B wr wy rows v z :=
 ⟨below_step h.hb (Nat.le_refl _) hb, fun u e => (h.vr u e).keeps (.of_below hb), fun y e => ⟨(h.bz y e).1.keep hb, (h.bz y e).2⟩⟩
theorem RunC.fv (h : RunC B wr wx rows none z) (hb : Below wx.heap.size wx wy) {u : Value} (o : OPL wy B u rows) : RunC B wr wy rows (some u) z := by
 have k := h.keep hb
 exact ⟨k.hb, fun u' e => (by injection e with e; subst e; exact o), k.bz⟩
theorem RunC.fz (h : RunC B wr wx rows v none) : RunC B wr (wx.alloc (.cells #[.slice none 0 0, .slice none 0 0, .slice none 0 0] 29)) rows v (some wx.heap.size) := by
 have k := h.keep (boxed wx (.cells #[.slice none 0 0, .slice none 0 0, .slice none 0 0] 29))
 exact ⟨k.hb, k.vr, fun y e => (by injection e with e; subst e; exact ⟨Blk.new wx _ _, h.hb.size⟩)⟩
theorem RunC.fin {w0 : World} {p : Nat} {V : PV} {ks : List KV} {M : MV} {u : Value} {y : Nat} (h : RunC w0.heap.size wr wx M.w.rows (some u) (some y)) (ho : RO w0 wr) (r : PoolR wr w0.heap.size p V ks M) (a d e : Value) (ha : a = .slice none 0 0) (hd : d = V.deeds) (he : e = u)
  (hw : wy = ((wx.setCell ⟨y, 0, none⟩ a).setCell ⟨y, 1, none⟩ d).setCell ⟨y, 2, none⟩ e) : RunE w0 wy p V M y 0 0 (.slice none 0 0) u := by
 subst ha hd he
 subst hw
 obtain ⟨b, l⟩ := h.bz _ rfl
 have k : ∀ t, 29 ≠ t → Keeps t wx (((wx.setCell ⟨y, 0, none⟩ (.slice none 0 0)).setCell ⟨y, 1, none⟩ V.deeds).setCell ⟨y, 2, none⟩ e) := fun t ht =>
  ((Keeps.set_ (p := ⟨y, 0, none⟩) (show wx.heap[y]? = _ from b) ht _).trans (Keeps.set_ (p := ⟨y, 1, none⟩) (b.set_ 0 _) ht _)).trans (Keeps.set_ (p := ⟨y, 2, none⟩) ((b.set_ 0 _).set_ 1 _) ht _)
 have r2 := r.below h.hb
 have o2 := ho.keep h.hb
 have nl : w0.heap.size + 1 < wr.heap.size := ho.out.lt
 have nz : y ≠ w0.heap.size + 1 := by omega
 have zl : w0.heap.size ≤ y := by omega
 have zl' : ∀ j, w0.heap.size ≤ (⟨y, j, none⟩ : Addr).block := fun _ => zl
 have nz' : ∀ j, w0.heap.size + 1 ≠ (⟨y, j, none⟩ : Addr).block := fun _ e => nz e.symm
 obtain ⟨cs, pb⟩ := r2.o.blk
 exact ⟨⟨((o2.bel.setCell (zl' 0) _).setCell (zl' 1) _).setCell (zl' 2) _, ((o2.out.far (nz' 0) _).far (nz' 1) _).far (nz' 2) _⟩, r2.b.keep ((k _ (by decide) p cs (0, 0) pb).trans pb.symm), fun j _ h6 => (r2.o.buf j h6).ofKeeps (k _ (by decide)),
  fun i j q hi hj hne e e' => hne (by have := r2.o.apart (.buf i) (.buf j) q hi hj e e'; injection this),
  r2.o.deeds.ofKeeps (k _ (by decide)), (h.vr _ rfl).keeps (k _ (by decide)), ((b.set_ 0 _).set_ 1 _).set_ 2 _, OwnO.nil _ _ _ _, nz, zl⟩
end
theorem str_info : (Tryz.prog.info? 9).map (fun i => (i.zero, i.size, i.bytes)) = some (some (.string ⟨#[]⟩), 1, 16) := by kernel_rfl
end Go.Proofs.YtjbnfigpflambacGreatDoor
/- (pool).next: its walk. -/
namespace Go.Proofs.YtjbnfigpflambacGreatDoor
open Go.ChangeShapes Go.WideShapes Go.ChangeAt Go.RowKit
set_option maxHeartbeats 8000000 in
set_option maxRecDepth 100000 in
theorem next_any (w : World) (B p : Nat) (V : PV) (ks : List KV) (f : Fr) (b : PB) (N : Nat) (h : PoolR w B p V ks (MV.of f b)) (hT : TabB w B) (hO : Ok (f, b) N) (hN : N ≤ 1000000) (c : Nat) (hc : c < 6) (hr : ready f c = true) :
  Calls Tryz.prog 75 #[.pointer (some ⟨p, 0, none⟩), .int .i64 (c : Nat)] w fun e w' => e = .returned (.tuple #[]) ∧ Done w B p V (MV.of (nextM poolB (f, b) c).1 (nextM poolB (f, b) c).2) w' := by
 have g1 : (c : Int) < 6 := by omega
 have g2 : (0 : Int) ≤ (c : Int) := by omega
 have HC := Lib.hid hc
 have HT := Lib.hid hT
 have HR := Lib.hid h
 have hcl : c < f.cl.length := hO.len hc
 have HCL := Lib.hid hcl
 have hbz := ready_busy hr
 obtain ⟨⟨x, y⟩, l, hl⟩ : ∃ q l, (f.c c).pend = q :: l := by
  cases e : (f.c c).pend with
  | nil => unfold busy at hbz; rw [e] at hbz; cases hbz
  | cons q l => exact ⟨q, l, rfl⟩
 have HL := Lib.hid hl
 have HSM := Lib.hid (hO.fit.z c (x, y) (by rw [hl]; exact List.mem_cons_self))
 have HSENT := Lib.hid (hO.fit.sent hcl)
 have HDEED := Lib.hid hO.fit.deeds
 have HO := Lib.hid hO
 have HRD := Lib.hid hr
 obtain ⟨M, hM⟩ : ∃ M, MV.of f b = M := ⟨_, rfl⟩
 rw [hM] at h HR
 have HM := Lib.hid hM
 obtain ⟨xs, hxs⟩ : ∃ xs, l.map (·.1) = xs := ⟨_, rfl⟩
 obtain ⟨ys, hys⟩ : ∃ ys, l.map (·.2) = ys := ⟨_, rfl⟩
 have hX : M.pend c = x :: xs := by rw [← hM, ← hxs]; show (f.c c).pend.map (·.1) = _; rw [hl]; rfl
 have hY : M.bad c = y :: ys := by rw [← hM, ← hys]; show (f.c c).pend.map (·.2) = _; rw [hl]; rfl
 have HX := Lib.hid hX
 have HY := Lib.hid hY
 have HXS := Lib.hid hxs
 have HYS := Lib.hid hys
 obtain ⟨gp, op, cp, p1, pn, pe, d0, d1, d2⟩ := h.pend0 hc hX
 obtain ⟨gb, ob, cb, q1, qn, qe, d3⟩ := h.bad0 hc hY
 obtain ⟨nb, hnb⟩ : ∃ nb, needsB M.mode x.k y = nb := ⟨_, rfl⟩
 have HNB := Lib.hid hnb
 have hKEY : x.key.size ≤ maxLen ∧ x.val.size ≤ maxLen := ⟨Nat.le_trans HSM.out.1 (by decide), Nat.le_trans HSM.out.2 (by decide)⟩
 have HKEY := Lib.hid hKEY
 have HS0 := Lib.hid (NextL.start h)
 have l1 : (0 : Int) < ((xs.length + 1 : Nat) : Int) := by omega
 have l2 : (0 : Int) < ((ys.length + 1 : Nat) : Int) := by omega
 obtain ⟨np, hnp⟩ : ∃ n, xs.length + 1 = n := ⟨_, rfl⟩
 obtain ⟨nq, hnq⟩ : ∃ n, ys.length + 1 = n := ⟨_, rfl⟩
 rw [hnp] at p1 pn pe l1
 rw [hnq] at q1 qn qe l2
 have HNP := Lib.hid hnp
 have HNQ := Lib.hid hnq
 have HPE := Lib.hid pe
 have HQE := Lib.hid qe
 obtain ⟨xk, xkey, xval⟩ := x
 simp only at d0 d1 d2 HNB
 clear h hT hcl hbz hl hM hX hY hxs hys hnb hKEY hnp hnq pe qe hO hr hc
 go_enter Tryz.func75, Tryz.ntmps75
 go_upto_region 1 with fail
 go_cut [5, 6, 7] (fun p5 e6 e7 wc => ∃ z5, p5 = .pointer (some ⟨z5, 0, none⟩) ∧ e6 = .bool nb ∧ e7 = .bool y ∧ NextL w wc B p V M (some (z5, #[.int .i64 xk, .string xkey, .string xval])) none)
 case first =>
  refine region_segsO [] (by kernel_rfl) ?_
  refine anyO_seg true [0, 1, 2, 3, 4, 5, 6, 7, 9, 10, 11, 12, 13, 14] 5 rfl (by kernel_rfl) (by kernel_rfl) (by kernel_rfl) (fun _ _ d _ _ h => by cases d <;> exact h) (fun _ => rfl) ?_
  simp only [pickOps, List.getElem?_toArray, List.getElem?_cons_zero, List.getElem?_cons_succ]
  go_wp2_with fail
  refine ⟨rfl, by rfl, ?_⟩
  have S0 := Lib.hid (HS0.out.keep (Below.refl _ _).drew)
  clear p1 q1 d0 d1 d2 d3
  generalize w.drew = x0 at S0 ⊢
  refine anyO_two (i := 8) (j := 15) (by kernel_rfl) rfl rfl (fun K hK => ?_) (fun K hK => ?_)
  ·go_simp
   obtain ⟨V2, ks2, r2, -, -⟩ := S0.out.r
   have R2 := Lib.hid r2
   clear r2
   refine (needs_any _ B p V2 ks2 M R2.out c HC.out ⟨xk, xkey, xval⟩ xs HX.out y ys HY.out).mono ?_
   rintro e x1 ⟨rfl, rfl⟩
   refine hK.out _ _ (fun _ => (Below.refl _ _)) ?_
   clear hK K
   clear R2
   rw [show needsB M.mode (St.mk xk xkey xval).k y = nb from HNB.out]
   have S1 := Lib.hid S0.out
   clear S0
   refine anyO_one (i := 15) (by kernel_rfl) rfl (fun K hK => ?_)
   go_simp
   refine hK.out _ _ (fun _ => ((boxed _ _).mono S1.out.sz)) ?_
   clear hK K
   have S2 := Lib.hid (S1.out.f5 #[.int .i64 0, .string ⟨#[]⟩, .string ⟨#[]⟩])
   obtain ⟨z5, hz⟩ : ∃ z, x1.heap.size = z := ⟨_, rfl⟩
   rw [hz] at S2 ⊢
   generalize World.alloc _ _ = x2 at S2 ⊢
   clear S1 hz
   obtain ⟨b5, l5⟩ := S2.out.b5 _ _ rfl
   have f0 := b5.cell_ 0 _ rfl
   have f1 := b5.cell_ 1 _ rfl
   have f2 := b5.cell_ 2 _ rfl
   have ff := b5.frozen
   clear b5
   refine anyO_one (i := 16) (by kernel_rfl) rfl (fun K hK => ?_)
   go_simp
   refine hK.out _ _ (fun _ => ((((((Below.refl _ _).setCell (p := ⟨z5, 0, none⟩) l5 _)).setCell (p := ⟨z5, 1, none⟩) l5 _)).setCell (p := ⟨z5, 2, none⟩) l5 _)) ?_
   clear hK K
   refine anyO_seg false [17, 18] 0 rfl (by kernel_rfl) (by kernel_rfl) (by kernel_rfl) (fun _ _ d _ _ h => by cases d <;> exact h) (fun h => by cases h) ?_
   simp only [pickOps, List.getElem?_toArray, List.getElem?_cons_zero, List.getElem?_cons_succ]
   go_wp2_with fail
   refine ⟨rfl, by rfl, ?_⟩
   clear l5
   refine anyO_done (by kernel_rfl) ?_ _
   have FN := Lib.hid (S2.out.fin5 (.int .i64 xk) (.string xkey) (.string xval) rfl)
   clear f0 f1 f2 ff S2
   generalize World.setCell _ _ _ = x9 at FN ⊢
   go_wp2_with fail
   go_meet
   exact ⟨z5, rfl, rfl, rfl, FN.out⟩
  ·go_simp
   refine hK.out _ _ (fun _ => ((boxed _ _).mono S0.out.sz)) ?_
   clear hK K
   have S1 := Lib.hid (S0.out.f5 #[.int .i64 0, .string ⟨#[]⟩, .string ⟨#[]⟩])
   obtain ⟨z5, hz⟩ : ∃ z, x0.heap.size = z := ⟨_, rfl⟩
   rw [hz] at S1 ⊢
   generalize World.alloc _ _ = x1 at S1 ⊢
   clear S0 hz
   refine anyO_one (i := 8) (by kernel_rfl) rfl (fun K hK => ?_)
   go_simp
   obtain ⟨V2, ks2, r2, -, -⟩ := S1.out.r
   have R2 := Lib.hid r2
   clear r2
   refine (needs_any _ B p V2 ks2 M R2.out c HC.out ⟨xk, xkey, xval⟩ xs HX.out y ys HY.out).mono ?_
   rintro e x2 ⟨rfl, rfl⟩
   refine hK.out _ _ (fun _ => (Below.refl _ _)) ?_
   clear hK K
   clear R2
   rw [show needsB M.mode (St.mk xk xkey xval).k y = nb from HNB.out]
   have S2 := Lib.hid S1.out
   clear S1
   obtain ⟨b5, l5⟩ := S2.out.b5 _ _ rfl
   have f0 := b5.cell_ 0 _ rfl
   have f1 := b5.cell_ 1 _ rfl
   have f2 := b5.cell_ 2 _ rfl
   have ff := b5.frozen
   clear b5
   refine anyO_one (i := 16) (by kernel_rfl) rfl (fun K hK => ?_)
   go_simp
   refine hK.out _ _ (fun _ => ((((((Below.refl _ _).setCell (p := ⟨z5, 0, none⟩) l5 _)).setCell (p := ⟨z5, 1, none⟩) l5 _)).setCell (p := ⟨z5, 2, none⟩) l5 _)) ?_
   clear hK K
   refine anyO_seg false [17, 18] 0 rfl (by kernel_rfl) (by kernel_rfl) (by kernel_rfl) (fun _ _ d _ _ h => by cases d <;> exact h) (fun h => by cases h) ?_
   simp only [pickOps, List.getElem?_toArray, List.getElem?_cons_zero, List.getElem?_cons_succ]
   go_wp2_with fail
   refine ⟨rfl, by rfl, ?_⟩
   clear l5
   refine anyO_done (by kernel_rfl) ?_ _
   have FN := Lib.hid (S2.out.fin5 (.int .i64 xk) (.string xkey) (.string xval) rfl)
   clear f0 f1 f2 ff S2
   generalize World.setCell _ _ _ = x9 at FN ⊢
   go_wp2_with fail
   go_meet
   exact ⟨z5, rfl, rfl, rfl, FN.out⟩

 case rest =>
  obtain ⟨z5, rfl, rfl, rfl, s5⟩ := hcut
  have S5 := Lib.hid s5
  clear s5 p1 q1 d0 d1 d2 d3 HS0 l1 l2 pn qn HPE HQE HNP HNQ
  obtain ⟨⟨V1, ks1, r1, t1, m1⟩, b5, -⟩ := S5.out
  obtain ⟨gp, op, cp, p1, pn, pe, -, -, -⟩ := r1.pend0 HC.out HX.out
  obtain ⟨gb, ob, cb, q1, qn, qe, -⟩ := r1.bad0 HC.out HY.out
  obtain ⟨np, hnp⟩ : ∃ n, xs.length + 1 = n := ⟨_, rfl⟩
  obtain ⟨nq, hnq⟩ : ∃ n, ys.length + 1 = n := ⟨_, rfl⟩
  have h1p : 1 ≤ np := by omega
  have h1q : 1 ≤ nq := by omega
  rw [hnp] at p1 pn pe
  rw [hnq] at q1 qn qe
  have fp := r1.b.frozen
  have R1 := Lib.hid r1
  have T1 := Lib.hid t1
  have M1 := Lib.hid m1
  have B5 := Lib.hid b5
  have PE := Lib.hid pe
  have QE := Lib.hid qe
  clear r1 t1 m1 b5 pe qe S5 hnp hnq
  go_upto_region 2 with fail
  go_cut [] (fun wd => NextL w wd B p V (M.drop c xs ys) (some (z5, #[.int .i64 xk, .string xkey, .string xval])) none)
  case first =>
   by_cases k1 : cp = 1 <;> by_cases k2 : cb = 1
   all_goals
    have j1 : (1 : Int) ≤ (np : Int) := by omega
    have j2 : (1 : Int) ≤ (nq : Int) := by omega
    have j3 : (np : Int) ≤ (cp : Int) := by omega
    have j4 : (nq : Int) ≤ (cb : Int) := by omega
    refine region_segs [14, 17] (by kernel_rfl) ?_
    refine anyB_seg [0, 1, 2, 3, 4, 5, 6, 7, 8, 9, 10, 11, 12, 13] 4 rfl (by kernel_rfl) (by kernel_rfl) (by kernel_rfl) (fun _ _ d _ _ h => by cases d <;> exact h) ?_
    simp only [pickOps, List.getElem?_toArray, List.getElem?_cons_zero, List.getElem?_cons_succ]
    go_wp2_with fail
    refine ⟨rfl, by rfl, ?_⟩
    refine anyB_one (i := 14) (by kernel_rfl) rfl (fun K hK => ?_)
    go_simp
    refine hK.out _ _ (fun h => absurd (by decide) h) ?_
    clear hK K
    refine anyB_seg [15, 16] 1 rfl (by kernel_rfl) (by kernel_rfl) (by kernel_rfl) (fun _ _ d _ _ h => by cases d <;> exact h) ?_
    simp only [pickOps, List.getElem?_toArray, List.getElem?_cons_zero, List.getElem?_cons_succ]
    go_wp2_with fail
    refine ⟨rfl, by rfl, ?_⟩
    refine anyB_one (i := 17) (by kernel_rfl) rfl (fun K hK => ?_)
    go_simp
    refine hK.out _ _ (fun h => absurd (by decide) h) ?_
    clear hK K
    refine anyB_done (by kernel_rfl) ?_ _
    go_wp2_with fail
    go_meet
    obtain ⟨V2, r2, t2⟩ := R1.out.drop HC.out HX.out HY.out PE.out QE.out
    simp only [k1, k2, ↓reduceIte, Nat.sub_self, Option.map_some, Addr.add_lit] at r2 t2
    exact (NextL.did M1.out R1.out T1.out B5.out (fun _ _ h => by cases h) r2 t2).keep (Below.refl _ _).drew
  case rest =>
   have S2 := Lib.hid hcut
   clear hcut p1 q1 pn qn h1p h1q fp R1 T1 M1 B5 PE QE
   have hmo : M.ow c = b.ow c := by rw [← HM.out]; rfl
   have hmm : M.mode = f.mode := by rw [← HM.out]; rfl
   have hsn : (M.sent c).size ≤ 1000000000 := by rw [← HM.out]; exact Nat.le_trans HSENT.out (by omega)
   have HMO := Lib.hid hmo
   have HMM := Lib.hid hmm
   have HSN := Lib.hid hsn
   clear hmo hmm hsn
   obtain ⟨⟨V3, ks3, r3, t3, m3⟩, b5, -⟩ := S2.out
   obtain ⟨st, hst⟩ : ∃ n, (M.ow c).st = n := ⟨_, rfl⟩
   have HST := Lib.hid hst
   have R3 := Lib.hid r3
   have T3 := Lib.hid t3
   cases y with
   | true =>
    have x7 : wc.cell? ⟨p, 6 + c * 10 + 7, none⟩ = some (.int .i64 st) := by rw [← hst]; exact r3.b.cellC (k := 7) HC.out (by decide)
    clear r3 t3 m3 b5 S2 hst
    go_wp2_with fail
    refine (ptell_any _ B p V3 ks3 _ R3.out c HC.out ⟨4, tNotUnd, st⟩ (show tNotUnd.size ≤ maxLen by decide) HSN.out).mono ?_
    rintro e x3 ⟨rfl, d3⟩
    have HF := Lib.hid (Done.trans ⟨R3.out, T3.out⟩ d3)
    clear d3 x7
    go_wp2_with fail
    refine bodyPost_ret (results_none rfl _ _ _) rfl ⟨rfl, ?_⟩
    have e := next_mv_bad (b := b) HCL.out HL.out
    rw [HM.out, HXS.out, HYS.out, ← HMO.out, HST.out] at e
    rw [e]
    exact HF.out
   | false =>
    cases nb with
    | false =>
     have x7 : wc.cell? ⟨p, 6 + c * 10 + 7, none⟩ = some (.int .i64 st) := by rw [← hst]; exact r3.b.cellC (k := 7) HC.out (by decide)
     have hm : f.mode = 3 ∧ xk = 1 := by
      have h := HNB.out
      rw [HMM.out] at h
      unfold needsB at h
      by_cases e1 : f.mode = 3
      ·by_cases e2 : xk = 1
       ·exact ⟨e1, e2⟩
       ·simp [e2] at h
      ·simp [e1] at h
     have HMD := Lib.hid hm
     clear r3 t3 m3 b5 S2 hst hm
     go_wp2_with fail
     refine (ptell_any _ B p V3 ks3 _ R3.out c HC.out ⟨4, tNotMode, st⟩ (show tNotMode.size ≤ maxLen by decide) HSN.out).mono ?_
     rintro e x3 ⟨rfl, d3⟩
     have HF := Lib.hid (Done.trans ⟨R3.out, T3.out⟩ d3)
     clear d3 x7
     go_wp2_with fail
     refine bodyPost_ret (results_none rfl _ _ _) rfl ⟨rfl, ?_⟩
     have e := next_mv_mode (b := b) HCL.out HL.out HMD.out
     rw [HM.out, HXS.out, HYS.out, ← HMO.out, HST.out] at e
     rw [e]
     exact HF.out
    | true =>
     have hm : ¬ (f.mode = 3 ∧ xk = 1) := by
      rintro ⟨e1, e2⟩
      have h := HNB.out
      rw [HMM.out] at h
      unfold needsB at h
      simp [e1, e2] at h
     have hneed : needs f c = true := by
      unfold needs
      rw [HL.out]
      have h := HNB.out
      rw [HMM.out] at h
      exact h
     obtain ⟨s, hs, hso, hsk, hs8⟩ := HO.out.srv HC.out (ready_srv HRD.out hneed)
     have HMD := Lib.hid hm
     have HSS := Lib.hid (And.intro hs (And.intro hso (And.intro hsk hs8)))
     have HI := Lib.hid (i64_wf (a := (s : Int)) (by omega) (by omega))
     have H8 := Lib.hid (show M.w.ses.length ≤ 1000 by rw [← HM.out]; exact Nat.le_trans HO.out.ses8 (by decide))
     have HSO := Lib.hid (show (Sorted (M.ow c).set ∧ Sorted (M.ow c).pre) ∧ (M.ow c).set.length < 4398046510976 ∧ (M.ow c).pre.length < 4398046510976 by rw [HMO.out]; exact HO.out.sorted HC.out)
     have x3 : wc.cell? ⟨p, 6 + c * 10 + 3, none⟩ = some (.int .i64 (s : Int)) := by
      have e : M.srv c = (s : Int) := by rw [← HM.out]; exact hs
      rw [← e]
      exact r3.b.cellC (k := 3) HC.out (by decide)
     have B5 := Lib.hid b5
     have M3 := Lib.hid m3
     obtain ⟨bb5, -⟩ := b5 _ _ rfl
     have f0 := bb5.cell_ 0 _ rfl
     have f1 := bb5.cell_ 1 _ rfl
     have f2 := bb5.cell_ 2 _ rfl
     obtain ⟨⟨W1, aK, aT, aS⟩, hdo⟩ : ∃ R, poDo M.w s ⟨xk, xkey, xval⟩ = R := ⟨_, rfl⟩
     have HDO := Lib.hid hdo
     clear r3 t3 m3 b5 bb5 hst hm hneed hs hso hsk hs8 hdo
     go_upto_region 7 with fail
     go_cut [8] (fun p8 we => ∃ z8, p8 = .pointer (some ⟨z8, 0, none⟩) ∧ NextL w we B p V ((M.drop c xs ys).did W1) (some (z5, #[.int .i64 xk, .string xkey, .string xval])) (some (z8, #[.int .i64 aK, .string aT, .int .i64 aS])))
     case first =>
      refine region_segs [6, 8] (by kernel_rfl) ?_
      refine anyB_seg [0, 1, 2, 3, 4, 5] 3 rfl (by kernel_rfl) (by kernel_rfl) (by kernel_rfl) (fun _ _ d _ _ h => by cases d <;> exact h) ?_
      simp only [pickOps, List.getElem?_toArray, List.getElem?_cons_zero, List.getElem?_cons_succ]
      go_wp2_with fail
      refine ⟨rfl, by rfl, ?_⟩
      have S0 := Lib.hid (S2.out.keep (Below.refl _ _).drew)
      clear x3 f0 f1 f2 S2
      generalize wc.drew = x0 at S0 ⊢
      refine anyB_two (i := 6) (j := 7) (by kernel_rfl) rfl rfl (fun K hK => ?_) (fun K hK => ?_)
      ·go_simp
       obtain ⟨⟨V4, ks4, r4, t4, m4⟩, b54, b84⟩ := S0.out
       have R4 := Lib.hid r4
       have T4 := Lib.hid t4
       have M4 := Lib.hid m4
       have B54 := Lib.hid b54
       have B84 := Lib.hid b84
       clear r4 t4 m4 b54 b84
       refine (pdo_any _ B p V4 ks4 _ R4.out (HT.out.turn HR.out.o T4.out) s HI.out ⟨xk, xkey, xval⟩ HKEY.out H8.out).mono ?_
       rintro e x1 ⟨rfl, ⟨V5, ks5, r5, t5⟩⟩
       refine hK.out _ _ (fun h => absurd (by decide) h) ?_
       clear hK K
       rw [show poR (M.drop c xs ys).w (s : Int) ⟨xk, xkey, xval⟩ = (W1, ⟨aK, aT, aS⟩) from HDO.out] at r5 ⊢
       have S1 := Lib.hid (show NextL w x1 B p V ((M.drop c xs ys).did W1) _ _ from NextL.did M4.out R4.out T4.out B54.out B84.out r5 t5)
       clear r5 t5 S0 R4 T4 M4 B54 B84
       unfold anV
       refine anyB_one (i := 7) (by kernel_rfl) rfl (fun K hK => ?_)
       go_simp
       refine hK.out _ _ (fun _ => (boxed _ _)) ?_
       clear hK K
       have S2 := Lib.hid (S1.out.f8 #[.int .i64 0, .string ⟨#[]⟩, .int .i64 0])
       obtain ⟨z8, hz⟩ : ∃ z, x1.heap.size = z := ⟨_, rfl⟩
       rw [hz] at S2 ⊢
       generalize World.alloc _ _ = x2 at S2 ⊢
       clear S1 hz
       obtain ⟨b8, l8⟩ := S2.out.b8 _ _ rfl
       have f0 := b8.cell_ 0 _ rfl
       have f1 := b8.cell_ 1 _ rfl
       have f2 := b8.cell_ 2 _ rfl
       have ff := b8.frozen
       clear b8 l8
       refine anyB_one (i := 8) (by kernel_rfl) rfl (fun K hK => ?_)
       go_simp
       refine hK.out _ _ (fun h => absurd (by decide) h) ?_
       clear hK K
       refine anyB_done (by kernel_rfl) ?_ _
       have FN := Lib.hid (S2.out.fin8 (.int .i64 aK) (.string aT) (.int .i64 aS) rfl)
       clear f0 f1 f2 ff S2
       generalize World.setCell _ _ _ = x9 at FN ⊢
       go_wp2_with fail
       go_meet
       exact ⟨z8, rfl, FN.out⟩
      ·go_simp
       refine hK.out _ _ (fun _ => (boxed _ _)) ?_
       clear hK K
       have S1 := Lib.hid (S0.out.f8 #[.int .i64 0, .string ⟨#[]⟩, .int .i64 0])
       obtain ⟨z8, hz⟩ : ∃ z, x0.heap.size = z := ⟨_, rfl⟩
       rw [hz] at S1 ⊢
       generalize World.alloc _ _ = x1 at S1 ⊢
       clear S0 hz
       refine anyB_one (i := 6) (by kernel_rfl) rfl (fun K hK => ?_)
       go_simp
       obtain ⟨⟨V4, ks4, r4, t4, m4⟩, b54, b84⟩ := S1.out
       have R4 := Lib.hid r4
       have T4 := Lib.hid t4
       have M4 := Lib.hid m4
       have B54 := Lib.hid b54
       have B84 := Lib.hid b84
       clear r4 t4 m4 b54 b84
       refine (pdo_any _ B p V4 ks4 _ R4.out (HT.out.turn HR.out.o T4.out) s HI.out ⟨xk, xkey, xval⟩ HKEY.out H8.out).mono ?_
       rintro e x2 ⟨rfl, ⟨V5, ks5, r5, t5⟩⟩
       refine hK.out _ _ (fun h => absurd (by decide) h) ?_
       clear hK K
       rw [show poR (M.drop c xs ys).w (s : Int) ⟨xk, xkey, xval⟩ = (W1, ⟨aK, aT, aS⟩) from HDO.out] at r5 ⊢
       have S2 := Lib.hid (show NextL w x2 B p V ((M.drop c xs ys).did W1) _ _ from NextL.did M4.out R4.out T4.out B54.out B84.out r5 t5)
       clear r5 t5 S1 R4 T4 M4 B54 B84
       unfold anV
       obtain ⟨b8, l8⟩ := S2.out.b8 _ _ rfl
       have f0 := b8.cell_ 0 _ rfl
       have f1 := b8.cell_ 1 _ rfl
       have f2 := b8.cell_ 2 _ rfl
       have ff := b8.frozen
       clear b8 l8
       refine anyB_one (i := 8) (by kernel_rfl) rfl (fun K hK => ?_)
       go_simp
       refine hK.out _ _ (fun h => absurd (by decide) h) ?_
       clear hK K
       refine anyB_done (by kernel_rfl) ?_ _
       have FN := Lib.hid (S2.out.fin8 (.int .i64 aK) (.string aT) (.int .i64 aS) rfl)
       clear f0 f1 f2 ff S2
       generalize World.setCell _ _ _ = x9 at FN ⊢
       go_wp2_with fail
       go_meet
       exact ⟨z8, rfl, FN.out⟩

     case rest =>
      obtain ⟨z8, rfl, s8⟩ := hcut
      have S8 := Lib.hid s8
      clear s8 x3 f0 f1 f2 S2
      have HTX := Lib.hid (show aT.size ≤ maxLen by
       have h := HO.out.text (s := s) ⟨xk, xkey, xval⟩
       rw [show b.w = M.w from by rw [← HM.out]; rfl, HDO.out] at h
       exact h)
      obtain ⟨bb5, -⟩ := S8.out.b5 _ _ rfl
      obtain ⟨bb8, -⟩ := S8.out.b8 _ _ rfl
      have f0 := bb5.cell_ 0 _ rfl
      have f1 := bb5.cell_ 1 _ rfl
      have f2 := bb5.cell_ 2 _ rfl
      have h0 := bb8.cell_ 0 _ rfl
      have h1 := bb8.cell_ 1 _ rfl
      have h2 := bb8.cell_ 2 _ rfl
      clear bb5 bb8
      go_upto_region 8 with fail
      refine region_segs [5] (by kernel_rfl) ?_
      refine anyB_seg [0, 1, 2, 3, 4] 1 rfl (by kernel_rfl) (by kernel_rfl) (by kernel_rfl) (fun _ _ d _ _ h => by cases d <;> exact h) ?_
      simp only [pickOps, List.getElem?_toArray, List.getElem?_cons_zero, List.getElem?_cons_succ]
      go_wp2_with fail
      refine ⟨rfl, by rfl, ?_⟩
      have S9 := Lib.hid (S8.out.keep (Below.refl _ _).drew)
      clear f0 f1 f2 h0 h1 h2 S8
      generalize wc.drew = x0 at S9 ⊢
      obtain ⟨⟨V4, ks4, r4, t4, m4⟩, b54, b84⟩ := S9.out
      have R4 := Lib.hid r4
      have T4 := Lib.hid t4
      have M4 := Lib.hid m4
      have B54 := Lib.hid b54
      have B84 := Lib.hid b84
      clear r4 t4 m4 b54 b84 S9
      refine anyB_one (i := 5) (by kernel_rfl) rfl (fun K hK => ?_)
      go_simp
      refine (learn_any _ B p V4 ks4 _ R4.out c HC.out ⟨xk, xkey, xval⟩ ⟨aK, aT, aS⟩ HKEY.out HSO.out.1 HSO.out.2).mono ?_
      rintro e x1 ⟨rfl, ⟨V5, ks5, r5, t5⟩⟩
      refine hK.out _ _ (fun h => absurd (by decide) h) ?_
      clear hK K
      refine anyB_done (by kernel_rfl) ?_ _
      have S10 := Lib.hid (NextL.did M4.out R4.out T4.out B54.out B84.out r5 t5)
      clear r5 t5 R4 T4 M4 B54 B84
      obtain ⟨M2, hM2⟩ : ∃ M2, (((M.drop c xs ys).did W1).setOw c (learn (((M.drop c xs ys).did W1).ow c) ⟨xk, xkey, xval⟩ ⟨aK, aT, aS⟩)) = M2 := ⟨_, rfl⟩
      rw [hM2] at S10
      have HM2 := Lib.hid hM2
      have hdl : M2.deeds.length ≤ 1000000 := by rw [← hM2]; show M.deeds.length ≤ _; rw [← HM.out]; exact Nat.le_trans HDEED.out hN
      have HDL := Lib.hid hdl
      clear hM2 hdl
      have S11 := Lib.hid (S10.out.keep (Below.refl _ _).drew)
      obtain ⟨⟨V5, ks5, r5, t5, m5⟩, b55, b85⟩ := S10.out
      obtain ⟨A6, k6, e6, _⟩ := r5.o.deeds.form
      have y6 : x1.cell? ⟨p, 67, none⟩ = some V5.deeds := r5.b.cell (j := 67) (by decide)
      obtain ⟨nd, hnd⟩ : ∃ n, M2.deeds.length = n := ⟨_, rfl⟩
      rw [hnd] at e6
      rw [e6] at y6
      have HND := Lib.hid hnd
      have f0 := (b55 _ _ rfl).1.cell_ 0 _ rfl
      have f1 := (b55 _ _ rfl).1.cell_ 1 _ rfl
      have f2 := (b55 _ _ rfl).1.cell_ 2 _ rfl
      have h0 := (b85 _ _ rfl).1.cell_ 0 _ rfl
      have h1 := (b85 _ _ rfl).1.cell_ 1 _ rfl
      have h2 := (b85 _ _ rfl).1.cell_ 2 _ rfl
      have R5 := Lib.hid (r5.below (Below.refl x1.heap.size x1).drew)
      have T5 := Lib.hid (t5.below (Below.refl x1.heap.size x1).drew)
      have M5 := Lib.hid m5
      have B55 := Lib.hid (S11.out.b5)
      have B85 := Lib.hid (S11.out.b8)
      have E6 := Lib.hid e6
      clear r5 t5 m5 b55 b85 e6 hnd S10 S11
      go_upto_region 9 with fail
      refine region_segs [10, 13] (by kernel_rfl) ?_
      refine anyB_seg [0, 1, 2, 3, 4, 5, 6, 7, 8] 5 rfl (by kernel_rfl) (by kernel_rfl) (by kernel_rfl) (fun _ _ d _ _ h => by cases d <;> exact h) ?_
      simp only [pickOps, List.getElem?_toArray, List.getElem?_cons_zero, List.getElem?_cons_succ]
      go_wp2_with fail
      refine ⟨rfl, by rfl, ?_⟩
      clear f0 f1 f2 h0 h1 h2 y6
      generalize x1.drew = x2 at R5 T5 B55 B85 ⊢
      refine anyB_one (i := 9) (by kernel_rfl) rfl (fun K hK => ?_)
      go_simp
      refine hK.out _ _ (fun _ => (boxed _ _)) ?_
      clear hK K
      have D := Blk.new x2 71 #[.int .i64 (c : Int), .int .i64 xk, .string xkey, .string xval, .int .i64 aK, .string aT, .int .i64 aS]
      obtain ⟨zd, hzd⟩ : ∃ z, x2.heap.size = z := ⟨_, rfl⟩
      have R6 := Lib.hid (R5.out.below (boxed x2 (.cells #[.int .i64 (c : Int), .int .i64 xk, .string xkey, .string xval, .int .i64 aK, .string aT, .int .i64 aS] 71)))
      have T6 := Lib.hid (T5.out.below (boxed x2 (.cells #[.int .i64 (c : Int), .int .i64 xk, .string xkey, .string xval, .int .i64 aK, .string aT, .int .i64 aS] 71)))
      have B56 := Lib.hid (fun y cs e => And.intro ((B55.out y cs e).1.keep (boxed x2 (.cells #[.int .i64 (c : Int), .int .i64 xk, .string xkey, .string xval, .int .i64 aK, .string aT, .int .i64 aS] 71))) (B55.out y cs e).2)
      have B86 := Lib.hid (fun y cs e => And.intro ((B85.out y cs e).1.keep (boxed x2 (.cells #[.int .i64 (c : Int), .int .i64 xk, .string xkey, .string xval, .int .i64 aK, .string aT, .int .i64 aS] 71))) (B85.out y cs e).2)
      rw [hzd] at D ⊢
      clear R5 T5 B55 B85 hzd
      generalize World.alloc _ _ = x3 at D R6 T6 B56 B86 ⊢
      have HD := Lib.hid D
      clear D
      obtain ⟨i0, hi0, hz0, hz1, hz2⟩ := info_parts deed_info
      have ho6 := R6.out.o.deeds
      rw [HND.out, E6.out] at ho6
      have HO6 := Lib.hid ho6
      have HB6 := Lib.hid (Nat.le_of_lt (Nat.lt_of_le_of_lt R6.out.o.lb R6.out.b.lt))
      have HLE := Lib.hid (show nd ≤ 1000000 by rw [← HND.out]; exact HDL.out)
      clear ho6
      refine anyB_one (i := 10) (by kernel_rfl) rfl (fun K hK => ?_)
      rw [if_pos (by rfl)]
      refine wp_append_o _ _ _ _ rfl B 71 i0 _ 7 80 Tryz.underlying26 hi0 hz0 hz1 hz2 rfl (by decide) (.slice A6 nd k6) nd (deV M2.deeds) rfl HO6.out x3.heap.size (some ⟨zd, 0, none⟩) 1 1 (deV [⟨c, ⟨xk, xkey, xval⟩, ⟨aK, aT, aS⟩⟩]) rfl (reads_one HD.out rfl) (by intro u hu; simp only [deV, List.flatMap_cons, List.flatMap_nil, List.append_nil, List.mem_cons, List.not_mem_nil, or_false] at hu; rcases hu with rfl | rfl | rfl | rfl | rfl | rfl | rfl <;> rfl) (le_maxLen (by have := HLE.out; omega)) (by have := HLE.out; omega) HB6.out ?_
      intro v' x4 ho hg hn
      refine hK.out _ _ (fun h => absurd (by decide) h) ?_
      clear hK K
      obtain ⟨A7, k7, e7, _⟩ := ho.form
      have ap := R6.out.app_deeds (v := v') (l := M2.deeds ++ [⟨c, ⟨xk, xkey, xval⟩, ⟨aK, aT, aS⟩⟩]) (by rw [List.length_append, deV_app, HND.out]; exact ho) (by rw [E6.out]; exact hg) (by rw [E6.out]; exact hn)
      obtain ⟨r7, t7, y6, fp, -⟩ := ap
      rw [E6.out] at y6
      have S13 := Lib.hid (NextL.did M5.out R6.out T6.out B56.out B86.out r7 t7)
      subst e7
      clear r7 t7 ho hg hn R6 T6 M5 B56 B86 HD HO6 HB6 HLE E6 hi0 hz0 hz1 hz2
      refine anyB_seg [11, 12] 1 rfl (by kernel_rfl) (by kernel_rfl) (by kernel_rfl) (fun _ _ d _ _ h => by cases d <;> exact h) ?_
      simp only [pickOps, List.getElem?_toArray, List.getElem?_cons_zero, List.getElem?_cons_succ]
      go_wp2_with fail
      refine ⟨rfl, by rfl, ?_⟩
      refine anyB_one (i := 13) (by kernel_rfl) rfl (fun K hK => ?_)
      go_simp
      refine hK.out _ _ (fun h => absurd (by decide) h) ?_
      clear hK K
      refine anyB_done (by kernel_rfl) ?_ _
      clear y6 fp
      generalize World.setCell _ _ _ = x5 at S13 ⊢
      obtain ⟨⟨V7, ks7, r7, t7, m7⟩, b57, b87⟩ := S13.out
      have h0 := (b87 _ _ rfl).1.cell_ 0 _ rfl
      have h1 := (b87 _ _ rfl).1.cell_ 1 _ rfl
      have h2 := (b87 _ _ rfl).1.cell_ 2 _ rfl
      have R7 := Lib.hid r7
      have T7 := Lib.hid t7
      have M7 := Lib.hid m7
      have B57 := Lib.hid b57
      have B87 := Lib.hid b87
      clear r7 t7 m7 b57 b87 S13
      go_wp2_with fail
      refine (ptell_any _ B p V7 ks7 _ R7.out c HC.out ⟨aK, aT, aS⟩ HTX.out (by rw [← HM2.out]; exact HSN.out)).mono ?_
      rintro e x6 ⟨rfl, ⟨V8, ks8, r8, t8⟩⟩
      have S14 := Lib.hid (NextL.did M7.out R7.out T7.out B57.out B87.out r8 t8)
      have hact : (M.acted c s ⟨xk, xkey, xval⟩ xs ys) = { ({ M2 with deeds := M2.deeds ++ [⟨c, ⟨xk, xkey, xval⟩, ⟨aK, aT, aS⟩⟩] } : MV) with sent := up M2.sent c (M2.sent c ++ tellM ⟨aK, aT, aS⟩) } := by
       rw [← HM2.out]
       unfold MV.acted
       rw [HDO.out]
       rfl
      have e := next_mv_act (b := b) HCL.out (by rw [HO.out.own6]; exact HC.out) HL.out HMD.out HSS.out.1
      rw [HM.out, HXS.out, HYS.out, hact, show b.w = M.w from by rw [← HM.out]; rfl, HDO.out] at e
      have HE := Lib.hid e
      clear e hact r8 t8 h0 h1 h2 R7 T7 M7 B57 B87
      obtain ⟨⟨V8, ks8, r8, t8, -⟩, -, b88⟩ := S14.out
      have h2 := (b88 _ _ rfl).1.cell_ 2 _ rfl
      have y0 : x6.cell? ⟨p, 0, none⟩ = some (.int .i64 f.mode) := by
       have e : M2.mode = f.mode := by rw [← HM2.out]; exact HMM.out
       rw [← e]
       exact r8.b.cell (j := 0) (by decide)
      have R8 := Lib.hid r8
      have T8 := Lib.hid t8
      clear r8 t8 b88 S14
      obtain ⟨md, hmd⟩ : ∃ n, f.mode = n := ⟨_, rfl⟩
      have HMDE := Lib.hid hmd
      rw [hmd] at y0
      clear hmd
      by_cases c1 : md = 1
      ·subst c1
       go_wp2_with fail
       refine bodyPost_end (results_none rfl _ _ _) rfl ⟨rfl, ?_⟩
       rw [HE.out, if_neg (by rw [HMDE.out]; exact fun h => h.1 rfl)]
       exact ⟨V8, ks8, R8.out, T8.out⟩
      ·have n1 : (md != 1) = true := by simpa using c1
       have n2 : (!(md == 1)) = true := n1
       by_cases c2 : aS = 0
       ·subst c2
        go_wp2_with fail
        refine (free_any _ B p V8 ks8 _ R8.out c HC.out s ?_ ?_ ?_).mono ?_
        ·rw [← HM2.out]; show M.srv c = _; rw [← HM.out]; exact HSS.out.1
        ·rw [← HM2.out]; show s < M.known.length; rw [← HM.out]; exact HSS.out.2.2.1
        ·rw [← HM2.out]; show s < M.owner.length; rw [← HM.out]; exact HSS.out.2.1
        rintro e x7 ⟨rfl, d⟩
        have HF := Lib.hid (Done.trans ⟨R8.out, T8.out⟩ d)
        clear d
        go_wp2_with fail
        refine bodyPost_end (results_none rfl _ _ _) rfl ⟨rfl, ?_⟩
        rw [HE.out, if_pos ⟨by rw [HMDE.out]; exact c1, by first | rfl | trivial⟩]
        exact HF.out
       ·have n3 : (aS == 0) = false := by simpa using c2
        go_wp2_with fail
        refine bodyPost_end (results_none rfl _ _ _) rfl ⟨rfl, ?_⟩
        rw [HE.out, if_neg (fun h => c2 h.2)]
        exact ⟨V8, ks8, R8.out, T8.out⟩
end Go.Proofs.YtjbnfigpflambacGreatDoor
/- say.Unpack and the reference's UnpackedOf: what each returns. -/
namespace Go.Proofs.YtjbnfigpflambacGreatDoor
open Go.ChangeShapes Go.WideShapes Go.ChangeAt Go.RowKit
theorem unpack_ok (s : ByteArray) (b0 b1 : UInt8) (w : World) (h0 : 0 < s.size) (h1 : 1 < s.size) (e0 : s[0]'h0 = b0) (e1 : s[1]'h1 = b1) (hk : 2 + b1.toNat ≤ s.size) (hm : s.size ≤ maxLen) :
  Calls Tryz.prog 30 #[.string s] w fun e w' => e = .returned (.tuple #[.int .u8 (b0.toNat : Int), .string (s.extract 2 (2 + b1.toNat)), .int .i64 (2 + (b1.toNat : Int))]) ∧ ∃ n, w' = w.drewN n := by
 unfold maxLen at hm
 have hb := b1.toNat_lt
 have g3 : 2 + (b1.toNat : Int) ≤ (s.size : Int) := by omega
 go_enter Tryz.func30, Tryz.ntmps30
 go_wp2
 have g1 : (0 : Int) ≤ 2 + (b1.toNat : Int) := by omega
 have g2 : (2 : Int) ≤ 2 + (b1.toNat : Int) := by omega
 have g4 : (2 + (b1.toNat : Int)).toNat = 2 + b1.toNat := by omega
 go_quiet (fail)
 go_wp2
 go_ret3
 exact ⟨rfl, _, rfl⟩
theorem unpack_no (s : ByteArray) (w : World) (hn : ¬ whole s) (hm : s.size ≤ maxLen) :
  Calls Tryz.prog 30 #[.string s] w fun e w' => e = .returned (.tuple #[.int .u8 0, .string ⟨#[]⟩, .int .i64 0]) ∧ ∃ n, w' = w.drewN n := by
 unfold maxLen at hm
 by_cases h1 : 1 < s.size
 ·obtain ⟨b1, e1⟩ : ∃ b, s[1]'h1 = b := ⟨_, rfl⟩
  have hk : s.size < 2 + b1.toNat := by
   rcases Nat.lt_or_ge s.size (2 + b1.toNat) with h | h
   ·exact h
   ·exact absurd ⟨h1, by rw [e1]; exact h⟩ hn
  clear hn
  have hb := b1.toNat_lt
  have g3 : (s.size : Int) < 2 + (b1.toNat : Int) := by omega
  go_enter Tryz.func30, Tryz.ntmps30
  go_wp2
  go_ret3
  exact ⟨rfl, 0, rfl⟩
 ·have h2 : s.size < 2 := by omega
  clear hn h1
  go_enter Tryz.func30, Tryz.ntmps30
  go_wp2
  go_ret3
  exact ⟨rfl, 0, rfl⟩
end Go.Proofs.YtjbnfigpflambacGreatDoor
