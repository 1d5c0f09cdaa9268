/- The acts of raw things: tillermankeep.Acts. -/
import Derived.Test.YtjbnfigpflambacGreatDoorG07
import Derived.Test.YtjbnfigpflambacGreatDoorG12
import Derived.Test.YtjbnfigpflambacGreatDoorG25
/- The acts of raw things: tillermankeep.Acts. -/
namespace Go.Proofs.YtjbnfigpflambacGreatDoor
open Go.ChangeShapes Go.WideShapes Go.ChangeAt Go.RowKit
def badT : List ByteArray := [⟨#[]⟩, ⟨#[119, 104, 97, 116]⟩, ⟨#[103, 101, 116]⟩, ⟨#[115, 101, 116, 32, 97]⟩, ⟨#[98, 101, 103, 105, 110, 32, 120]⟩]
def inc (n : Int) : Int := wrap64 (n + 1)
theorem inc_wf (n : Int) : (Lit.int .i64 (inc n)).wf = true := by
 unfold inc
 rw [← IntWalk.i64_left]
 exact wf_wrap .i64 _
def Rw.next (r : Rw) : Rw := ⟨inc r.k, inc r.a, r.b, r.c⟩
def actJ (j c : Int) (r : Rw) : Ac :=
 if j = 0 then ⟨2, c, ⟨#[]⟩⟩ else if j = 1 then ⟨1, c, msg 81 (badT.getD (pick r.a 5).toNat ⟨#[]⟩)⟩ else if j = 2 then ⟨1, c, msg 88 ⟨#[]⟩⟩
 else if j = 3 ∨ j = 4 ∨ j = 5 then ⟨1, c, msgQ r.st ++ msgQ r.next.st⟩
 else if j = 6 then ⟨1, c, (msgQ r.st).extract 0 (pick r.a (max 1 (msgQ r.st).size : Nat)).toNat⟩ else ⟨1, c, msgQ r.st⟩
def actOf (m : Nat) (r : Rw) : Ac := actJ (pick (r.k.tdiv 24) 20) (pick r.c m) r
def acV (l : List Ac) : List Value := l.flatMap fun a => [.int .i64 a.kind, .int .i64 a.c, .string a.data]
theorem acV_at : ∀ (l : List Ac) (i : Nat) (h : i < l.length), (acV l)[i * 3]? = some (.int .i64 l[i].kind) ∧ (acV l)[i * 3 + 1]? = some (.int .i64 l[i].c) ∧ (acV l)[i * 3 + 2]? = some (.string l[i].data)
 | [], i, h => absurd h (by simp)
 | a :: l, 0, _ => ⟨rfl, rfl, rfl⟩
 | a :: l, i + 1, h => by
  have h' := acV_at l i (by simpa using h)
  have e : ∀ k, (acV (a :: l))[(i + 1) * 3 + k]? = (acV l)[i * 3 + k]? := fun k => by
   unfold acV
   rw [List.flatMap_cons, List.getElem?_append_right (by simp; omega)]
   simp only [List.length_cons, List.length_nil]
   congr 1
   omega
  have e0 := e 0
  rw [Nat.add_zero, Nat.add_zero] at e0
  exact ⟨e0.trans h'.1, (e 1).trans h'.2.1, (e 2).trans h'.2.2⟩
theorem acV_app (l m : List Ac) : acV (l ++ m) = acV l ++ acV m := by unfold acV; rw [List.flatMap_append]
structure AcFair (m : Nat) (a : Ac) : Prop where
 ok : AcOk a
 lt : a.c < m
 stay : a.kind = 2 ∨ a.data = msg 88 ⟨#[]⟩ ∨ noX a.data
theorem pick_lt {n : Int} {m : Nat} (hm : 0 < m) : 0 ≤ pick n m ∧ pick n m < m := pick_bd n m (by omega)
theorem bad_ok : badT.all (fun t => !(msg 81 t).data.toList.contains 88 && decide (t.size ≤ 7)) = true := by decide +kernel
theorem bad_in (i : Nat) : (badT.getD i ⟨#[]⟩) ∈ badT := by
 rcases i with _ | _ | _ | _ | _ | i
 all_goals simp [badT]
theorem bad_at (i : Nat) : noX (msg 81 (badT.getD i ⟨#[]⟩)) ∧ (badT.getD i ⟨#[]⟩).size ≤ 7 := by
 have h := List.all_eq_true.1 bad_ok _ (bad_in i)
 simp only [Bool.and_eq_true, decide_eq_true_eq, Bool.not_eq_true'] at h
 refine ⟨fun hm => ?_, h.2⟩
 have := h.1
 rw [List.contains_iff_mem.2 hm] at this
 cases this
theorem act_fair (m : Nat) (hm : 0 < m) (h6 : m ≤ 6) (r : Rw) : AcFair m (actOf m r) := by
 have hc := pick_lt (n := r.c) hm
 have h0 := raw_msg r.k r.a r.b r.c
 have h1 := raw_msg (inc r.k) (inc r.a) r.b r.c
 have e : ∀ {k : Int} {d : ByteArray}, (k = 1 ∨ k = 2) → d.size ≤ 1000 → (k = 2 ∨ d = msg 88 ⟨#[]⟩ ∨ noX d) → AcFair m ⟨k, pick r.c m, d⟩ := fun hk hd hs => ⟨⟨hk, hc.1, by show pick r.c m < 6; omega, hd⟩, hc.2, hs⟩
 unfold actOf actJ
 split
 ·exact e (.inr rfl) (by decide) (.inl rfl)
 split
 ·have hb := bad_at (pick r.a 5).toNat
  exact e (.inl rfl) (by rw [msg_size]; omega) (.inr (.inr hb.1))
 split
 ·exact e (.inl rfl) (by decide) (.inr (.inl rfl))
 split
 ·refine e (.inl rfl) ?_ (.inr (.inr (noX_app h0.1 h1.1)))
  rw [ByteArray.size_append]
  have a := h0.2
  have b := h1.2
  show (msgQ (rawS r.k r.a r.b r.c)).size + (msgQ (rawS (inc r.k) (inc r.a) r.b r.c)).size ≤ 1000
  omega
 split
 ·refine e (.inl rfl) ?_ (.inr (.inr fun hx => h0.1 ?_))
  ·rw [ByteArray.size_extract]
   have := h0.2
   have : (msgQ r.st).size ≤ 62 := this
   omega
  ·rw [extract_list] at hx
   exact List.mem_of_mem_drop (List.mem_of_mem_take hx)
 ·exact e (.inl rfl) (by have := h0.2; show (msgQ (rawS _ _ _ _)).size ≤ 1000; omega) (.inr (.inr h0.1))
def actsL (most m : Nat) (l : List Rw) : List Ac := (l.take most).map (actOf m)
theorem acts_fair {most m : Nat} (hm : 0 < m) (h6 : m ≤ 6) (l : List Rw) : ∀ a ∈ actsL most m l, AcFair m a := fun a ha => by
 obtain ⟨r, _, rfl⟩ := List.mem_map.1 ha
 exact act_fair m hm h6 r
theorem acts_len (most m : Nat) (l : List Rw) : (actsL most m l).length ≤ most := by
 unfold actsL
 rw [List.length_map, List.length_take]
 omega
structure AcS (wr wx : World) (z : Option Nat) : Prop where
 hb : Below wr.heap.size wr wx
 bz : ∀ y, z = some y → wr.heap.size ≤ y ∧ Blk wx y 54 #[.int .i64 0, .int .i64 0, .string ⟨#[]⟩]
theorem AcS.start (wr : World) : AcS wr wr none := ⟨Below.refl _ _, fun _ h => (by cases h)⟩
theorem AcS.keep {wr wx wy : World} {z : Option Nat} (h : AcS wr wx z) (hb : Below wx.heap.size wx wy) : AcS wr wy z :=
 ⟨below_step h.hb (Nat.le_refl _) hb, fun y e => ⟨(h.bz y e).1, (h.bz y e).2.keep hb⟩⟩
theorem AcS.fz {wr wx : World} (h : AcS wr wx none) : AcS wr (wx.alloc (.cells #[.int .i64 0, .int .i64 0, .string ⟨#[]⟩] 54)) (some wx.heap.size) := by
 have k := h.keep (boxed wx (.cells #[.int .i64 0, .int .i64 0, .string ⟨#[]⟩] 54))
 exact ⟨k.hb, fun y hy => (by injection hy with hy; subst hy; exact ⟨h.hb.size, Blk.new wx _ _⟩)⟩
structure AcB (wr wx : World) (z : Nat) (a : Ac) : Prop where
 hb : Below wr.heap.size wr wx
 lb : wr.heap.size ≤ z
 blk : Blk wx z 54 #[.int .i64 a.kind, .int .i64 a.c, .string a.data]
theorem AcB.keep {wr wx wy : World} {z : Nat} {a : Ac} (h : AcB wr wx z a) (hb : Below wx.heap.size wx wy) : AcB wr wy z a := ⟨below_step h.hb (Nat.le_refl _) hb, h.lb, h.blk.keep hb⟩
theorem AcB.set2 {wr wx : World} {z : Nat} {a : Ac} (h : AcB wr wx z a) (t : ByteArray) : AcB wr (wx.setCell ⟨z, 2, none⟩ (.string t)) z ⟨a.kind, a.c, t⟩ := ⟨h.hb.setCell (p := ⟨z, 2, none⟩) h.lb _, h.lb, h.blk.set_ 2 _⟩
theorem AcB.set0 {wr wx : World} {z : Nat} {a : Ac} (h : AcB wr wx z a) (k : Int) : AcB wr (wx.setCell ⟨z, 0, none⟩ (.int .i64 k)) z ⟨k, a.c, a.data⟩ := ⟨h.hb.setCell (p := ⟨z, 0, none⟩) h.lb _, h.lb, h.blk.set_ 0 _⟩
theorem AcB.next {w0 wr wx : World} {z : Nat} {a : Ac} (h : AcB wr wx z a) (hb : Below w0.heap.size w0 wr) : AcB w0 wx z a := ⟨hb.trans (h.hb.mono hb.size), Nat.le_trans hb.size h.lb, h.blk⟩
structure RwB (wr wx : World) (z : Nat) (x : Rw) : Prop where
 lb : wr.heap.size ≤ z
 blk : Blk wx z 44 #[.int .i64 x.k, .int .i64 x.a, .int .i64 x.b, .int .i64 x.c]
theorem RwB.keep {wr wx wy : World} {z : Nat} {x : Rw} (h : RwB wr wx z x) (hb : Below wx.heap.size wx wy) : RwB wr wy z x := ⟨h.lb, h.blk.keep hb⟩
theorem div_in {n : Int} (h : (Lit.int .i64 n).wf = true) : wrap64 (n.tdiv 24) = n.tdiv 24 := by
 have := wf_i64 h
 rw [← IntWalk.i64_left]
 exact IntWalk.i64_quo' _ _ ⟨this.1, this.2, by decide⟩
def badsV : Array Value := #[Value.string ⟨#[]⟩, .string ⟨#[119, 104, 97, 116]⟩, .string ⟨#[103, 101, 116]⟩, .string ⟨#[115, 101, 116, 32, 97]⟩, .string ⟨#[98, 101, 103, 105, 110, 32, 120]⟩]
theorem bad_cell {i : Nat} (h : i < 5) : badsV[i]? = some (.string (badT.getD i ⟨#[]⟩)) := by
 rcases i with _ | _ | _ | _ | _ | i
 ·rfl
 ·rfl
 ·rfl
 ·rfl
 ·rfl
 ·omega
theorem pack_msg {k : UInt8} {t : ByteArray} (h : t.size ≤ 120) : packS k t = msg k t := by unfold packS; rw [if_neg (by omega)]
theorem act_info : (Tryz.prog.info? 54).map (fun i => (i.zero, i.size, i.bytes)) = some (some (.agg #[.int .i64 0, .int .i64 0, .string ⟨#[]⟩]), 3, 32) := by kernel_rfl
theorem div_wf {n : Int} (h : (Lit.int .i64 n).wf = true) : (Lit.int .i64 (n.tdiv 24)).wf = true := by
 have := wf_i64 h
 have e := wf_wrap .i64 (n.tdiv 24)
 rwa [IntWalk.i64_quo' _ _ ⟨this.1, this.2, by decide⟩] at e
set_option maxHeartbeats 8000000 in
set_option maxRecDepth 100000 in
theorem acts_any (w : World) (v : Value) (l : List Rw) (hl : RL w w.heap.size v l) (most m : Nat) (hm : 0 < m) (hm6 : m ≤ 6) (hmo : most ≤ 1000) (hT : Tabs w) :
  Calls Tryz.prog 27 #[v, .int .i64 (most : Int), .int .i64 (m : Int)] w fun e w' => ∃ r, e = .returned r ∧ w'.ownsRow w.heap.size 54 3 r (actsL most m l).length (acV (actsL most m l)) ∧ Below w.heap.size w w' := by
 have HL := Lib.hid hl
 obtain ⟨A, cap, rfl, hc1, hc2, _⟩ := hl
 obtain ⟨N, hN⟩ : ∃ N, l.length = N := ⟨_, rfl⟩
 rw [hN] at hc1 ⊢
 have HN := Lib.hid hN
 have HT := Lib.hid hT
 have HM := Lib.hid (And.intro hm hm6)
 clear hN hT hm hm6
 go_enter Tryz.func27, Tryz.ntmps27
 go_wp2_with fail
 go_loopw [7, 8] (fun v i wx => ∃ (k : Nat), k ≤ N ∧ k ≤ most ∧ i = .int .i64 k ∧ Below w.heap.size w wx ∧ wx.ownsRow w.heap.size 54 3 v k (acV ((l.take k).map (actOf m)))) (fun _ i _ => N - (intOf i).toNat)
 case atStart => exact ⟨0, Nat.zero_le _, Nat.zero_le _, rfl, Below.refl _ _, World.ownsRow_nil _ _ _ _⟩
 case round =>
  obtain ⟨k, hk, hkm, rfl, hb, ho⟩ := hrel
  by_cases hlt : k < N ∧ k < most
  ·have g1 : (k : Int) < (N : Int) := by omega
   have g2 : (0 : Int) ≤ (k : Int) := by omega
   have g3 : (k : Int) < (most : Int) := by omega
   have hkl : k < l.length := by rw [HN.out]; exact hlt.1
   obtain ⟨_, _, e0, _, _, hrow, hwf⟩ := HL.out
   injection e0 with e1 e2 e3
   subst e3
   obtain ⟨ad, hA, hB, hat⟩ := hrow (by omega)
   rw [hA] at e1
   subst e1
   obtain ⟨x, hx⟩ : ∃ x, l[k] = x := ⟨_, rfl⟩
   have hR := (hat k hkl).below (by rw [block_of_add]; exact hB) hb
   have hW := hwf l[k] (List.getElem_mem hkl)
   rw [hx] at hR hW
   have htk : l.take (k + 1) = l.take k ++ [x] := by rw [List.take_succ_eq_append_getElem hkl, hx]
   have HAC := Lib.hid (show acV ((l.take (k + 1)).map (actOf m)) = acV ((l.take k).map (actOf m)) ++ [.int .i64 (actOf m x).kind, .int .i64 (actOf m x).c, .string (actOf m x).data] by rw [htk, List.map_append, acV_app]; rfl)
   obtain ⟨cs, hcs⟩ : ∃ cs, acV ((l.take k).map (actOf m)) = cs := ⟨_, rfl⟩
   rw [hcs] at ho HAC
   have HO := Lib.hid ho
   have HB := Lib.hid hb
   have HWF := Lib.hid hW
   obtain ⟨a0, a1, a2, a3⟩ := hR
   obtain ⟨xk, xa, xb, xc⟩ := x
   have HQ := Lib.hid (show (0 : Int) < m ∧ (m : Int) ≤ 9223372036854775807 by have := HM.out; omega)
   clear ho hb hW htk hkl hwf hrow hat hx hcs
   go_upto_region 6 with fail
   have R0 := Lib.hid (show RwB wr (wr.alloc (.cells #[.int .i64 xk, .int .i64 xa, .int .i64 xb, .int .i64 xc] 44)) wr.heap.size ⟨xk, xa, xb, xc⟩ from ⟨Nat.le_refl _, Blk.new wr _ _⟩)
   have B0 := Lib.hid (boxed wr (.cells #[.int .i64 xk, .int .i64 xa, .int .i64 xb, .int .i64 xc] 44))
   obtain ⟨z9, hz9⟩ : ∃ z, wr.heap.size = z := ⟨_, rfl⟩
   have HZ9 := Lib.hid hz9
   rw [hz9] at R0 ⊢
   clear a0 a1 a2 a3
   generalize World.alloc _ _ = wq at R0 B0 ⊢
   clear hz9
   go_cut [10] (fun p wc => ∃ z, p = .pointer (some ⟨z, 0, none⟩) ∧ AcB wq wc z ⟨1, pick xc m, msgQ (rawS xk xa xb xc)⟩)
   case first =>
    have y := R0.out.blk.keep (Below.refl wq.heap.size wq).drew
    have y0 := y.cell_ 0 _ rfl
    have y1 := y.cell_ 1 _ rfl
    have y2 := y.cell_ 2 _ rfl
    have y3 := y.cell_ 3 _ rfl
    clear y
    refine region_segs [9] (by kernel_rfl) ?_
    refine anyB_seg [0, 1, 2, 4] 6 rfl (by kernel_rfl) (by kernel_rfl) (by kernel_rfl) (fun _ _ d _ _ h => by cases d <;> exact h) ?_
    simp only [pickOps, List.getElem?_toArray, List.getElem?_cons_zero, List.getElem?_cons_succ]
    go_wp2_with fail
    refine ⟨rfl, by rfl, ?_⟩
    have S0 := Lib.hid ((AcS.start wq).keep (Below.refl _ _).drew)
    clear y0 y1 y2 y3
    generalize wq.drew = x0 at S0 ⊢
    refine anyB_two (i := 3) (j := 8) (by kernel_rfl) rfl rfl (fun K hK => ?_) (fun K hK => ?_)
    ·go_simp
     refine (picked_any _ _ _ HWF.out.c HQ.out.1 HQ.out.2).mono ?_
     rintro e x1 ⟨rfl, b⟩
     replace b : Below x0.heap.size x0 x1 := by rw [← b]; exact Below.refl _ _
     refine hK.out _ _ (fun _ => b) ?_
     clear hK K
     have S1 := Lib.hid (S0.out.keep b)
     clear b S0
     refine anyB_two (i := 5) (j := 8) (by kernel_rfl) rfl rfl (fun K hK => ?_) (fun K hK => ?_)
     ·go_simp
      refine (stmt_any _ _ _ _ HWF.out.k HWF.out.a HWF.out.b HWF.out.c _).mono ?_
      rintro e x2 ⟨rfl, b⟩
      refine hK.out _ _ (fun _ => b) ?_
      clear hK K
      have S2 := Lib.hid (S1.out.keep b)
      clear b S1
      refine anyB_two (i := 6) (j := 8) (by kernel_rfl) rfl rfl (fun K hK => ?_) (fun K hK => ?_)
      ·go_simp
       refine (raw_message xk xa xb xc _ (HT.out.below (below_step (below_step HB.out (Nat.le_refl _) B0.out) (Nat.le_refl _) (S2.out.hb)))).mono ?_
       rintro e x3 ⟨rfl, b⟩
       refine hK.out _ _ (fun _ => b) ?_
       clear hK K
       have S3 := Lib.hid (S2.out.keep b)
       clear b S2
       refine anyB_seg [7] 2 rfl (by kernel_rfl) (by kernel_rfl) (by kernel_rfl) (fun _ _ d _ _ h => by cases d <;> exact h) ?_
       simp only [pickOps, List.getElem?_toArray, List.getElem?_cons_zero, List.getElem?_cons_succ]
       go_wp2_with fail
       refine ⟨rfl, by rfl, ?_⟩
       refine anyB_one (i := 8) (by kernel_rfl) rfl (fun K hK => ?_)
       go_simp
       refine hK.out _ _ (fun _ => (boxed _ _)) ?_
       clear hK K
       have S4 := Lib.hid S3.out.fz
       obtain ⟨z10, hz⟩ : ∃ z, x3.heap.size = z := ⟨_, rfl⟩
       rw [hz] at S4 ⊢
       generalize World.alloc _ _ = x4 at S4 ⊢
       clear S3 hz
       obtain ⟨lz, bz⟩ := S4.out.bz _ rfl
       have u0 := bz.cell_ 0 _ rfl
       have u1 := bz.cell_ 1 _ rfl
       have u2 := bz.cell_ 2 _ rfl
       have uf := bz.frozen
       have FN := Lib.hid (show AcB wq (((x4.setCell ⟨z10, 0, none⟩ (.int .i64 1)).setCell ⟨z10, 1, none⟩ (.int .i64 (pick xc m))).setCell ⟨z10, 2, none⟩ (.string (msgQ (rawS xk xa xb xc)))) z10 ⟨1, pick xc m, msgQ (rawS xk xa xb xc)⟩ from ⟨((S4.out.hb.setCell (p := ⟨z10, 0, none⟩) lz _).setCell (p := ⟨z10, 1, none⟩) lz _).setCell (p := ⟨z10, 2, none⟩) lz _, lz, ((bz.set_ 0 _).set_ 1 _).set_ 2 _⟩)
       clear bz lz
       refine anyB_one (i := 9) (by kernel_rfl) rfl (fun K hK => ?_)
       go_simp
       refine hK.out _ _ (fun h => absurd (by decide) h) ?_
       clear hK K
       refine anyB_done (by kernel_rfl) ?_ _
       clear u0 u1 u2 uf
       generalize World.setCell _ _ _ = x9 at FN ⊢
       go_wp2_with fail
       go_meet
       exact ⟨z10, rfl, FN.out⟩
      ·go_simp
       refine hK.out _ _ (fun _ => (boxed _ _)) ?_
       clear hK K
       have S3 := Lib.hid S2.out.fz
       obtain ⟨z10, hz⟩ : ∃ z, x2.heap.size = z := ⟨_, rfl⟩
       rw [hz] at S3 ⊢
       generalize World.alloc _ _ = x3 at S3 ⊢
       clear S2 hz
       refine anyB_one (i := 6) (by kernel_rfl) rfl (fun K hK => ?_)
       go_simp
       refine (raw_message xk xa xb xc _ (HT.out.below (below_step (below_step HB.out (Nat.le_refl _) B0.out) (Nat.le_refl _) (S3.out.hb)))).mono ?_
       rintro e x4 ⟨rfl, b⟩
       refine hK.out _ _ (fun _ => b) ?_
       clear hK K
       have S4 := Lib.hid (S3.out.keep b)
       clear b S3
       refine anyB_seg [7] 1 rfl (by kernel_rfl) (by kernel_rfl) (by kernel_rfl) (fun _ _ d _ _ h => by cases d <;> exact h) ?_
       simp only [pickOps, List.getElem?_toArray, List.getElem?_cons_zero, List.getElem?_cons_succ]
       go_wp2_with fail
       refine ⟨rfl, by rfl, ?_⟩
       obtain ⟨lz, bz⟩ := S4.out.bz _ rfl
       have u0 := bz.cell_ 0 _ rfl
       have u1 := bz.cell_ 1 _ rfl
       have u2 := bz.cell_ 2 _ rfl
       have uf := bz.frozen
       have FN := Lib.hid (show AcB wq (((x4.setCell ⟨z10, 0, none⟩ (.int .i64 1)).setCell ⟨z10, 1, none⟩ (.int .i64 (pick xc m))).setCell ⟨z10, 2, none⟩ (.string (msgQ (rawS xk xa xb xc)))) z10 ⟨1, pick xc m, msgQ (rawS xk xa xb xc)⟩ from ⟨((S4.out.hb.setCell (p := ⟨z10, 0, none⟩) lz _).setCell (p := ⟨z10, 1, none⟩) lz _).setCell (p := ⟨z10, 2, none⟩) lz _, lz, ((bz.set_ 0 _).set_ 1 _).set_ 2 _⟩)
       clear bz lz
       refine anyB_one (i := 9) (by kernel_rfl) rfl (fun K hK => ?_)
       go_simp
       refine hK.out _ _ (fun h => absurd (by decide) h) ?_
       clear hK K
       refine anyB_done (by kernel_rfl) ?_ _
       clear u0 u1 u2 uf
       generalize World.setCell _ _ _ = x9 at FN ⊢
       go_wp2_with fail
       go_meet
       exact ⟨z10, rfl, FN.out⟩
     ·go_simp
      refine hK.out _ _ (fun _ => (boxed _ _)) ?_
      clear hK K
      have S2 := Lib.hid S1.out.fz
      obtain ⟨z10, hz⟩ : ∃ z, x1.heap.size = z := ⟨_, rfl⟩
      rw [hz] at S2 ⊢
      generalize World.alloc _ _ = x2 at S2 ⊢
      clear S1 hz
      refine anyB_one (i := 5) (by kernel_rfl) rfl (fun K hK => ?_)
      go_simp
      refine (stmt_any _ _ _ _ HWF.out.k HWF.out.a HWF.out.b HWF.out.c _).mono ?_
      rintro e x3 ⟨rfl, b⟩
      refine hK.out _ _ (fun _ => b) ?_
      clear hK K
      have S3 := Lib.hid (S2.out.keep b)
      clear b S2
      refine anyB_one (i := 6) (by kernel_rfl) rfl (fun K hK => ?_)
      go_simp
      refine (raw_message xk xa xb xc _ (HT.out.below (below_step (below_step HB.out (Nat.le_refl _) B0.out) (Nat.le_refl _) (S3.out.hb)))).mono ?_
      rintro e x4 ⟨rfl, b⟩
      refine hK.out _ _ (fun _ => b) ?_
      clear hK K
      have S4 := Lib.hid (S3.out.keep b)
      clear b S3
      refine anyB_seg [7] 1 rfl (by kernel_rfl) (by kernel_rfl) (by kernel_rfl) (fun _ _ d _ _ h => by cases d <;> exact h) ?_
      simp only [pickOps, List.getElem?_toArray, List.getElem?_cons_zero, List.getElem?_cons_succ]
      go_wp2_with fail
      refine ⟨rfl, by rfl, ?_⟩
      obtain ⟨lz, bz⟩ := S4.out.bz _ rfl
      have u0 := bz.cell_ 0 _ rfl
      have u1 := bz.cell_ 1 _ rfl
      have u2 := bz.cell_ 2 _ rfl
      have uf := bz.frozen
      have FN := Lib.hid (show AcB wq (((x4.setCell ⟨z10, 0, none⟩ (.int .i64 1)).setCell ⟨z10, 1, none⟩ (.int .i64 (pick xc m))).setCell ⟨z10, 2, none⟩ (.string (msgQ (rawS xk xa xb xc)))) z10 ⟨1, pick xc m, msgQ (rawS xk xa xb xc)⟩ from ⟨((S4.out.hb.setCell (p := ⟨z10, 0, none⟩) lz _).setCell (p := ⟨z10, 1, none⟩) lz _).setCell (p := ⟨z10, 2, none⟩) lz _, lz, ((bz.set_ 0 _).set_ 1 _).set_ 2 _⟩)
      clear bz lz
      refine anyB_one (i := 9) (by kernel_rfl) rfl (fun K hK => ?_)
      go_simp
      refine hK.out _ _ (fun h => absurd (by decide) h) ?_
      clear hK K
      refine anyB_done (by kernel_rfl) ?_ _
      clear u0 u1 u2 uf
      generalize World.setCell _ _ _ = x9 at FN ⊢
      go_wp2_with fail
      go_meet
      exact ⟨z10, rfl, FN.out⟩
    ·go_simp
     refine hK.out _ _ (fun _ => (boxed _ _)) ?_
     clear hK K
     have S1 := Lib.hid S0.out.fz
     obtain ⟨z10, hz⟩ : ∃ z, x0.heap.size = z := ⟨_, rfl⟩
     rw [hz] at S1 ⊢
     generalize World.alloc _ _ = x1 at S1 ⊢
     clear S0 hz
     refine anyB_one (i := 3) (by kernel_rfl) rfl (fun K hK => ?_)
     go_simp
     refine (picked_any _ _ _ HWF.out.c HQ.out.1 HQ.out.2).mono ?_
     rintro e x2 ⟨rfl, b⟩
     replace b : Below x1.heap.size x1 x2 := by rw [← b]; exact Below.refl _ _
     refine hK.out _ _ (fun _ => b) ?_
     clear hK K
     have S2 := Lib.hid (S1.out.keep b)
     clear b S1
     refine anyB_one (i := 5) (by kernel_rfl) rfl (fun K hK => ?_)
     go_simp
     refine (stmt_any _ _ _ _ HWF.out.k HWF.out.a HWF.out.b HWF.out.c _).mono ?_
     rintro e x3 ⟨rfl, b⟩
     refine hK.out _ _ (fun _ => b) ?_
     clear hK K
     have S3 := Lib.hid (S2.out.keep b)
     clear b S2
     refine anyB_one (i := 6) (by kernel_rfl) rfl (fun K hK => ?_)
     go_simp
     refine (raw_message xk xa xb xc _ (HT.out.below (below_step (below_step HB.out (Nat.le_refl _) B0.out) (Nat.le_refl _) (S3.out.hb)))).mono ?_
     rintro e x4 ⟨rfl, b⟩
     refine hK.out _ _ (fun _ => b) ?_
     clear hK K
     have S4 := Lib.hid (S3.out.keep b)
     clear b S3
     refine anyB_seg [7] 1 rfl (by kernel_rfl) (by kernel_rfl) (by kernel_rfl) (fun _ _ d _ _ h => by cases d <;> exact h) ?_
     simp only [pickOps, List.getElem?_toArray, List.getElem?_cons_zero, List.getElem?_cons_succ]
     go_wp2_with fail
     refine ⟨rfl, by rfl, ?_⟩
     obtain ⟨lz, bz⟩ := S4.out.bz _ rfl
     have u0 := bz.cell_ 0 _ rfl
     have u1 := bz.cell_ 1 _ rfl
     have u2 := bz.cell_ 2 _ rfl
     have uf := bz.frozen
     have FN := Lib.hid (show AcB wq (((x4.setCell ⟨z10, 0, none⟩ (.int .i64 1)).setCell ⟨z10, 1, none⟩ (.int .i64 (pick xc m))).setCell ⟨z10, 2, none⟩ (.string (msgQ (rawS xk xa xb xc)))) z10 ⟨1, pick xc m, msgQ (rawS xk xa xb xc)⟩ from ⟨((S4.out.hb.setCell (p := ⟨z10, 0, none⟩) lz _).setCell (p := ⟨z10, 1, none⟩) lz _).setCell (p := ⟨z10, 2, none⟩) lz _, lz, ((bz.set_ 0 _).set_ 1 _).set_ 2 _⟩)
     clear bz lz
     refine anyB_one (i := 9) (by kernel_rfl) rfl (fun K hK => ?_)
     go_simp
     refine hK.out _ _ (fun h => absurd (by decide) h) ?_
     clear hK K
     refine anyB_done (by kernel_rfl) ?_ _
     clear u0 u1 u2 uf
     generalize World.setCell _ _ _ = x9 at FN ⊢
     go_wp2_with fail
     go_meet
     exact ⟨z10, rfl, FN.out⟩
   case rest =>
    obtain ⟨z10, rfl, F⟩ := hcut
    have R := Lib.hid (R0.out.keep F.hb)
    have F0 := Lib.hid (F.next B0.out)
    clear R0 B0 HZ9 F
    have y0 := R.out.blk.cell_ 0 _ rfl
    go_wp2_with fail
    rw [div_in HWF.out.k]
    refine (picked_any _ _ _ (div_wf HWF.out.k) (by decide) (by decide)).mono ?_
    rintro e wd ⟨rfl, rfl⟩
    obtain ⟨j, hj⟩ : ∃ j, pick (xk.tdiv 24) 20 = j := ⟨_, rfl⟩
    have HJ := Lib.hid hj
    rw [hj]
    clear y0 hj
    go_upto_block 2 with fail
    go_cut [] (fun wc => AcB wr wc z10 (actOf m ⟨xk, xa, xb, xc⟩))
    case first =>
     have HA : actOf m ⟨xk, xa, xb, xc⟩ = actJ j (pick xc m) ⟨xk, xa, xb, xc⟩ := by unfold actOf; rw [HJ.out]
     have HA := Lib.hid HA
     have z0 := F0.out.blk.cell_ 0 _ rfl
     have z2 := F0.out.blk.cell_ 2 _ rfl
     have zf := F0.out.blk.frozen
     have l9 := R.out.blk.lt
     have l10 := F0.out.blk.lt
     by_cases j0 : j = 0
     ·subst j0
      go_wp2_with fail
      go_meet
      rw [HA.out]
      exact (F0.out.set0 2).set2 ⟨#[]⟩
     by_cases j1 : j = 1
     ·subst j1
      have y1 := R.out.blk.cell_ 1 _ rfl
      obtain ⟨i, hi5, hpi⟩ : ∃ i : Nat, i < 5 ∧ pick xa 5 = (i : Int) := ⟨(pick xa 5).toNat, by have := pick_bd xa 5 (by decide); omega, by have := pick_bd xa 5 (by decide); omega⟩
      go_wp2_with fail
      have C := (Blk.new wc 9 badsV).cell_ i _ (bad_cell hi5)
      have F1 := Lib.hid (F0.out.keep (boxed wc (.cells badsV 9)))
      unfold badsV at C F1
      obtain ⟨g, hg⟩ : ∃ z, wc.heap.size = z := ⟨_, rfl⟩
      rw [hg] at C ⊢
      clear hg F0 R z0 z2 zf l9 l10 y1
      generalize World.alloc _ _ = wx at C F1 ⊢
      refine (picked_any _ _ _ HWF.out.a (by decide) (by decide)).mono ?_
      rintro e wd ⟨rfl, rfl⟩
      rw [hpi]
      have c1 : (i : Int) < 5 := by omega
      have c2 : (0 : Int) ≤ (i : Int) := by omega
      obtain ⟨t, ht⟩ : ∃ t, badT.getD i ⟨#[]⟩ = t := ⟨_, rfl⟩
      rw [ht] at C
      have hts : t.size ≤ 7 := by rw [← ht]; exact (bad_at i).2
      have HTT := Lib.hid (show msg 81 (badT.getD (pick xa 5).toNat ⟨#[]⟩) = packS 81 t by rw [hpi, Int.toNat_natCast, ht, pack_msg (by omega)])
      have HTS := Lib.hid (show t.size ≤ maxLen by unfold maxLen; omega)
      clear ht hts hi5 hpi
      go_wp2_with fail
      refine (pack_any 81 t _ HTS.out).mono ?_
      rintro e wy ⟨rfl, b⟩
      have F2 := Lib.hid (F1.out.keep b)
      have zf := F2.out.blk.frozen
      have z2 := F2.out.blk.cell_ 2 _ rfl
      clear F1 b C c1 c2
      go_wp2_with fail
      go_meet
      rw [HA.out]
      show AcB wr _ z10 ⟨1, pick xc m, msg 81 (badT.getD (pick xa 5).toNat ⟨#[]⟩)⟩
      rw [HTT.out]
      exact F2.out.set2 (packS 81 t)
     by_cases j2 : j = 2
     ·subst j2
      clear z0 z2 zf l9 l10
      go_wp2_with fail
      refine (pack_any 88 ⟨#[]⟩ _ (by decide)).mono ?_
      rintro e wy ⟨rfl, b⟩
      have F2 := Lib.hid (F0.out.keep b)
      have zf := F2.out.blk.frozen
      have z2 := F2.out.blk.cell_ 2 _ rfl
      clear F0 R b
      go_wp2_with fail
      go_meet
      rw [HA.out]
      exact F2.out.set2 (packS 88 ⟨#[]⟩)
     by_cases j6 : j = 6
     ·subst j6
      have y1 := R.out.blk.cell_ 1 _ rfl
      obtain ⟨M, hM⟩ : ∃ M, msgQ (rawS xk xa xb xc) = M := ⟨_, rfl⟩
      have hM2 : 2 ≤ M.size ∧ M.size ≤ 62 := by rw [← hM]; exact ⟨by unfold msgQ; rw [msg_size]; omega, (raw_msg xk xa xb xc).2⟩
      obtain ⟨i, hi5, hpi⟩ : ∃ i : Nat, i < M.size ∧ pick xa (M.size : Int) = (i : Int) := ⟨(pick xa M.size).toNat, by have := pick_bd xa M.size (by omega); omega, by have := pick_bd xa M.size (by omega); omega⟩
      have HA6 := Lib.hid (show actOf m ⟨xk, xa, xb, xc⟩ = ⟨1, pick xc m, M.extract 0 i⟩ by rw [HA.out]; show Ac.mk 1 (pick xc m) ((msgQ (rawS xk xa xb xc)).extract 0 (pick xa (max 1 (msgQ (rawS xk xa xb xc)).size : Nat)).toNat) = _; rw [hM, show max 1 M.size = M.size by omega, hpi]; rfl)
      rw [hM] at F0 z0 z2
      have HPI := Lib.hid hpi
      have HM2 := Lib.hid hM2
      have HI5 := Lib.hid hi5
      clear z0 z2 zf l9 l10 y1 HA HJ hM hM2 hpi hi5
      go_upto_region 21 with fail
      have y1 := (R.out.keep (Below.refl wc.heap.size wc).drew).blk.cell_ 1 _ rfl
      have F1 := Lib.hid (F0.out.keep (Below.refl wc.heap.size wc).drew)
      have z2 := F1.out.blk.cell_ 2 _ rfl
      have zf := F1.out.blk.frozen
      clear F0 R
      refine region_segs [11] (by kernel_rfl) ?_
      generalize World.drew _ = x0 at F1 y1 z2 zf ⊢
      refine anyB_seg [0, 1, 2, 3, 4, 5, 6] 5 rfl (by kernel_rfl) (by kernel_rfl) (by kernel_rfl) (fun _ _ d _ _ h => by cases d <;> exact h) ?_
      simp only [pickOps, List.getElem?_toArray, List.getElem?_cons_zero, List.getElem?_cons_succ]
      go_wp2_with fail
      refine ⟨rfl, by rfl, ?_⟩
      refine anyB_one (i := 7) (by kernel_rfl) rfl (fun K hK => ?_)
      go_simp
      refine hK.out _ _ (fun _ => (Below.refl _ _)) ?_
      clear hK K
      refine anyB_one (i := 8) (by kernel_rfl) rfl (fun K hK => ?_)
      go_simp
      rw [show max 1 (M.size : Int) = (M.size : Int) by have := HM2.out; omega]
      refine (picked_any _ _ _ HWF.out.a (by have := HM2.out; omega) (by have := HM2.out; omega)).mono ?_
      rintro e x1 ⟨rfl, b⟩
      rw [HPI.out]
      replace b : Below x0.heap.size x0 x1 := by rw [← b]; exact Below.refl _ _
      refine hK.out _ _ (fun _ => b) ?_
      clear hK K
      have F2 := Lib.hid (F1.out.keep b)
      clear y1 z2 zf b F1
      have z2 := F2.out.blk.cell_ 2 _ rfl
      have zf := F2.out.blk.frozen
      have c1 : (i : Int) ≤ (M.size : Int) := by have := HI5.out; omega
      have c2 : (0 : Int) ≤ (i : Int) := by omega
      refine anyB_seg [9, 10] 1 rfl (by kernel_rfl) (by kernel_rfl) (by kernel_rfl) (fun _ _ d _ _ h => by cases d <;> exact h) ?_
      simp only [pickOps, List.getElem?_toArray, List.getElem?_cons_zero, List.getElem?_cons_succ]
      go_wp2_with fail
      refine ⟨rfl, by rfl, ?_⟩
      refine anyB_one (i := 11) (by kernel_rfl) rfl (fun K hK => ?_)
      go_simp
      refine hK.out _ _ (fun h => absurd (by decide) h) ?_
      clear hK K
      refine anyB_done (by kernel_rfl) ?_ _
      go_wp2_with fail
      go_meet
      rw [HA6.out]
      exact F2.out.set2 (M.extract 0 i)
     by_cases j345 : j = 3 ∨ j = 4 ∨ j = 5
     ·have HA3 := Lib.hid (show actOf m ⟨xk, xa, xb, xc⟩ = ⟨1, pick xc m, msgQ (rawS xk xa xb xc) ++ msgQ (rawS (inc xk) (inc xa) xb xc)⟩ by rw [HA.out]; unfold actJ; rw [if_neg j0, if_neg j1, if_neg j2, if_pos j345]; rfl)
      have y0 := R.out.blk.cell_ 0 _ rfl
      have y1 := R.out.blk.cell_ 1 _ rfl
      have yf := R.out.blk.frozen
      clear HA HJ
      rcases j345 with rfl | rfl | rfl
      ·go_upto_region 19 with fail
       have ne : z10 ≠ z9 := F0.out.blk.ne_ R.out.blk (by decide)
       have l9 : wr.heap.size ≤ z9 := R.out.lb
       have R1 := Lib.hid (show RwB wr ((wc.setCell ⟨z9, 0, none⟩ (.int .i64 (wrap64 (xk + 1)))).setCell ⟨z9, 1, none⟩ (.int .i64 (wrap64 (xa + 1)))) z9 ⟨inc xk, inc xa, xb, xc⟩ from ⟨l9, (R.out.blk.set_ 0 _).set_ 1 _⟩)
       have F1 := Lib.hid (show AcB wr ((wc.setCell ⟨z9, 0, none⟩ (.int .i64 (wrap64 (xk + 1)))).setCell ⟨z9, 1, none⟩ (.int .i64 (wrap64 (xa + 1)))) z10 ⟨1, pick xc m, msgQ (rawS xk xa xb xc)⟩ from ⟨(F0.out.hb.setCell (p := ⟨z9, 0, none⟩) l9 _).setCell (p := ⟨z9, 1, none⟩) l9 _, F0.out.lb, (F0.out.blk.far (p := ⟨z9, 0, none⟩) ne _).far (p := ⟨z9, 1, none⟩) ne _⟩)
       clear ne l9 R F0 y0 y1 yf z0 z2 zf l10
       generalize World.setCell _ _ _ = x0' at R1 F1 ⊢
       have R2 := Lib.hid (R1.out.keep (Below.refl _ _).drew)
       have F2 := Lib.hid (F1.out.keep (Below.refl _ _).drew)
       have y0 := R2.out.blk.cell_ 0 _ rfl
       have y1 := R2.out.blk.cell_ 1 _ rfl
       have y2 := R2.out.blk.cell_ 2 _ rfl
       have y3 := R2.out.blk.cell_ 3 _ rfl
       have z2 := F2.out.blk.cell_ 2 _ rfl
       clear R1 F1
       refine region_segs [7] (by kernel_rfl) ?_
       generalize World.drew _ = x0 at R2 F2 y0 y1 y2 y3 z2 ⊢
       refine anyB_seg [0, 1, 2] 5 rfl (by kernel_rfl) (by kernel_rfl) (by kernel_rfl) (fun _ _ d _ _ h => by cases d <;> exact h) ?_
       simp only [pickOps, List.getElem?_toArray, List.getElem?_cons_zero, List.getElem?_cons_succ]
       go_wp2_with fail
       refine ⟨rfl, by rfl, ?_⟩
       clear y0 y1 y2 y3 z2
       refine anyB_one (i := 3) (by kernel_rfl) rfl (fun K hK => ?_)
       go_simp
       refine (stmt_any _ _ _ _ (inc_wf xk) (inc_wf xa) HWF.out.b HWF.out.c _).mono ?_
       rintro e x1 ⟨rfl, b⟩
       refine hK.out _ _ (fun _ => b) ?_
       clear hK K
       have F3 := Lib.hid (F2.out.keep b)
       clear b F2 R2
       refine anyB_one (i := 4) (by kernel_rfl) rfl (fun K hK => ?_)
       go_simp
       refine (raw_message (inc xk) (inc xa) xb xc _ (HT.out.below (below_step HB.out (Nat.le_refl _) F3.out.hb))).mono ?_
       rintro e x2 ⟨rfl, b⟩
       refine hK.out _ _ (fun _ => b) ?_
       clear hK K
       have F4 := Lib.hid (F3.out.keep b)
       clear b F3
       have z2 := F4.out.blk.cell_ 2 _ rfl
       have zf := F4.out.blk.frozen
       have hz1 := (raw_msg xk xa xb xc).2
       have hz2 := (raw_msg (inc xk) (inc xa) xb xc).2
       refine anyB_seg [5, 6] 1 rfl (by kernel_rfl) (by kernel_rfl) (by kernel_rfl) (fun _ _ d _ _ h => by cases d <;> exact h) ?_
       simp only [pickOps, List.getElem?_toArray, List.getElem?_cons_zero, List.getElem?_cons_succ]
       go_wp2_with fail
       refine ⟨rfl, by rfl, ?_⟩
       clear hz1 hz2
       refine anyB_one (i := 7) (by kernel_rfl) rfl (fun K hK => ?_)
       go_simp
       refine hK.out _ _ (fun h => absurd (by decide) h) ?_
       clear hK K
       refine anyB_done (by kernel_rfl) ?_ _
       go_wp2_with fail
       go_meet
       rw [HA3.out]
       exact F4.out.set2 (msgQ (rawS xk xa xb xc) ++ msgQ (rawS (inc xk) (inc xa) xb xc))
      ·go_upto_region 19 with fail
       have ne : z10 ≠ z9 := F0.out.blk.ne_ R.out.blk (by decide)
       have l9 : wr.heap.size ≤ z9 := R.out.lb
       have R1 := Lib.hid (show RwB wr ((wc.setCell ⟨z9, 0, none⟩ (.int .i64 (wrap64 (xk + 1)))).setCell ⟨z9, 1, none⟩ (.int .i64 (wrap64 (xa + 1)))) z9 ⟨inc xk, inc xa, xb, xc⟩ from ⟨l9, (R.out.blk.set_ 0 _).set_ 1 _⟩)
       have F1 := Lib.hid (show AcB wr ((wc.setCell ⟨z9, 0, none⟩ (.int .i64 (wrap64 (xk + 1)))).setCell ⟨z9, 1, none⟩ (.int .i64 (wrap64 (xa + 1)))) z10 ⟨1, pick xc m, msgQ (rawS xk xa xb xc)⟩ from ⟨(F0.out.hb.setCell (p := ⟨z9, 0, none⟩) l9 _).setCell (p := ⟨z9, 1, none⟩) l9 _, F0.out.lb, (F0.out.blk.far (p := ⟨z9, 0, none⟩) ne _).far (p := ⟨z9, 1, none⟩) ne _⟩)
       clear ne l9 R F0 y0 y1 yf z0 z2 zf l10
       generalize World.setCell _ _ _ = x0' at R1 F1 ⊢
       have R2 := Lib.hid (R1.out.keep (Below.refl _ _).drew)
       have F2 := Lib.hid (F1.out.keep (Below.refl _ _).drew)
       have y0 := R2.out.blk.cell_ 0 _ rfl
       have y1 := R2.out.blk.cell_ 1 _ rfl
       have y2 := R2.out.blk.cell_ 2 _ rfl
       have y3 := R2.out.blk.cell_ 3 _ rfl
       have z2 := F2.out.blk.cell_ 2 _ rfl
       clear R1 F1
       refine region_segs [7] (by kernel_rfl) ?_
       generalize World.drew _ = x0 at R2 F2 y0 y1 y2 y3 z2 ⊢
       refine anyB_seg [0, 1, 2] 5 rfl (by kernel_rfl) (by kernel_rfl) (by kernel_rfl) (fun _ _ d _ _ h => by cases d <;> exact h) ?_
       simp only [pickOps, List.getElem?_toArray, List.getElem?_cons_zero, List.getElem?_cons_succ]
       go_wp2_with fail
       refine ⟨rfl, by rfl, ?_⟩
       clear y0 y1 y2 y3 z2
       refine anyB_one (i := 3) (by kernel_rfl) rfl (fun K hK => ?_)
       go_simp
       refine (stmt_any _ _ _ _ (inc_wf xk) (inc_wf xa) HWF.out.b HWF.out.c _).mono ?_
       rintro e x1 ⟨rfl, b⟩
       refine hK.out _ _ (fun _ => b) ?_
       clear hK K
       have F3 := Lib.hid (F2.out.keep b)
       clear b F2 R2
       refine anyB_one (i := 4) (by kernel_rfl) rfl (fun K hK => ?_)
       go_simp
       refine (raw_message (inc xk) (inc xa) xb xc _ (HT.out.below (below_step HB.out (Nat.le_refl _) F3.out.hb))).mono ?_
       rintro e x2 ⟨rfl, b⟩
       refine hK.out _ _ (fun _ => b) ?_
       clear hK K
       have F4 := Lib.hid (F3.out.keep b)
       clear b F3
       have z2 := F4.out.blk.cell_ 2 _ rfl
       have zf := F4.out.blk.frozen
       have hz1 := (raw_msg xk xa xb xc).2
       have hz2 := (raw_msg (inc xk) (inc xa) xb xc).2
       refine anyB_seg [5, 6] 1 rfl (by kernel_rfl) (by kernel_rfl) (by kernel_rfl) (fun _ _ d _ _ h => by cases d <;> exact h) ?_
       simp only [pickOps, List.getElem?_toArray, List.getElem?_cons_zero, List.getElem?_cons_succ]
       go_wp2_with fail
       refine ⟨rfl, by rfl, ?_⟩
       clear hz1 hz2
       refine anyB_one (i := 7) (by kernel_rfl) rfl (fun K hK => ?_)
       go_simp
       refine hK.out _ _ (fun h => absurd (by decide) h) ?_
       clear hK K
       refine anyB_done (by kernel_rfl) ?_ _
       go_wp2_with fail
       go_meet
       rw [HA3.out]
       exact F4.out.set2 (msgQ (rawS xk xa xb xc) ++ msgQ (rawS (inc xk) (inc xa) xb xc))
      ·go_upto_region 19 with fail
       have ne : z10 ≠ z9 := F0.out.blk.ne_ R.out.blk (by decide)
       have l9 : wr.heap.size ≤ z9 := R.out.lb
       have R1 := Lib.hid (show RwB wr ((wc.setCell ⟨z9, 0, none⟩ (.int .i64 (wrap64 (xk + 1)))).setCell ⟨z9, 1, none⟩ (.int .i64 (wrap64 (xa + 1)))) z9 ⟨inc xk, inc xa, xb, xc⟩ from ⟨l9, (R.out.blk.set_ 0 _).set_ 1 _⟩)
       have F1 := Lib.hid (show AcB wr ((wc.setCell ⟨z9, 0, none⟩ (.int .i64 (wrap64 (xk + 1)))).setCell ⟨z9, 1, none⟩ (.int .i64 (wrap64 (xa + 1)))) z10 ⟨1, pick xc m, msgQ (rawS xk xa xb xc)⟩ from ⟨(F0.out.hb.setCell (p := ⟨z9, 0, none⟩) l9 _).setCell (p := ⟨z9, 1, none⟩) l9 _, F0.out.lb, (F0.out.blk.far (p := ⟨z9, 0, none⟩) ne _).far (p := ⟨z9, 1, none⟩) ne _⟩)
       clear ne l9 R F0 y0 y1 yf z0 z2 zf l10
       generalize World.setCell _ _ _ = x0' at R1 F1 ⊢
       have R2 := Lib.hid (R1.out.keep (Below.refl _ _).drew)
       have F2 := Lib.hid (F1.out.keep (Below.refl _ _).drew)
       have y0 := R2.out.blk.cell_ 0 _ rfl
       have y1 := R2.out.blk.cell_ 1 _ rfl
       have y2 := R2.out.blk.cell_ 2 _ rfl
       have y3 := R2.out.blk.cell_ 3 _ rfl
       have z2 := F2.out.blk.cell_ 2 _ rfl
       clear R1 F1
       refine region_segs [7] (by kernel_rfl) ?_
       generalize World.drew _ = x0 at R2 F2 y0 y1 y2 y3 z2 ⊢
       refine anyB_seg [0, 1, 2] 5 rfl (by kernel_rfl) (by kernel_rfl) (by kernel_rfl) (fun _ _ d _ _ h => by cases d <;> exact h) ?_
       simp only [pickOps, List.getElem?_toArray, List.getElem?_cons_zero, List.getElem?_cons_succ]
       go_wp2_with fail
       refine ⟨rfl, by rfl, ?_⟩
       clear y0 y1 y2 y3 z2
       refine anyB_one (i := 3) (by kernel_rfl) rfl (fun K hK => ?_)
       go_simp
       refine (stmt_any _ _ _ _ (inc_wf xk) (inc_wf xa) HWF.out.b HWF.out.c _).mono ?_
       rintro e x1 ⟨rfl, b⟩
       refine hK.out _ _ (fun _ => b) ?_
       clear hK K
       have F3 := Lib.hid (F2.out.keep b)
       clear b F2 R2
       refine anyB_one (i := 4) (by kernel_rfl) rfl (fun K hK => ?_)
       go_simp
       refine (raw_message (inc xk) (inc xa) xb xc _ (HT.out.below (below_step HB.out (Nat.le_refl _) F3.out.hb))).mono ?_
       rintro e x2 ⟨rfl, b⟩
       refine hK.out _ _ (fun _ => b) ?_
       clear hK K
       have F4 := Lib.hid (F3.out.keep b)
       clear b F3
       have z2 := F4.out.blk.cell_ 2 _ rfl
       have zf := F4.out.blk.frozen
       have hz1 := (raw_msg xk xa xb xc).2
       have hz2 := (raw_msg (inc xk) (inc xa) xb xc).2
       refine anyB_seg [5, 6] 1 rfl (by kernel_rfl) (by kernel_rfl) (by kernel_rfl) (fun _ _ d _ _ h => by cases d <;> exact h) ?_
       simp only [pickOps, List.getElem?_toArray, List.getElem?_cons_zero, List.getElem?_cons_succ]
       go_wp2_with fail
       refine ⟨rfl, by rfl, ?_⟩
       clear hz1 hz2
       refine anyB_one (i := 7) (by kernel_rfl) rfl (fun K hK => ?_)
       go_simp
       refine hK.out _ _ (fun h => absurd (by decide) h) ?_
       clear hK K
       refine anyB_done (by kernel_rfl) ?_ _
       go_wp2_with fail
       go_meet
       rw [HA3.out]
       exact F4.out.set2 (msgQ (rawS xk xa xb xc) ++ msgQ (rawS (inc xk) (inc xa) xb xc))
     ·have n3 : ¬ j = 3 := fun h => j345 (.inl h)
      have n4 : ¬ j = 4 := fun h => j345 (.inr (.inl h))
      have n5 : ¬ j = 5 := fun h => j345 (.inr (.inr h))
      go_wp2_with fail
      go_meet
      rw [HA.out]
      unfold actJ
      rw [if_neg j0, if_neg j1, if_neg j2, if_neg j345, if_neg j6]
      exact F0.out
    case rest =>
     have F := Lib.hid hcut
     clear hcut F0 R HJ
     obtain ⟨y, hy⟩ : ∃ y, actOf m ⟨xk, xa, xb, xc⟩ = y := ⟨_, rfl⟩
     rw [hy] at F HAC
     obtain ⟨ak, ac, ad⟩ := y
     clear hy
     have z0 := F.out.blk.cell_ 0 _ rfl
     have z1 := F.out.blk.cell_ 1 _ rfl
     have z2 := F.out.blk.cell_ 2 _ rfl
     have OW := Lib.hid ((Keeps.of_below F.out.hb).own (t := 54) HO.out)
     obtain ⟨Av, cv, hv⟩ := own_slice OW.out
     subst hv
     have OW2 := Lib.hid (OW.out.alloc (.cells #[.int .i64 ak, .int .i64 ac, .string ad] 54))
     have BW := Lib.hid (below_step HB.out (Nat.le_refl _) F.out.hb)
     obtain ⟨i0, hi0, hz0, hz1, hz2⟩ := info_parts act_info
     clear HO HB F
     go_wp2_with (at_builtin; refine wpList_append_any _ rfl (.tmp 94) (.tmp 96) 24 rfl w.heap.size 54 i0 _ 3 32 Tryz.underlying24 hi0 hz0 hz1 hz2 rfl (by decide) (.slice Av k cv) k cs rfl OW2.out (wc.heap.size + 1) (some ⟨wc.heap.size, 0, none⟩) 1 1 [.int .i64 ak, .int .i64 ac, .string ad] rfl (Reads.new_ wc _ #[_, _, _] rfl) (by intro u hu; simp only [List.mem_cons, List.not_mem_nil, or_false] at hu; rcases hu with rfl | rfl | rfl <;> rfl) (by unfold maxLen; omega) (by omega) (Nat.le_trans BW.out.size (by simp)) ?_; rotate_right; skip)
     intro v' w6 hown6 hgr hat
     have B6 := Lib.hid ((BW.out.alloc BW.out.size (.cells #[.int .i64 ak, .int .i64 ac, .string ad] 54)).grown hgr (Nat.le_trans BW.out.size (by simp)) fun g hg => (OW2.out.lt g hg).1)
     have O6 := Lib.hid hown6
     clear hgr hat hown6 z0 z1 z2
     go_wp2_with fail
     go_roundw
     case rel => exact ⟨k + 1, by omega, by omega, by go_num, B6.out, by rw [HAC.out]; exact O6.out⟩
     case measure => simp [intOf]; omega
  ·have htk : l.take k = l.take most := by
    by_cases hkN : k = N
    ·rw [List.take_of_length_le (by rw [HN.out]; omega), List.take_of_length_le (by rw [HN.out]; omega)]
    ·rw [show k = most by omega]
   rw [htk] at ho
   have hlen : (actsL most m l).length = k := by unfold actsL; rw [List.length_map, ← htk, List.length_take, HN.out]; omega
   have HB := Lib.hid hb
   have HO := Lib.hid ho
   have HLE := Lib.hid hlen
   clear ho hb HL
   by_cases hkN : k < N
   ·have g1 : (k : Int) < (N : Int) := by omega
    have g3 : (most : Int) ≤ (k : Int) := by omega
    clear hlt
    go_wp2_with fail
    go_ret
    exact ⟨_, rfl, by rw [HLE.out]; exact HO.out, HB.out⟩
   ·have g1 : (N : Int) ≤ (k : Int) := by omega
    clear hlt
    go_wp2_with fail
    go_ret
    exact ⟨_, rfl, by rw [HLE.out]; exact HO.out, HB.out⟩
end Go.Proofs.YtjbnfigpflambacGreatDoor
