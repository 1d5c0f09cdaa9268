/- The reference's did for every statement, and its Did. The reference's pairsMay. -/
import Derived.Test.YtjbnfigpflambabDoorJ01
import Derived.Test.YtjbnfigpflambabDoorJ04
import Derived.Test.YtjbnfigpflambabDoorJ10
import Derived.Test.YtjbnfigpflambabDoorJ21
/- The reference's did for every statement, and its Did. -/
namespace Go.Proofs.YtjbnfigpflambabDoor
open Go.ChangeShapes Go.WideShapes Go.ChangeAt Go.RowKit
theorem refdid_any (w : World) (B : Nat) (r : Value) (g cap n : Nat) (W : Wo) (cs : List Value) (i : Nat) (x : St) (hB : B ≤ w.heap.size) (hn : W.ses.length = n) (hr : OPL w B r W.rows) (hs : OSL w B (.slice (some ⟨g, 0, none⟩) n cap) W.ses cs) (hi : i < n)
  (hG : Good W) (hT : Tabs w) (h1 : 1 ≤ x.k) (h11 : x.k ≤ 11) (hk : x.key.size ≤ maxLen) (hv : x.val.size ≤ maxLen) :
  Calls Tryd.prog 77 #[.agg #[r, .slice (some ⟨g, 0, none⟩) n cap], .int .i64 (i : Nat), .agg #[.int .i64 x.k, .string x.key, .string x.val]] w (DidR w B g cap n (did W i x)) := by
 have hil : i < W.ses.length := by omega
 have hf := hG.few
 by_cases h8 : x.k = 8
 ·unfold did
  rw [if_pos h8]
  unfold execW
  obtain ⟨k, key, val⟩ := x
  simp only at h8 hk hv ⊢
  subst h8
  by_cases h2 : (W.se i).st = 2
  ·rw [if_pos h2]
   obtain ⟨Ar, cr, rfl⟩ := hr.form
   exact (refdid_failed w _ n cap Ar _ cr W.ses i ⟨8, key, val⟩ hn (hs.sl (by omega)) hi h2 (show (8 : Int) ≠ 2 by decide) (show (8 : Int) ≠ 3 by decide)).mono fun _ _ h => DidR.same hr hs rfl h
  ·rw [if_neg h2]
   have hkk := hasK_atP (W.se i).pre key
   cases ha : atP (W.se i).pre key with
   | none =>
    rw [ha] at hkk
    exact refdid_notprep w B r g cap n W cs i key val hB hn hr hs hi h2 hkk.symm
   | some a => exact refdid_exec w B r g cap n W cs i key val hB hn hr hs hi a h2 ha hT hG
 ·unfold did
  rw [if_neg h8]
  exact refdid1_any w B r g cap n W cs i x hB hn hr hs hi hG h1 h11 h8 hk hv
/-- in the midst of Did -/
structure DidE (w wx : World) (q z B g cap n : Nat) (r : Value) (V : Wo) (a : An) : Prop where
 only : Only2 g g w wx
 lg : g < q
 rw_ : Blk wx (q + 2) 31 #[.slice none 0 0, .slice none 0 0]
 ra : Blk wx (q + 3) 48 #[.int .i64 0, .string ⟨#[]⟩, .int .i64 0]
 out : Blk wx z 31 #[r, .slice (some ⟨g, 0, none⟩) n cap]
 an : Blk wx (z + 1) 48 #[.int .i64 a.kind, .string a.text, .int .i64 a.st]
 lz : q + 3 < z
 rows : OPL wx B r V.rows
 ses : ∃ cs, OSL wx B (.slice (some ⟨g, 0, none⟩) n cap) V.ses cs
 len : V.ses.length = n
section
variable {w wx wy : World} {q z B g cap n : Nat} {r : Value} {V : Wo} {a : An}
theorem DidE.keep (h : DidE w wx q z B g cap n r V a) (hb : Below wx.heap.size wx wy) : DidE w wy q z B g cap n r V a := by
 obtain ⟨cs, hs⟩ := h.ses
 exact ⟨h.only.below hb, h.lg, h.rw_.keep hb, h.ra.keep hb, h.out.keep hb, h.an.keep hb, h.lz, h.rows.keeps (.of_below hb), ⟨cs, hs.keep hb⟩, h.len⟩
theorem DidE.setA (h : DidE w wx q z B g cap n r V a) (hq : w.heap.size = q) (s : Int) : DidE w (wx.setCell ⟨z + 1, 2, none⟩ (.int .i64 s)) q z B g cap n r V ⟨a.kind, a.text, s⟩ := by
 obtain ⟨cs, hs⟩ := h.ses
 have lz := h.lz
 have lg := h.lg
 have kp : ∀ t, 48 ≠ t → Keeps t wx (wx.setCell ⟨z + 1, 2, none⟩ (.int .i64 s)) := fun t ht => Keeps.set_ (p := ⟨z + 1, 2, none⟩) h.an ht _
 exact ⟨h.only.set_new (p := ⟨z + 1, 2, none⟩) (by show w.heap.size ≤ z + 1; omega) _, h.lg, h.rw_.far (by show q + 2 ≠ z + 1; omega) _, h.ra.far (by show q + 3 ≠ z + 1; omega) _, h.out.far (by show z ≠ z + 1; omega) _, h.an.set_ 2 _, h.lz, h.rows.keeps (kp _ (by decide)), ⟨cs, (kp _ (by decide)).own hs.own, hs.ses.keeps (kp _ (by decide))⟩, h.len⟩
theorem DidE.cell (h : DidE w wx q z B g cap n r V a) {i : Nat} (hi : i < n) : wx.cell? ⟨g, i * 5, none⟩ = some (.int .i64 (V.se i).st) ∧ (∃ c, wx.cell? ⟨g, i * 5 + 4, none⟩ = some c) ∧ ∀ j, wx.frozen? ⟨g, j, none⟩ = false := by
 obtain ⟨cs, hs⟩ := h.ses
 have hl := h.len
 obtain ⟨v1, v2, v3, v4, k0, k1, k2, k3, k4, _⟩ := SesC.at_ hs.ses i (by omega)
 have hc := hs.own.cells (g := g) rfl
 have hx : ∀ (j : Nat) (u : Value), cs[j]? = some u → wx.cell? ⟨g, j, none⟩ = some u := fun j u hu => by
  have := hc j u hu
  rwa [adr0] at this
 obtain ⟨cur, hg⟩ := hs.row
 have e : V.se i = V.ses[i]'(by omega) := getD_at (by omega) _
 exact ⟨by rw [e]; exact hx _ _ k0, ⟨_, hx _ _ k4⟩, fun j => hg.frozen j⟩
theorem DidE.fail (h : DidE w wx q z B g cap n r V a) {i : Nat} (hi : i < n) : DidE w ((wx.setCell ⟨g, i * 5, none⟩ (.int .i64 2)).setCell ⟨g, i * 5 + 4, none⟩ (.slice none 0 0)) q z B g cap n r (V.put i ⟨2, (V.se i).set, (V.se i).pre, (V.se i).sav, []⟩) a := by
 obtain ⟨cs, hs⟩ := h.ses
 have hl := h.len
 have lz := h.lz
 have lg := h.lg
 obtain ⟨cur, hg⟩ := hs.row
 have e : V.se i = V.ses[i]'(by omega) := getD_at (by omega) _
 have h0 := hs.put_ (i := i) (j := 0) (u := .int .i64 2) (s' := ⟨2, (V.se i).set, (V.se i).pre, (V.se i).sav, (V.se i).wri⟩) hl (by omega) (by decide) fun w' a b c d k h1 h2 h3 h4 => ⟨a, b, c, d, rfl, by rw [e]; exact h1, by rw [e]; exact h2, by rw [e]; exact h3, by rw [e]; exact h4, by simp, by simp⟩
 rw [Nat.add_zero] at h0
 have h1 := h0.put_ (i := i) (j := 4) (u := .slice none 0 0) (s' := ⟨2, (V.se i).set, (V.se i).pre, (V.se i).sav, []⟩) (by rw [List.length_set]; exact hl) (by rw [List.length_set]; omega) (by decide) (by
  rw [List.getElem_set_self]
  exact fun w' a b c d k h1 h2 h3 h4 => ⟨a, b, c, _, rfl, h1, h2, h3, OPL.nil_ _ _, by simp, by simp⟩)
 rw [List.set_set] at h1
 have far2 : ∀ {k : Nat} {t : TypeId} {c0 : Array Value}, k ≠ g → Blk wx k t c0 → Blk ((wx.setCell ⟨g, i * 5, none⟩ (.int .i64 2)).setCell ⟨g, i * 5 + 4, none⟩ (.slice none 0 0)) k t c0 :=
  fun hk hb => (hb.far (p := ⟨g, i * 5, none⟩) hk _).far (p := ⟨g, i * 5 + 4, none⟩) hk _
 have kp : Keeps 66 wx ((wx.setCell ⟨g, i * 5, none⟩ (.int .i64 2)).setCell ⟨g, i * 5 + 4, none⟩ (.slice none 0 0)) :=
  (Keeps.set_ (p := ⟨g, i * 5, none⟩) hg (by decide) _).trans (Keeps.set_ (p := ⟨g, i * 5 + 4, none⟩) (hg.set_ _ _) (by decide) _)
 exact ⟨(h.only.set_ (p := ⟨g, i * 5, none⟩) (.inl rfl) _).set_ (p := ⟨g, i * 5 + 4, none⟩) (.inl rfl) _, h.lg, far2 (by omega) h.rw_, far2 (by omega) h.ra, far2 (by omega) h.out, far2 (by omega) h.an, h.lz, h.rows.keeps kp, ⟨_, h1⟩, (put_length _ _ _).trans hl⟩
end
set_option maxHeartbeats 8000000 in
set_option maxRecDepth 100000 in
theorem refDid_any (w : World) (B : Nat) (r : Value) (g cap n : Nat) (W : Wo) (cs : List Value) (i : Nat) (x : St) (hB : B ≤ w.heap.size) (hn : W.ses.length = n) (hr : OPL w B r W.rows) (hs : OSL w B (.slice (some ⟨g, 0, none⟩) n cap) W.ses cs) (hi : i < n)
  (hG : Good W) (hT : Tabs w) (h1 : 1 ≤ x.k) (h11 : x.k ≤ 11) (hk : x.key.size ≤ maxLen) (hv : x.val.size ≤ maxLen) :
  Calls Tryd.prog 52 #[.agg #[r, .slice (some ⟨g, 0, none⟩) n cap], .int .i64 (i : Nat), .agg #[.int .i64 x.k, .string x.key, .string x.val]] w (DidR w B g cap n (doW W i x)) := by
 have HD := Lib.hid (fun (u : World) (hb : Below w.heap.size w u) => refdid_any u B r g cap n W cs i x (Nat.le_trans hB hb.size) hn (hr.keeps (.of_below hb)) (hs.keep hb) hi hG (hT.below hb) h1 h11 hk hv)
 have lg := hs.lt.2
 have g1 : (i : Int) < (n : Int) := by omega
 have g2 : (0 : Int) ≤ (i : Int) := by omega
 have HI := Lib.hid hi
 have HDW := Lib.hid (show doW W i x = ((did W i x).1.put i (failSe ((did W i x).1.se i) (did W i x).2), ⟨(did W i x).2.kind, (did W i x).2.text, (failSe ((did W i x).1.se i) (did W i x).2).st⟩) from rfl)
 have hvl := (did_mine W i x).1.trans hn
 obtain ⟨R, hR⟩ : ∃ R, doW W i x = R := ⟨_, rfl⟩
 rw [hR] at HDW ⊢
 obtain ⟨⟨V, ak, aT, aS⟩, hD⟩ : ∃ D, did W i x = D := ⟨_, rfl⟩
 rw [hD] at HD HDW hvl
 simp only at hvl HDW
 have HVL := Lib.hid hvl
 obtain ⟨Ar, cr, rfl⟩ := hr.form
 obtain ⟨k, key, val⟩ := x
 clear hR hD hB hn hr hs hi hG hT h1 h11 hk hv hvl
 simp only at HD ⊢
 go_enter Tryd.func52, Tryd.ntmps52
 go_upto_region 1 with fail
 generalize hw4 : (((World.alloc _ _).alloc _).alloc _).alloc _ = w4
 obtain ⟨d1, e4, d3, d4, d5, d6⟩ := did_boxes w _ _ ⟨k, key, val⟩ w4 hw4.symm
 have HB4 := Lib.hid d1
 have D5 := Lib.hid d5
 have D6 := Lib.hid d6
 have r0 := d3.cell_ 0 _ rfl
 have r1 := d3.cell_ 1 _ rfl
 have t0 := d4.cell_ 0 _ rfl
 have t1 := d4.cell_ 1 _ rfl
 have t2 := d4.cell_ 2 _ rfl
 clear hw4 d1 d3 d4 d5 d6
 go_wp2_with fail
 refine (HD.out w4 HB4.out).mono ?_
 rintro e w5 ⟨r', cs', rfl, o1, o2, on⟩
 obtain ⟨F, c5, rfl⟩ := o1.form
 unfold anV
 have E0 : DidE w ((w5.alloc (.cells #[.slice F V.rows.length c5, .slice (some ⟨g, 0, none⟩) n cap] 31)).alloc (.cells #[.int .i64 ak, .string aT, .int .i64 aS] 48)) w.heap.size w5.heap.size B g cap n (.slice F V.rows.length c5) V ⟨ak, aT, aS⟩ := by
  have bb := boxed2 w5 (.cells #[.slice F V.rows.length c5, .slice (some ⟨g, 0, none⟩) n cap] 31) (.cells #[.int .i64 ak, .string aT, .int .i64 aS] 48)
  have h5 := on.size
  exact ⟨((Only2.of_below HB4.out).trans on).below bb, lg, (on.blk D5.out (by omega) (by omega)).keep bb, (on.blk D6.out (by omega) (by omega)).keep bb, (Blk.new w5 _ _).alloc _, Blk.new1 w5 _ _ _, by omega, o1.keeps (.of_below bb), ⟨cs', o2.keep bb⟩, HVL.out⟩
 have ME := Lib.hid E0
 clear r0 r1 t0 t1 t2 o1 o2 on E0 e4 HD HB4 D5 D6
 obtain ⟨z, hz⟩ : ∃ z, w5.heap.size = z := ⟨_, rfl⟩
 rw [hz] at ME
 go_upto_region 2 with fail
 generalize (World.alloc _ _).alloc _ = w6 at ME ⊢
 clear hz
 have a0 := ME.out.an.cell_ 0 _ rfl
 have b1 := ME.out.out.cell_ 1 _ rfl
 obtain ⟨c0, ⟨c4v, c4⟩, fr⟩ := ME.out.cell HI.out
 have fr0 := fr (i * 5)
 have fr4 := fr (i * 5 + 4)
 by_cases hf : ak = 4 ∧ (V.se i).st = 1
 ·obtain ⟨ha, hs1⟩ := hf
  subst ha
  have HX := Lib.hid (show R = (V.put i ⟨2, (V.se i).set, (V.se i).pre, (V.se i).sav, []⟩, ⟨4, aT, 2⟩) by rw [HDW.out]; unfold failSe; rw [if_pos ⟨rfl, hs1⟩])
  rw [hs1] at c0
  clear hs1 HDW
  go_upto_region 5 with fail
  have M5 := Lib.hid (ME.out.fail HI.out)
  clear a0 b1 c0 c4 fr fr0 fr4 ME
  generalize World.setCell _ _ _ = w7 at M5 ⊢
  obtain ⟨c0, -, -⟩ := M5.out.cell HI.out
  rw [put_self V (by rw [HVL.out]; exact HI.out)] at c0
  have b1 := M5.out.out.cell_ 1 _ rfl
  have n2 := M5.out.an.cell_ 2 _ rfl
  have fn := M5.out.an.frozen
  go_upto_region 6 with fail
  have MF := Lib.hid (M5.out.setA rfl (2))
  clear c0 b1 n2 fn
  generalize World.setCell _ _ _ = w8 at MF ⊢
  refine region_segs [2, 3] (by kernel_rfl) ?_
  have MF := Lib.hid (MF.out.keep (Below.refl _ _).drew)
  generalize w8.drew = w8 at MF ⊢
  obtain ⟨cs9, hs9⟩ := MF.out.ses
  have lz := MF.out.lz
  have m1 : ¬ (z = w.heap.size + 2) := by omega
  have m2 : ¬ (z + 1 = w.heap.size + 2) := by omega
  have m3 : ¬ (z = w.heap.size + 3) := by omega
  have m4 : ¬ (z + 1 = w.heap.size + 3) := by omega
  have DQ : DidQ w w8 w.heap.size B g cap n (.slice F V.rows.length c5) V.rows (V.ses.set i ⟨2, (V.se i).set, (V.se i).pre, (V.se i).sav, []⟩) cs9 := ⟨MF.out.only, MF.out.rw_, MF.out.ra, MF.out.rows, hs9⟩
  have r0 := MF.out.out.cell_ 0 _ rfl
  have r1 := MF.out.out.cell_ 1 _ rfl
  have k0 := MF.out.an.cell_ 0 _ rfl
  have k1 := MF.out.an.cell_ 1 _ rfl
  have k2 := MF.out.an.cell_ 2 _ rfl
  have u0 := DQ.rw_.cell_ 0 _ rfl
  have u1 := DQ.rw_.cell_ 1 _ rfl
  have v0 := DQ.ra.cell_ 0 _ rfl
  have v1 := DQ.ra.cell_ 1 _ rfl
  have v2 := DQ.ra.cell_ 2 _ rfl
  have ff := DQ.rw_.frozen
  have fg := DQ.ra.frozen
  obtain ⟨E1, E2, E3, E4, E5⟩ := DQ.ends rfl (.slice F V.rows.length c5) (.slice (some ⟨g, 0, none⟩) n cap) (.int .i64 4) (.string aT) (.int .i64 (2))
  have q0 := E4.cell_ 0 _ rfl
  have q1 := E4.cell_ 1 _ rfl
  have p0 := E5.cell_ 0 _ rfl
  have p1 := E5.cell_ 1 _ rfl
  have p2 := E5.cell_ 2 _ rfl
  have FIN := Lib.hid (And.intro E1 (And.intro E2 E3))
  clear E1 E2 E3 E4 E5 DQ hs9 lz
  refine anyB_seg [0] 3 rfl (by kernel_rfl) (by kernel_rfl) (by kernel_rfl) (fun _ _ d _ _ h => by cases d <;> exact h) ?_
  simp only [pickOps, List.getElem?_toArray, List.getElem?_cons_zero]
  go_wp2_with fail
  refine ⟨rfl, by rfl, ?_⟩
  refine anyB_two (i := 1) (j := 2) (by kernel_rfl) rfl rfl (fun K hK => ?_) (fun K hK => ?_)
  ·go_simp
   refine hK.out _ _ (fun _ => (Below.refl _ _)) ?_
   clear hK K
   refine anyB_one (i := 2) (by kernel_rfl) rfl (fun K hK => ?_)
   go_simp
   refine hK.out _ _ (fun h => absurd (by decide) h) ?_
   clear hK K
   refine anyB_one (i := 3) (by kernel_rfl) rfl (fun K hK => ?_)
   go_simp
   refine hK.out _ _ (fun h => absurd (by decide) h) ?_
   clear hK K
   refine anyB_done (by kernel_rfl) ?_ _
   clear v0 v1 v2 ff fg r0 r1 k0 k1 k2 u0 u1
   generalize World.setCell _ _ _ = w10 at FIN q0 q1 p0 p1 p2 ⊢
   go_wp2_with fail
   refine bodyPost_ret (v := .tuple #[.agg #[.slice F V.rows.length c5, .slice (some ⟨g, 0, none⟩) n cap], .agg #[.int .i64 4, .string aT, .int .i64 2]]) ?_ rfl ⟨_, cs9, by rw [HX.out]; rfl, by rw [HX.out]; exact FIN.out.2.1, by rw [HX.out]; exact FIN.out.2.2, FIN.out.1⟩
   simp [results, Tryd.results52, go_sem, q0, q1, p0, p1, p2]
  ·go_simp
   refine hK.out _ _ (fun h => absurd (by decide) h) ?_
   clear hK K
   refine anyB_seg [1] 1 rfl (by kernel_rfl) (by kernel_rfl) (by kernel_rfl) (fun _ _ d _ _ h => by cases d <;> exact h) ?_
   simp only [pickOps, List.getElem?_toArray, List.getElem?_cons_zero, List.getElem?_cons_succ]
   go_wp2_with fail
   refine ⟨rfl, by rfl, ?_⟩
   refine anyB_one (i := 3) (by kernel_rfl) rfl (fun K hK => ?_)
   go_simp
   refine hK.out _ _ (fun h => absurd (by decide) h) ?_
   clear hK K
   refine anyB_done (by kernel_rfl) ?_ _
   clear v0 v1 v2 ff fg r0 r1 k0 k1 k2 u0 u1
   generalize World.setCell _ _ _ = w10 at FIN q0 q1 p0 p1 p2 ⊢
   go_wp2_with fail
   refine bodyPost_ret (v := .tuple #[.agg #[.slice F V.rows.length c5, .slice (some ⟨g, 0, none⟩) n cap], .agg #[.int .i64 4, .string aT, .int .i64 2]]) ?_ rfl ⟨_, cs9, by rw [HX.out]; rfl, by rw [HX.out]; exact FIN.out.2.1, by rw [HX.out]; exact FIN.out.2.2, FIN.out.1⟩
   simp [results, Tryd.results52, go_sem, q0, q1, p0, p1, p2]
 ·have HX := Lib.hid (show R = (V, ⟨ak, aT, (V.se i).st⟩) by
   rw [HDW.out]
   have e : failSe (V.se i) ⟨ak, aT, aS⟩ = V.se i := by unfold failSe; rw [if_neg hf]
   rw [e, put_back V (by rw [HVL.out]; exact HI.out)])
  obtain ⟨sT, hst⟩ : ∃ s, (V.se i).st = s := ⟨_, rfl⟩
  rw [hst] at hf HX c0
  have hsp : (ak = 4 ∧ ¬ sT = 1) ∨ ¬ ak = 4 := by
   by_cases h : ak = 4
   ·exact .inl ⟨h, fun h' => hf ⟨h, h'⟩⟩
   ·exact .inr h
  clear hf HDW
  rcases hsp with ⟨rfl, h1⟩ | h4
  ·have h1' : (sT == 1) = false := by simpa using h1
   go_upto_region 5 with fail
   clear a0 b1 c0 c4 fr fr0 fr4 h1 h1'
   obtain ⟨c0, -, -⟩ := ME.out.cell HI.out
   rw [hst] at c0
   have b1 := ME.out.out.cell_ 1 _ rfl
   have n2 := ME.out.an.cell_ 2 _ rfl
   have fn := ME.out.an.frozen
   go_upto_region 6 with fail
   have MF := Lib.hid (ME.out.setA rfl (sT))
   clear c0 b1 n2 fn
   generalize World.setCell _ _ _ = w8 at MF ⊢
   refine region_segs [2, 3] (by kernel_rfl) ?_
   have MF := Lib.hid (MF.out.keep (Below.refl _ _).drew)
   generalize w8.drew = w8 at MF ⊢
   obtain ⟨cs9, hs9⟩ := MF.out.ses
   have lz := MF.out.lz
   have m1 : ¬ (z = w.heap.size + 2) := by omega
   have m2 : ¬ (z + 1 = w.heap.size + 2) := by omega
   have m3 : ¬ (z = w.heap.size + 3) := by omega
   have m4 : ¬ (z + 1 = w.heap.size + 3) := by omega
   have DQ : DidQ w w8 w.heap.size B g cap n (.slice F V.rows.length c5) V.rows V.ses cs9 := ⟨MF.out.only, MF.out.rw_, MF.out.ra, MF.out.rows, hs9⟩
   have r0 := MF.out.out.cell_ 0 _ rfl
   have r1 := MF.out.out.cell_ 1 _ rfl
   have k0 := MF.out.an.cell_ 0 _ rfl
   have k1 := MF.out.an.cell_ 1 _ rfl
   have k2 := MF.out.an.cell_ 2 _ rfl
   have u0 := DQ.rw_.cell_ 0 _ rfl
   have u1 := DQ.rw_.cell_ 1 _ rfl
   have v0 := DQ.ra.cell_ 0 _ rfl
   have v1 := DQ.ra.cell_ 1 _ rfl
   have v2 := DQ.ra.cell_ 2 _ rfl
   have ff := DQ.rw_.frozen
   have fg := DQ.ra.frozen
   obtain ⟨E1, E2, E3, E4, E5⟩ := DQ.ends rfl (.slice F V.rows.length c5) (.slice (some ⟨g, 0, none⟩) n cap) (.int .i64 4) (.string aT) (.int .i64 (sT))
   have q0 := E4.cell_ 0 _ rfl
   have q1 := E4.cell_ 1 _ rfl
   have p0 := E5.cell_ 0 _ rfl
   have p1 := E5.cell_ 1 _ rfl
   have p2 := E5.cell_ 2 _ rfl
   have FIN := Lib.hid (And.intro E1 (And.intro E2 E3))
   clear E1 E2 E3 E4 E5 DQ hs9 lz
   refine anyB_seg [0] 3 rfl (by kernel_rfl) (by kernel_rfl) (by kernel_rfl) (fun _ _ d _ _ h => by cases d <;> exact h) ?_
   simp only [pickOps, List.getElem?_toArray, List.getElem?_cons_zero]
   go_wp2_with fail
   refine ⟨rfl, by rfl, ?_⟩
   refine anyB_two (i := 1) (j := 2) (by kernel_rfl) rfl rfl (fun K hK => ?_) (fun K hK => ?_)
   ·go_simp
    refine hK.out _ _ (fun _ => (Below.refl _ _)) ?_
    clear hK K
    refine anyB_one (i := 2) (by kernel_rfl) rfl (fun K hK => ?_)
    go_simp
    refine hK.out _ _ (fun h => absurd (by decide) h) ?_
    clear hK K
    refine anyB_one (i := 3) (by kernel_rfl) rfl (fun K hK => ?_)
    go_simp
    refine hK.out _ _ (fun h => absurd (by decide) h) ?_
    clear hK K
    refine anyB_done (by kernel_rfl) ?_ _
    clear v0 v1 v2 ff fg r0 r1 k0 k1 k2 u0 u1
    generalize World.setCell _ _ _ = w10 at FIN q0 q1 p0 p1 p2 ⊢
    go_wp2_with fail
    refine bodyPost_ret (v := .tuple #[.agg #[.slice F V.rows.length c5, .slice (some ⟨g, 0, none⟩) n cap], .agg #[.int .i64 4, .string aT, .int .i64 sT]]) ?_ rfl ⟨_, cs9, by rw [HX.out]; rfl, by rw [HX.out]; exact FIN.out.2.1, by rw [HX.out]; exact FIN.out.2.2, FIN.out.1⟩
    simp [results, Tryd.results52, go_sem, q0, q1, p0, p1, p2]
   ·go_simp
    refine hK.out _ _ (fun h => absurd (by decide) h) ?_
    clear hK K
    refine anyB_seg [1] 1 rfl (by kernel_rfl) (by kernel_rfl) (by kernel_rfl) (fun _ _ d _ _ h => by cases d <;> exact h) ?_
    simp only [pickOps, List.getElem?_toArray, List.getElem?_cons_zero, List.getElem?_cons_succ]
    go_wp2_with fail
    refine ⟨rfl, by rfl, ?_⟩
    refine anyB_one (i := 3) (by kernel_rfl) rfl (fun K hK => ?_)
    go_simp
    refine hK.out _ _ (fun h => absurd (by decide) h) ?_
    clear hK K
    refine anyB_done (by kernel_rfl) ?_ _
    clear v0 v1 v2 ff fg r0 r1 k0 k1 k2 u0 u1
    generalize World.setCell _ _ _ = w10 at FIN q0 q1 p0 p1 p2 ⊢
    go_wp2_with fail
    refine bodyPost_ret (v := .tuple #[.agg #[.slice F V.rows.length c5, .slice (some ⟨g, 0, none⟩) n cap], .agg #[.int .i64 4, .string aT, .int .i64 sT]]) ?_ rfl ⟨_, cs9, by rw [HX.out]; rfl, by rw [HX.out]; exact FIN.out.2.1, by rw [HX.out]; exact FIN.out.2.2, FIN.out.1⟩
    simp [results, Tryd.results52, go_sem, q0, q1, p0, p1, p2]
  ·have h4' : (ak == 4) = false := by simpa using h4
   go_upto_region 5 with fail
   clear a0 b1 c0 c4 fr fr0 fr4 h4 h4'
   obtain ⟨c0, -, -⟩ := ME.out.cell HI.out
   rw [hst] at c0
   have b1 := ME.out.out.cell_ 1 _ rfl
   have n2 := ME.out.an.cell_ 2 _ rfl
   have fn := ME.out.an.frozen
   go_upto_region 6 with fail
   have MF := Lib.hid (ME.out.setA rfl (sT))
   clear c0 b1 n2 fn
   generalize World.setCell _ _ _ = w8 at MF ⊢
   refine region_segs [2, 3] (by kernel_rfl) ?_
   have MF := Lib.hid (MF.out.keep (Below.refl _ _).drew)
   generalize w8.drew = w8 at MF ⊢
   obtain ⟨cs9, hs9⟩ := MF.out.ses
   have lz := MF.out.lz
   have m1 : ¬ (z = w.heap.size + 2) := by omega
   have m2 : ¬ (z + 1 = w.heap.size + 2) := by omega
   have m3 : ¬ (z = w.heap.size + 3) := by omega
   have m4 : ¬ (z + 1 = w.heap.size + 3) := by omega
   have DQ : DidQ w w8 w.heap.size B g cap n (.slice F V.rows.length c5) V.rows V.ses cs9 := ⟨MF.out.only, MF.out.rw_, MF.out.ra, MF.out.rows, hs9⟩
   have r0 := MF.out.out.cell_ 0 _ rfl
   have r1 := MF.out.out.cell_ 1 _ rfl
   have k0 := MF.out.an.cell_ 0 _ rfl
   have k1 := MF.out.an.cell_ 1 _ rfl
   have k2 := MF.out.an.cell_ 2 _ rfl
   have u0 := DQ.rw_.cell_ 0 _ rfl
   have u1 := DQ.rw_.cell_ 1 _ rfl
   have v0 := DQ.ra.cell_ 0 _ rfl
   have v1 := DQ.ra.cell_ 1 _ rfl
   have v2 := DQ.ra.cell_ 2 _ rfl
   have ff := DQ.rw_.frozen
   have fg := DQ.ra.frozen
   obtain ⟨E1, E2, E3, E4, E5⟩ := DQ.ends rfl (.slice F V.rows.length c5) (.slice (some ⟨g, 0, none⟩) n cap) (.int .i64 ak) (.string aT) (.int .i64 (sT))
   have q0 := E4.cell_ 0 _ rfl
   have q1 := E4.cell_ 1 _ rfl
   have p0 := E5.cell_ 0 _ rfl
   have p1 := E5.cell_ 1 _ rfl
   have p2 := E5.cell_ 2 _ rfl
   have FIN := Lib.hid (And.intro E1 (And.intro E2 E3))
   clear E1 E2 E3 E4 E5 DQ hs9 lz
   refine anyB_seg [0] 3 rfl (by kernel_rfl) (by kernel_rfl) (by kernel_rfl) (fun _ _ d _ _ h => by cases d <;> exact h) ?_
   simp only [pickOps, List.getElem?_toArray, List.getElem?_cons_zero]
   go_wp2_with fail
   refine ⟨rfl, by rfl, ?_⟩
   refine anyB_two (i := 1) (j := 2) (by kernel_rfl) rfl rfl (fun K hK => ?_) (fun K hK => ?_)
   ·go_simp
    refine hK.out _ _ (fun _ => (Below.refl _ _)) ?_
    clear hK K
    refine anyB_one (i := 2) (by kernel_rfl) rfl (fun K hK => ?_)
    go_simp
    refine hK.out _ _ (fun h => absurd (by decide) h) ?_
    clear hK K
    refine anyB_one (i := 3) (by kernel_rfl) rfl (fun K hK => ?_)
    go_simp
    refine hK.out _ _ (fun h => absurd (by decide) h) ?_
    clear hK K
    refine anyB_done (by kernel_rfl) ?_ _
    clear v0 v1 v2 ff fg r0 r1 k0 k1 k2 u0 u1
    generalize World.setCell _ _ _ = w10 at FIN q0 q1 p0 p1 p2 ⊢
    go_wp2_with fail
    refine bodyPost_ret (v := .tuple #[.agg #[.slice F V.rows.length c5, .slice (some ⟨g, 0, none⟩) n cap], .agg #[.int .i64 ak, .string aT, .int .i64 sT]]) ?_ rfl ⟨_, cs9, by rw [HX.out]; rfl, by rw [HX.out]; exact FIN.out.2.1, by rw [HX.out]; exact FIN.out.2.2, FIN.out.1⟩
    simp [results, Tryd.results52, go_sem, q0, q1, p0, p1, p2]
   ·go_simp
    refine hK.out _ _ (fun h => absurd (by decide) h) ?_
    clear hK K
    refine anyB_seg [1] 1 rfl (by kernel_rfl) (by kernel_rfl) (by kernel_rfl) (fun _ _ d _ _ h => by cases d <;> exact h) ?_
    simp only [pickOps, List.getElem?_toArray, List.getElem?_cons_zero, List.getElem?_cons_succ]
    go_wp2_with fail
    refine ⟨rfl, by rfl, ?_⟩
    refine anyB_one (i := 3) (by kernel_rfl) rfl (fun K hK => ?_)
    go_simp
    refine hK.out _ _ (fun h => absurd (by decide) h) ?_
    clear hK K
    refine anyB_done (by kernel_rfl) ?_ _
    clear v0 v1 v2 ff fg r0 r1 k0 k1 k2 u0 u1
    generalize World.setCell _ _ _ = w10 at FIN q0 q1 p0 p1 p2 ⊢
    go_wp2_with fail
    refine bodyPost_ret (v := .tuple #[.agg #[.slice F V.rows.length c5, .slice (some ⟨g, 0, none⟩) n cap], .agg #[.int .i64 ak, .string aT, .int .i64 sT]]) ?_ rfl ⟨_, cs9, by rw [HX.out]; rfl, by rw [HX.out]; exact FIN.out.2.1, by rw [HX.out]; exact FIN.out.2.2, FIN.out.1⟩
    simp [results, Tryd.results52, go_sem, q0, q1, p0, p1, p2]
end Go.Proofs.YtjbnfigpflambabDoor
/- The reference's pairsMay. -/
namespace Go.Proofs.YtjbnfigpflambabDoor
open Go.ChangeShapes Go.WideShapes Go.ChangeAt Go.RowKit
set_option maxHeartbeats 8000000 in
set_option maxRecDepth 100000 in
theorem pmay_any (w : World) (v : Value) (l : List Pr) (most : Nat) (kind : Int) (hT : Tabs w) (h : PL w w.heap.size v l) :
  Calls Tryd.prog 35 #[v, .int .i64 (most : Nat), .int .i64 kind] w fun e w' => e = .returned (.bool (pairsB kind most l)) ∧ Below w.heap.size w w' := by
 obtain ⟨A, c, rfl, hc, hr, hf⟩ := h
 have hl : l.length ≤ 4398046510976 := hf.1
 have HR := Lib.hid hr
 have HF := Lib.hid hf
 have HT := Lib.hid hT
 obtain ⟨n, hN⟩ : ∃ n, l.length = n := ⟨_, rfl⟩
 rw [hN] at hl ⊢
 have HN := Lib.hid hN
 clear hr hf hc hN hT
 go_enter Tryd.func35, Tryd.ntmps35
 go_wp2_with fail
 go_loopw [7] (fun i wx => ∃ k : Nat, k ≤ n ∧ i = .int .i64 k ∧ Hid (∀ j, j < k → pairB kind l j = true) ∧ Below w.heap.size w wx) (fun i _ => n - (intOf i).toNat)
 case atStart => exact ⟨0, Nat.zero_le _, rfl, Lib.hid (fun j hj => absurd hj (Nat.not_lt_zero _)), Below.refl _ _⟩
 case round =>
  obtain ⟨k, hk, rfl, HG, hb⟩ := hrel
  have HB := Lib.hid hb
  by_cases hlt : k < n
  ·have g1 : (k : Int) < (n : Int) := by omega
   have g2 : (0 : Int) ≤ (k : Int) := by omega
   have hkl : k < l.length := by rw [HN.out]; exact hlt
   obtain ⟨ad, hA, _, x0, x1⟩ := pair_at (HR.out.below hb) hkl
   subst hA
   have hz := HF.out.2 l[k] (List.getElem_mem _)
   have hgd : l.getD k Pr.no = l[k] := getD_at hkl Pr.no
   obtain ⟨p, hp⟩ : ∃ p, l[k] = p := ⟨_, rfl⟩
   rw [hp] at x0 x1 hz hgd
   obtain ⟨pk, pv⟩ := p
   simp only at x0 x1 hz
   have HGD := Lib.hid hgd
   have HK := Lib.hid hkl
   have HC := Lib.hid (fun (w' : World) (hT : Tabs w') => fault_all ⟨kind, pk, pv⟩ w' hT hz.1 hz.2)
   obtain ⟨E, hE⟩ : ∃ E, checkE ⟨kind, pk, pv⟩ = E := ⟨_, rfl⟩
   have HE := Lib.hid hE
   rw [hE] at HC
   have hx : pairB kind l k = (decide (E = 0) && (decide (k = 0) || ltS (l.getD (k - 1) Pr.no).k pk)) := by unfold pairB; rw [HGD.out, hE]
   have HX := Lib.hid hx
   clear hp hgd hE hx hz hb
   go_upto_region 4 with fail
   refine region_segs [] (by kernel_rfl) ?_
   refine anyB_seg [0, 1, 2, 3, 4, 5, 6, 7, 8, 9, 10, 11] 2 rfl (by kernel_rfl) (by kernel_rfl) (by kernel_rfl) (fun _ _ d _ _ h => by cases d <;> exact h) ?_
   simp only [pickOps, List.getElem?_toArray, List.getElem?_cons_zero, List.getElem?_cons_succ]
   go_wp2_with fail
   refine ⟨rfl, by rfl, ?_⟩
   have B1 := Lib.hid HB.out.drew
   clear x0 x1 HB
   generalize wr.drew = x2 at B1 ⊢
   refine anyB_one (i := 12) (by kernel_rfl) rfl (fun K hK => ?_)
   go_simp
   refine (HC.out _ (HT.out.below B1.out)).mono ?_
   rintro e x3 ⟨rfl, b⟩
   refine hK.out _ _ (fun _ => b) ?_
   clear hK K
   refine anyB_seg [13] 0 rfl (by kernel_rfl) (by kernel_rfl) (by kernel_rfl) (fun _ _ d _ _ h => by cases d <;> exact h) ?_
   simp only [pickOps, List.getElem?_toArray, List.getElem?_cons_zero, List.getElem?_cons_succ]
   go_wp2_with fail
   refine ⟨rfl, by rfl, ?_⟩
   refine anyB_done (by kernel_rfl) ?_ _
   have B3 := Lib.hid (below_step B1.out (Nat.le_refl _) b)
   clear b B1 HC
   by_cases hE0 : E = 0
   ·have e1 : (E != 0) = false := by simp [hE0]
    subst hE0
    by_cases hk0 : k = 0
    ·subst hk0
     have HXX := Lib.hid (show pairB kind l 0 = true by rw [HX.out]; rfl)
     go_upto_region 6 with fail
     refine region_segs [] (by kernel_rfl) ?_
     refine anyB_seg [0, 1, 2, 3, 4, 5, 6, 7, 8, 9, 10, 11, 12, 13, 14, 15] 0 rfl (by kernel_rfl) (by kernel_rfl) (by kernel_rfl) (fun _ _ d _ _ h => by cases d <;> exact h) ?_
     simp only [pickOps, List.getElem?_toArray, List.getElem?_cons_zero, List.getElem?_cons_succ]
     go_wp2_with fail
     refine ⟨rfl, by rfl, ?_⟩
     refine anyB_done (by kernel_rfl) ?_ _
     have B4 := Lib.hid B3.out.drew
     go_wp2_with fail
     go_roundw
     case rel => exact ⟨1, by omega, by go_num, Lib.hid (fun j hj => (show 0 = j by omega) ▸ HXX.out), B4.out⟩
     case measure => simp [intOf]; omega
    ·have hkm : k - 1 < l.length := by have := HK.out; omega
     obtain ⟨ad2, hA2, _, d1, -⟩ := pair_at (HR.out.below B3.out) hkm
     obtain rfl : ad = ad2 := by simpa using hA2
     obtain ⟨ad3, hA3, _, y0, -⟩ := pair_at (HR.out.below B3.out) HK.out
     obtain rfl : ad = ad3 := by simpa using hA3
     have hpk : l[k]'HK.out = ⟨pk, pv⟩ := by rw [← HGD.out, getD_at HK.out]
     have hgm : (l.getD (k - 1) Pr.no).k = l[k - 1].k := by rw [getD_at hkm]
     rw [hpk] at y0
     obtain ⟨q, hq⟩ : ∃ q, l[k - 1].k = q := ⟨_, rfl⟩
     rw [hq] at d1 hgm
     have hx2 := HX.out
     rw [hgm] at hx2
     have g3 : (0 : Int) < (k : Int) := by omega
     have g4 : (0 : Int) ≤ (k : Int) - 1 := by omega
     have g5 : (k : Int) - 1 < (n : Int) := by omega
     have g6 : ((k : Int) - 1).toNat = k - 1 := by omega
     have g7 : (1 : Int) ≤ (k : Int) := by omega
     have g8 : wrap64 ((k : Int) - 1) = (k : Int) - 1 := IntWalk.wrap64_in _ (by omega)
     have hk0' : decide (k = 0) = false := by simpa using hk0
     rw [hk0'] at hx2
     have HX2 := Lib.hid hx2
     have HK0 := Lib.hid hk0
     clear hA2 hA3 hpk hgm hq hx2 hk0' hkm
     cases hlt2 : ltS q pk with
     | true =>
      have e2 : Op.bytesLess pk.toList q.toList = false := ltS_asymm hlt2
      have e3 : (pk.toList == q.toList) = false := ref_str_no fun e => ltS_ne hlt2 e.symm
      have HXX := Lib.hid (show pairB kind l k = true by rw [HX2.out, hlt2]; rfl)
      clear hlt2
      go_upto_region 6 with fail
      refine region_segs [] (by kernel_rfl) ?_
      refine anyB_seg [0, 1, 2, 3, 4, 5, 6, 7, 8, 9, 10, 11, 12, 13, 14, 15] 0 rfl (by kernel_rfl) (by kernel_rfl) (by kernel_rfl) (fun _ _ d _ _ h => by cases d <;> exact h) ?_
      simp only [pickOps, List.getElem?_toArray, List.getElem?_cons_zero, List.getElem?_cons_succ]
      go_wp2_with fail
      refine ⟨rfl, by rfl, ?_⟩
      refine anyB_done (by kernel_rfl) ?_ _
      have B4 := Lib.hid B3.out.drew
      clear y0 d1
      go_wp2_with fail
      go_roundw
      case rel => exact ⟨k + 1, by omega, by go_num, Lib.hid (fun j hj => (Nat.lt_succ_iff_lt_or_eq.1 hj).elim (fun h => HG.out j h) (fun h => h ▸ HXX.out)), B4.out⟩
      case measure => simp [intOf]; omega
     | false =>
      have HXX := Lib.hid (show pairsB kind most l = false from pairsB_no HK.out (by rw [HX2.out, hlt2]; rfl))
      cases hlt3 : ltS pk q with
      | true =>
       have e2 : Op.bytesLess pk.toList q.toList = true := hlt3
       clear hlt2 hlt3
       go_upto_region 6 with fail
       refine region_segs [] (by kernel_rfl) ?_
       refine anyB_seg [0, 1, 2, 3, 4, 5, 6, 7, 8, 9, 10, 11, 12, 13, 14, 15] 0 rfl (by kernel_rfl) (by kernel_rfl) (by kernel_rfl) (fun _ _ d _ _ h => by cases d <;> exact h) ?_
       simp only [pickOps, List.getElem?_toArray, List.getElem?_cons_zero, List.getElem?_cons_succ]
       go_wp2_with fail
       refine ⟨rfl, by rfl, ?_⟩
       refine anyB_done (by kernel_rfl) ?_ _
       have B4 := Lib.hid B3.out.drew
       clear y0 d1
       go_wp2_with fail
       go_ret
       exact ⟨by rw [HXX.out]; rfl, B4.out⟩
      | false =>
       obtain rfl := ltS_total hlt2 hlt3
       clear hlt2 hlt3
       go_upto_region 6 with fail
       refine region_segs [] (by kernel_rfl) ?_
       refine anyB_seg [0, 1, 2, 3, 4, 5, 6, 7, 8, 9, 10, 11, 12, 13, 14, 15] 0 rfl (by kernel_rfl) (by kernel_rfl) (by kernel_rfl) (fun _ _ d _ _ h => by cases d <;> exact h) ?_
       simp only [pickOps, List.getElem?_toArray, List.getElem?_cons_zero, List.getElem?_cons_succ]
       go_wp2_with fail
       refine ⟨rfl, by rfl, ?_⟩
       refine anyB_done (by kernel_rfl) ?_ _
       have B4 := Lib.hid B3.out.drew
       clear y0 d1
       go_wp2_with fail
       go_ret
       exact ⟨by rw [HXX.out]; rfl, B4.out⟩
   ·have e1 : (E != 0) = true := by simp [hE0]
    have e1' : ¬ E = 0 := hE0
    have HXX := Lib.hid (show pairsB kind most l = false from pairsB_no HK.out (by rw [HX.out]; simp [hE0]))
    go_wp2_with fail
    go_ret
    exact ⟨by rw [HXX.out]; rfl, B3.out⟩
  ·have g1 : (n : Int) ≤ (k : Int) := by omega
   have HXX := Lib.hid (show pairsB kind most l = decide (n ≤ most) by rw [pairsB_yes fun i hi => HG.out i (by rw [HN.out] at hi; omega), HN.out])
   clear hb
   by_cases hm : n ≤ most
   ·have g3 : (n : Int) ≤ (most : Int) := by omega
    have HY := Lib.hid (show pairsB kind most l = true by rw [HXX.out]; simpa using hm)
    go_wp2_with fail
    go_ret
    exact ⟨by rw [HY.out]; rfl, HB.out⟩
   ·have g3 : ¬ (n : Int) ≤ (most : Int) := by omega
    have g4 : (most : Int) < (n : Int) := by omega
    have HY := Lib.hid (show pairsB kind most l = false by rw [HXX.out]; simpa using hm)
    go_wp2_with fail
    go_ret
    exact ⟨by rw [HY.out]; rfl, HB.out⟩
end Go.Proofs.YtjbnfigpflambabDoor
