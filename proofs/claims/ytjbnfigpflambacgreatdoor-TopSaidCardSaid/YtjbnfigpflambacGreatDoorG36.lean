/- slices.Equal on deeds, on texts and tillermantop.same, for what is the same. slices.Clone of acts; the plain law of TopTwice. Small laws on an outcome in memory that the tops share. The walk of TopTwice: it returns true. slices.Grow of nothing and slices.Concat over acts. Plain laws, no program: TopGone: where every client went, nothing is left of one. Plain laws of outcomes: TopPrivate, TopCuts, TopGone. slices.DeleteFunc over acts: those that close or ask to go are left out. Plain part of TopCuts: the acts cut in two. Small things of TopGone. -/
import Derived.Test.YtjbnfigpflambacGreatDoorG02
import Derived.Test.YtjbnfigpflambacGreatDoorG04
import Derived.Test.YtjbnfigpflambacGreatDoorG06
import Derived.Test.YtjbnfigpflambacGreatDoorG22
import Derived.Test.YtjbnfigpflambacGreatDoorG23
import Derived.Test.YtjbnfigpflambacGreatDoorG25
import Derived.Test.YtjbnfigpflambacGreatDoorG26
import Derived.Test.YtjbnfigpflambacGreatDoorG31
import Derived.Test.YtjbnfigpflambacGreatDoorG35
import Derived.Lib.AppendZeros
import Derived.Deep.CutBlock
import Derived.Lib.SliceRun
import Derived.Maps.AppendAt
/- slices.Equal on deeds, on texts and tillermantop.same, for what is the same. -/
namespace Go.Proofs.YtjbnfigpflambacGreatDoor
open Go.ChangeShapes Go.WideShapes Go.ChangeAt Go.RowKit
structure DeAt (w : World) (p : Addr) (d : De) : Prop where
 c : w.cell? p = some (.int .i64 (d.c : Int))
 k : w.cell? ⟨p.block, p.off + 1, none⟩ = some (.int .i64 d.x.k)
 key : w.cell? ⟨p.block, p.off + 2, none⟩ = some (.string d.x.key)
 val : w.cell? ⟨p.block, p.off + 3, none⟩ = some (.string d.x.val)
 kind : w.cell? ⟨p.block, p.off + 4, none⟩ = some (.int .i64 d.a.kind)
 text : w.cell? ⟨p.block, p.off + 5, none⟩ = some (.string d.a.text)
 st : w.cell? ⟨p.block, p.off + 6, none⟩ = some (.int .i64 d.a.st)
theorem DeAt.below {w w' : World} {B : Nat} {p : Addr} {x : De} (h : DeAt w p x) (hp : p.block < B) (hb : Below B w w') : DeAt w' p x :=
 ⟨(hb.cell hp).trans h.c, (hb.cell (by exact hp)).trans h.k, (hb.cell (by exact hp)).trans h.key, (hb.cell (by exact hp)).trans h.val, (hb.cell (by exact hp)).trans h.kind, (hb.cell (by exact hp)).trans h.text, (hb.cell (by exact hp)).trans h.st⟩
theorem OwnO.most {w : World} {B : Nat} {e : TypeId} {size n : Nat} {v : Value} {xs : List Value} (h : OwnO w B e size v n xs) : n ≤ maxLen := by
 rcases h.2 with ⟨_, rfl⟩ | ⟨_, _, _, _, _, _, _, h1, h2, _⟩
 ·exact Nat.zero_le _
 ·omega
end Go.Proofs.YtjbnfigpflambacGreatDoor
/- slices.Clone of acts; the plain law of TopTwice. -/
namespace Go.Proofs.YtjbnfigpflambacGreatDoor
open Go.ChangeShapes Go.WideShapes Go.ChangeAt Go.RowKit
theorem acV_one (l : List Ac) : ∀ u ∈ acV l, u.oneCell' = true := by
 intro u hu
 obtain ⟨a, _, h⟩ := List.mem_flatMap.1 hu
 simp only [List.mem_cons, List.not_mem_nil, or_false] at h
 rcases h with rfl | rfl | rfl <;> rfl
end Go.Proofs.YtjbnfigpflambacGreatDoor
/- Small laws on an outcome in memory that the tops share. -/
namespace Go.Proofs.YtjbnfigpflambacGreatDoor
open Go.ChangeShapes Go.WideShapes Go.ChangeAt Go.RowKit
theorem outR_form {w : World} {B : Nat} {vs vd vr : Value} {o : Outc} (h : OutR w B vs vd vr o) : ∃ A1 c1 A2 c2 A3 c3, vs = .slice A1 o.sent.length c1 ∧ vd = .slice A2 o.deeds.length c2 ∧ vr = .slice A3 o.rows.length c3 := by
 obtain ⟨A1, c1, h1, _⟩ := h.sent.form
 obtain ⟨A2, c2, h2, _⟩ := h.deeds.form
 obtain ⟨A3, c3, h3⟩ := h.rows.form
 exact ⟨A1, c1, A2, c2, A3, c3, h1, h2, h3⟩
theorem DeAt.lt {w : World} {p : Addr} {x : De} (h : DeAt w p x) : p.block < w.heap.size := World.block_lt_of_cell? w _ h.c
theorem setup_ok (m n : Int) : ∃ k : Nat, 1 + pick n 4 = (k : Int) ∧ 1 ≤ k ∧ k ≤ 4 ∧ setupE (1 + pick m 3) k = 0 := by
 have h1 := pick_bd m 3 (by decide)
 have h2 := pick_bd n 4 (by decide)
 refine ⟨(1 + pick n 4).toNat, by omega, by omega, by omega, ?_⟩
 unfold setupE
 rw [if_neg (by omega), if_neg (by omega)]
end Go.Proofs.YtjbnfigpflambacGreatDoor
/- The walk of TopTwice: it returns true. -/
namespace Go.Proofs.YtjbnfigpflambacGreatDoor
open Go.ChangeShapes Go.WideShapes Go.ChangeAt Go.RowKit
structure TwS (wr wx : World) (z : Option Nat) (rs : List (Value × List Ac)) (X : Option (Value × Value × Value × Outc)) : Prop where
 hb : Below wr.heap.size wr wx
 bz : ∀ q, z = some q → Blk wx q 29 #[.slice none 0 0, .slice none 0 0, .slice none 0 0] ∧ wr.heap.size ≤ q
 rows : ∀ p ∈ rs, wx.ownsRow wr.heap.size 54 3 p.1 p.2.length (acV p.2)
 out : ∀ vs vd vr o, X = some (vs, vd, vr, o) → OutR wx wr.heap.size vs vd vr o
section
variable {wr wx wy : World} {z : Option Nat} {rs : List (Value × List Ac)} {X : Option (Value × Value × Value × Outc)}
theorem ownsRow_base {w : World} {B B' : Nat} {t : TypeId} {size n : Nat} {v : Value} {xs : List Value} (h : w.ownsRow B t size v n xs) (hB : B' ≤ B) : w.ownsRow B' t size v n xs := by
 refine ⟨h.1, h.2.imp id ?_⟩
 rintro ⟨g, cap, cur, e, hb, r⟩
 exact ⟨g, cap, cur, e, Nat.le_trans hB hb, r⟩
theorem own_ge {w : World} {B : Nat} {t : TypeId} {size n : Nat} {v : Value} {xs : List Value} (h : w.ownsRow B t size v n xs) : ∀ k, v.ownBlock = some k → B ≤ k := fun k hk => (OwnO.of_own h).lt k hk |>.1
theorem TwS.start (wr : World) : TwS wr wr none [] none := ⟨Below.refl _ _, fun _ h => (by cases h), fun _ h => (by cases h), fun _ _ _ _ h => (by cases h)⟩
theorem TwS.keep (h : TwS wr wx z rs X) (hb : Below wx.heap.size wx wy) : TwS wr wy z rs X :=
 ⟨below_step h.hb (Nat.le_refl _) hb, fun q hq => ⟨(h.bz q hq).1.keep hb, (h.bz q hq).2⟩, fun p hp => (Keeps.of_below hb).own (h.rows p hp), fun vs vd vr o e => (h.out vs vd vr o e).keep hb⟩
theorem TwS.fz (h : TwS wr wx none rs X) : TwS wr (wx.alloc (.cells #[.slice none 0 0, .slice none 0 0, .slice none 0 0] 29)) (some wx.heap.size) rs X := by
 have k := h.keep (boxed wx (.cells #[.slice none 0 0, .slice none 0 0, .slice none 0 0] 29))
 exact ⟨k.hb, fun q hq => (by injection hq with hq; subst hq; exact ⟨Blk.new wx _ _, h.hb.size⟩), k.rows, k.out⟩
theorem TwS.add (h : TwS wr wx z rs X) (hb : Below wx.heap.size wx wy) {v : Value} {l : List Ac} (o : wy.ownsRow wx.heap.size 54 3 v l.length (acV l)) : TwS wr wy z ((v, l) :: rs) X := by
 have k := h.keep hb
 refine ⟨k.hb, k.bz, fun p hp => ?_, k.out⟩
 rcases List.mem_cons.1 hp with rfl | hp
 ·exact ownsRow_base o h.hb.size
 ·exact k.rows p hp
theorem TwS.play {vs vd vr : Value} {o : Outc} (h : TwS wr wx z rs X) (o1 : OutR wy wx.heap.size vs vd vr o) (hb : Below wx.heap.size wx wy) : TwS wr wy z rs (some (vs, vd, vr, o)) := by
 have k := h.keep hb
 refine ⟨k.hb, k.bz, k.rows, fun vs' vd' vr' o' e => ?_⟩
 injection e with e
 injection e with e1 e2
 injection e2 with e2 e3
 injection e3 with e3 e4
 subst e1 e2 e3 e4
 exact o1.base h.hb.size
structure TwN (W0 wr wy : World) (z : Nat) (vs vd vr : Value) (o : Outc) : Prop where
 hb : Below wr.heap.size wr wy
 box : BoxO wy W0.heap.size z vs vd vr o
theorem TwS.fin {W0 : World} {q : Nat} {vs vd vr : Value} {o : Outc} (h : TwS wr wx (some q) rs (some (vs, vd, vr, o))) (hW : W0.heap.size ≤ wr.heap.size) (e : wy = ((wx.setCell ⟨q, 0, none⟩ vs).setCell ⟨q, 1, none⟩ vd).setCell ⟨q, 2, none⟩ vr) : TwN W0 wr wy q vs vd vr o := by
 subst e
 obtain ⟨b, lb⟩ := h.bz _ rfl
 have s0 := b.set_ 0 vs
 have s1 := s0.set_ 1 vd
 have s2 := s1.set_ 2 vr
 have k : ∀ t, 29 ≠ t → Keeps t wx (((wx.setCell ⟨q, 0, none⟩ vs).setCell ⟨q, 1, none⟩ vd).setCell ⟨q, 2, none⟩ vr) := fun t ht =>
  ((Keeps.set_ (p := ⟨q, 0, none⟩) b ht vs).trans (Keeps.set_ (p := ⟨q, 1, none⟩) s0 ht vd)).trans (Keeps.set_ (p := ⟨q, 2, none⟩) s1 ht vr)
 exact ⟨((h.hb.setCell (p := ⟨q, 0, none⟩) lb _).setCell (p := ⟨q, 1, none⟩) lb _).setCell (p := ⟨q, 2, none⟩) lb _, Nat.le_trans hW lb, s2, ((h.out _ _ _ _ rfl).base hW).keeps (k _ (by decide)) (k _ (by decide)) (k _ (by decide))⟩
end
theorem TwS.drew (wr : World) : TwS wr wr.drew none [] none := (TwS.start wr).keep (Below.refl _ _).drew
theorem sent_at {w : World} {B n cap : Nat} {A : Option Addr} {vd vr : Value} {o : Outc} (h : OutR w B (.slice A n cap) vd vr o) (h6 : o.sent.length = 6) {k : Nat} (hk : k < 6) : n = 6 ∧ 6 ≤ cap ∧ ∃ ad, A = some ad ∧ w.cell? (ad.add k) = some (.string (o.sent.getD k ByteArray.empty)) := by
 have h1 := h.sent
 rw [h6] at h1
 obtain ⟨A', c', e, hc, r⟩ := h1.reads
 injection e with e1 e2 e3
 subst e1 e2 e3
 obtain ⟨ad, e, _, hx⟩ := r.2 (by decide)
 refine ⟨rfl, hc, ad, e, ?_⟩
 refine hx k _ ?_
 rw [List.getElem?_map, List.getElem?_eq_getElem (by omega), List.getD_eq_getElem?_getD, List.getElem?_eq_getElem (by omega)]
 rfl
end Go.Proofs.YtjbnfigpflambacGreatDoor
/- slices.Grow of nothing and slices.Concat over acts. -/
namespace Go.Proofs.YtjbnfigpflambacGreatDoor
open Go.ChangeShapes Go.WideShapes Go.ChangeAt Go.RowKit
theorem own_none {w : World} {B g cap : Nat} {cs : Array Value} (h : Blk w g 54 cs) (hB : B ≤ g) (hc : cap ≤ maxLen) (hs : cs.size = cap * 3) : w.ownsRow B 54 3 (.slice (some ⟨g, 0, none⟩) 0 cap) 0 [] :=
 ⟨rfl, .inr ⟨g, cap, cs, rfl, hB, h, Nat.zero_le _, hc, hs, rfl⟩⟩
set_option maxHeartbeats 2000000 in
set_option maxRecDepth 100000 in
theorem grow_nil (w : World) (n : Nat) (hn : n ≤ 1000) :
  Calls Tryz.prog 67 #[.slice none 0 0, .int .i64 (n : Int)] w fun e w' => ∃ v', e = .returned v' ∧ w'.ownsRow w.heap.size 54 3 v' 0 [] ∧ Below w.heap.size w w' := by
 obtain ⟨i0, hi0, hz0, hz1, hz2⟩ := info_parts act_info
 rcases Nat.eq_zero_or_pos n with rfl | h0
 ·go_enter Tryz.func67, Tryz.ntmps67
  go_wp2_with fail
  go_ret
  exact ⟨_, rfl, World.ownsRow_nil _ _ _ _, Below.refl _ _⟩
 ·have g1 : (0 : Int) < (n : Int) := by omega
  have g2 : (0 : Int) ≤ (n : Int) := by omega
  have hr := fun ty => Lib.run_append_nil_zeros (P := Tryz.prog) w 24 3 ty 54 i0 _ .i64 .i64 Tryz.underlying24 Tryz.underlying3 hi0 hz0 n h0 (by rw [hz1]; decide) (by omega) (by rw [hz2]; omega)
  have hge := grownCap_ge w n 0 54
  have hle := grownCap_le_maxLen w n 0 54 (by unfold maxLen; omega)
  obtain ⟨cp, hcp⟩ : ∃ c, grownCap w n 0 54 = c := ⟨_, rfl⟩
  rw [hcp] at hr hge hle
  obtain ⟨cs, hcs⟩ : ∃ c, Builtin.zeroCells (Value.agg #[.int .i64 0, .int .i64 0, .string ⟨#[]⟩]).cells n ++ Builtin.zeroCells (Value.agg #[.int .i64 0, .int .i64 0, .string ⟨#[]⟩]).cells (cp - n) = c := ⟨_, rfl⟩
  have hsz : cs.size = cp * 3 := by
   rw [← hcs]
   have e : (Value.agg #[.int .i64 0, .int .i64 0, .string ⟨#[]⟩]).cells = #[.int .i64 0, .int .i64 0, .string ⟨#[]⟩] := rfl
   rw [e]
   unfold Builtin.zeroCells
   simp
   omega
  rw [hcs] at hr
  have HF := Lib.hid (show (w.drew.alloc (.cells cs 54)).ownsRow w.heap.size 54 3 (.slice (some ⟨w.heap.size, 0, none⟩) 0 cp) 0 [] from own_none (Blk.new w.drew _ cs) (Nat.le_refl _) hle hsz)
  have HB := Lib.hid (show Below w.heap.size w (w.drew.alloc (.cells cs 54)) from ((Below.refl _ _).drew).alloc (Nat.le_refl _) _)
  have g5 : (0 : Int) ≤ (cp : Int) := by omega
  obtain ⟨wy, hwy⟩ : ∃ wy, w.drew.alloc (.cells cs 54) = wy := ⟨_, rfl⟩
  rw [hwy] at HF HB hr
  clear hcs hsz hcp hwy
  go_enter Tryz.func67, Tryz.ntmps67
  go_wp2_with (at_builtin; refine Lib.wpList_append_run w rfl (.tmp 20) (.tmp 21) 24 3 rfl _ _ rfl rfl _ _ (hr _) ?_)
  go_ret
  exact ⟨_, rfl, HF.out, HB.out⟩
def catL (vs : List (Value × List Ac)) : List Ac := vs.flatMap (·.2)
theorem cat_take {vs : List (Value × List Ac)} {k : Nat} (h : k < vs.length) : catL (vs.take (k + 1)) = catL (vs.take k) ++ vs[k].2 := by
 unfold catL
 rw [List.take_succ_eq_append_getElem h, List.flatMap_append]
 simp
theorem cat_le (vs : List (Value × List Ac)) (k : Nat) : (catL (vs.take k)).length ≤ (catL vs).length := by
 have e : catL vs = catL (vs.take k) ++ catL (vs.drop k) := by
  unfold catL
  rw [← List.flatMap_append, List.take_append_drop]
 rw [e, List.length_append]
 omega
set_option maxHeartbeats 4000000 in
set_option maxRecDepth 100000 in
theorem concat_any (w : World) (zb m c : Nat) (vs : List (Value × List Ac)) (hlen : vs.length = m) (hm : m ≤ 10) (hz : ∀ i (h : i < vs.length), w.cell? ⟨zb, i, none⟩ = some vs[i].1)
  (hA : ∀ p ∈ vs, ∃ A c, p.1 = .slice A p.2.length c ∧ Reads w w.heap.size 3 A p.2.length (acV p.2)) (hs : (catL vs).length ≤ 1000) :
  Calls Tryz.prog 40 #[.slice (some ⟨zb, 0, none⟩) m c] w fun e w' => ∃ v', e = .returned v' ∧ w'.ownsRow w.heap.size 54 3 v' (catL vs).length (acV (catL vs)) ∧ Below w.heap.size w w' := by
 obtain ⟨i0, hi0, hz0, hz1, hz2⟩ := info_parts act_info
 have HZ := Lib.hid hz
 have HA := Lib.hid hA
 have HL := Lib.hid hlen
 have HS := Lib.hid hs
 clear hz hA hlen hs
 go_enter Tryz.func40, Tryz.ntmps40
 go_wp2_with fail
 go_loopw [3, 11] (fun s i wx => ∃ k : Nat, k ≤ m ∧ i = .int .i64 k ∧ s = .int .i64 ((catL (vs.take k)).length : Nat) ∧ w = wx) (fun _ i _ => m - (intOf i).toNat)
 case atStart => exact ⟨0, Nat.zero_le _, rfl, rfl, rfl⟩
 case round =>
  obtain ⟨k, hk, rfl, rfl, rfl⟩ := hrel
  by_cases hlt : k < m
  ·have g1 : (k : Int) < (m : Int) := by omega
   have g2 : (0 : Int) ≤ (k : Int) := by omega
   have hkl : k < vs.length := by rw [HL.out]; exact hlt
   have c0 := HZ.out k hkl
   have hct := cat_take hkl
   have hcl := cat_le vs (k + 1)
   have hS := HS.out
   obtain ⟨p, hp⟩ : ∃ p, vs[k] = p := ⟨_, rfl⟩
   have hAp := HA.out vs[k] (List.getElem_mem _)
   rw [hp] at c0 hct hAp
   obtain ⟨v, l⟩ := p
   obtain ⟨A, cc, e, _⟩ := hAp
   simp only at e c0 hct
   subst e
   rw [hct, List.length_append] at hcl
   have HCT := Lib.hid hct
   obtain ⟨T, hT⟩ : ∃ T, (catL (vs.take k)).length = T := ⟨_, rfl⟩
   have HTT := Lib.hid hT
   obtain ⟨n, hn⟩ : ∃ n, l.length = n := ⟨_, rfl⟩
   have HNN := Lib.hid hn
   rw [hT, hn] at hcl
   rw [hn] at c0
   rw [hT]
   have g3 : ¬ ((T : Int) + (n : Int) < 0) := by omega
   clear hp hct hT hn
   go_wp2_with fail
   go_roundw
   case rel => exact ⟨k + 1, by omega, by go_num, by rw [HCT.out, List.length_append, HTT.out, HNN.out]; go_num, by first | rfl | trivial⟩
   case measure => simp [intOf]; omega
  ·have g1 : (m : Int) ≤ (k : Int) := by omega
   have hkm : k = m := by omega
   have e : vs.take k = vs := by rw [hkm, ← HL.out, List.take_length]
   rw [e]
   obtain ⟨T, hT⟩ : ∃ T, (catL vs).length = T := ⟨_, rfl⟩
   have HTT := Lib.hid hT
   have hS := HS.out
   rw [hT] at hS ⊢
   clear hT e
   go_wp2_with fail
   refine (grow_nil _ T hS).mono ?_
   rintro e w2 ⟨v2, rfl, o2, b2⟩
   have O2 := Lib.hid o2
   have B2 := Lib.hid b2
   clear o2 b2
   go_upto_region 11 with fail
   go_loopw [6, 27] (fun u i wx => ∃ j : Nat, j ≤ m ∧ i = .int .i64 j ∧ Below w.heap.size w wx ∧ wx.ownsRow w.heap.size 54 3 u (catL (vs.take j)).length (acV (catL (vs.take j)))) (fun _ i _ => m - (intOf i).toNat)
   case atStart => exact ⟨0, Nat.zero_le _, rfl, B2.out, O2.out⟩
   case round =>
    obtain ⟨j, hj, rfl, hb, ho⟩ := hrel
    have HB := Lib.hid hb
    have HO := Lib.hid ho
    by_cases hlt2 : j < m
    ·have g1' : (j : Int) < (m : Int) := by omega
     have g2' : (0 : Int) ≤ (j : Int) := by omega
     have hkl : j < vs.length := by rw [HL.out]; exact hlt2
     have c0 := HZ.out j hkl
     have hct := cat_take hkl
     have hcl := cat_le vs (j + 1)
     obtain ⟨p, hp⟩ : ∃ p, vs[j] = p := ⟨_, rfl⟩
     have hAp := HA.out vs[j] (List.getElem_mem _)
     rw [hp] at c0 hct hAp
     obtain ⟨v, l⟩ := p
     obtain ⟨A, cc, e, rd⟩ := hAp
     simp only at e c0 hct rd
     subst e
     rw [hct, List.length_append, HTT.out] at hcl
     have HCT := Lib.hid hct
     have c1 := (hb.cell (World.block_lt_of_cell? _ _ c0)).trans c0
     have RD := Lib.hid (rd.below hb)
     obtain ⟨n, hn⟩ : ∃ n, l.length = n := ⟨_, rfl⟩
     have HNN := Lib.hid hn
     rw [hn] at c1 RD hcl
     clear hp hct hn c0 rd hb ho
     go_wp2_with (at_builtin; refine wpList_append_any _ rfl (.tmp 31) (.tmp 32) 24 rfl w.heap.size 54 i0 _ 3 32 Tryz.underlying24 hi0 hz0 hz1 hz2 rfl (by decide) _ _ _ rfl HO.out w.heap.size A n cc (acV l) rfl RD.out (acV_one l) (by unfold maxLen; omega) (by omega) HB.out.size ?_; intro v' w3 hown hgr hat)
     have B3 := Lib.hid (HB.out.grown hgr HB.out.size fun q hq => (OwnO.of_own HO.out).lt q hq |>.1)
     have O3 := Lib.hid hown
     clear hown hgr hat
     go_wp2_with fail
     go_roundw
     case rel => exact ⟨j + 1, by omega, by go_num, B3.out, by rw [HCT.out, List.length_append, HNN.out, acV_app]; exact O3.out⟩
     case measure => simp [intOf]; omega
    ·have g1' : (m : Int) ≤ (j : Int) := by omega
     have hjm : j = m := by omega
     have e : vs.take j = vs := by rw [hjm, ← HL.out, List.take_length]
     rw [e] at HO
     go_wp2_with fail
     go_ret
     exact ⟨_, rfl, by have := HO.out; rwa [HTT.out] at this ⊢, HB.out⟩
end Go.Proofs.YtjbnfigpflambacGreatDoor
/- Plain laws, no program: TopGone: where every client went, nothing is left of one. -/
namespace Go.Proofs.YtjbnfigpflambacGreatDoor
structure Cleared (i : Nat) (y : Fr × Wo) : Prop where
 pend : (y.1.c i).pend = []
 srv : (y.1.c i).srv = -1
 bytes : (y.1.c i).bytes = ⟨#[]⟩
 se : y.2.se i = Se.new
theorem next_se (y : Fr × Wo) {i j : Nat} (h : j ≠ i) : (nextM houseB y i).2.se j = y.2.se j := by
 rcases ep : (y.1.c i).pend with _ | ⟨⟨x, bad⟩, l⟩
 ·rw [next_nil _ _ _ ep]
 cases bad with
 | true => rw [next_bad _ _ _ ep]
 | false =>
  by_cases hm : y.1.mode = 3 ∧ x.k = 1
  ·rw [next_mode _ _ _ ep hm]
  ·rw [next_act _ _ _ ep hm]
   split
   ·exact (doW_mine y.2 i x).2 j h
   ·exact (doW_mine y.2 i x).2 j h
theorem clear_next {y : Fr × Wo} {i j : Nat} (hj : busy y.1 j = true) (h : Cleared i y) : Cleared i (nextM houseB y j) := by
 have hne : i ≠ j := by
  rintro rfl
  unfold busy at hj
  rw [h.pend] at hj
  simp at hj
 obtain ⟨p, l, ep⟩ : ∃ p l, (y.1.c j).pend = p :: l := by
  unfold busy at hj
  rcases e : (y.1.c j).pend with _ | ⟨p, l⟩
  ·rw [e] at hj; simp at hj
  ·exact ⟨p, l, rfl⟩
 have hb := busy_next (busy_lt hj) ep i
 refine ⟨?_, ?_, ?_, ?_⟩
 ·rw [hb.1, if_neg hne]; exact h.pend
 ·rcases hb.2.1 with e | e
  ·rw [e]; exact h.srv
  ·exact e
 ·rw [next_bytes]; exact h.bytes
 ·rw [next_se y hne]; exact h.se
theorem bind_c (f : Fr) {s j i : Nat} (h : i ≠ j) : (f.bindS s j).c i = f.c i := by
 have e : (f.bindS s j).c i = (f.set j ⟨(f.c j).bytes, (f.c j).pend, (s : Int), (f.c j).sent⟩).c i := rfl
 rw [e]
 rcases c_set_any f j ⟨(f.c j).bytes, (f.c j).pend, (s : Int), (f.c j).sent⟩ i with e | ⟨e, _⟩
 ·exact e
 ·exact absurd e h
theorem clear_step {z : Fr × PB} {y : Fr × Wo} (hs : Sim z y) {i : Nat} (h : Cleared i y) : Cleared i (stepM houseB y).1 := by
 unfold stepM
 split
 ·rename_i j hp
  exact clear_next (ready_busy (pick_ready hp).1) h
 ·rename_i hp
  have hfi : FI y.1 := hs.front ▸ hs.fi
  have hq := hfi.queue hp
  split
  ·rename_i j l s hw hi
   have hb := (hq.wait j (by rw [hw]; exact List.mem_cons_self)).2.2.1
   have hne : i ≠ j := by
    rintro rfl
    have e : busy (queueF y.1) i = busy y.1 i := rfl
    rw [e] at hb
    unfold busy at hb
    rw [h.pend] at hb
    simp at hb
   have e : ((queueF y.1).unwait.bindS s j).c i = y.1.c i := (bind_c (queueF y.1).unwait hne).trans rfl
   exact ⟨by rw [e]; exact h.pend, by rw [e]; exact h.srv, by rw [e]; exact h.bytes, h.se⟩
  ·exact ⟨h.pend, h.srv, h.bytes, h.se⟩
theorem clear_pump {z : Fr × PB} {y : Fr × Wo} (hs : Sim z y) {i : Nat} (h : Cleared i y) : Cleared i (pumpM houseB y) :=
 (pump_keeps houseB (fun y => (∃ z, Sim z y) ∧ Cleared i y) (fun _ ⟨⟨_, hz⟩, hc⟩ => ⟨⟨_, (step_sim hz).1⟩, clear_step hz hc⟩) _ y (Nat.le_refl _) ⟨⟨z, hs⟩, h⟩).2
theorem close_c (y : Fr × Wo) (i j : Nat) (h : j ≠ i) : (closeM houseB y i).1.c j = y.1.c j := by
 have e : (closeM houseB y i).1.c j = (y.1.set i ⟨⟨#[]⟩, [], -1, (y.1.c i).sent⟩).c j := rfl
 rw [e]
 rcases c_set_any y.1 i ⟨⟨#[]⟩, [], -1, (y.1.c i).sent⟩ j with e | ⟨e, _⟩
 ·exact e
 ·exact absurd e h
theorem close_mine (y : Fr × Wo) {i : Nat} (hi : i < y.1.cl.length) (hw : i < y.2.ses.length) : Cleared i (closeM houseB y i) := by
 have e : (closeM houseB y i).1.c i = ⟨⟨#[]⟩, [], -1, (y.1.c i).sent⟩ := by
  have e : (closeM houseB y i).1.c i = (y.1.set i ⟨⟨#[]⟩, [], -1, (y.1.c i).sent⟩).c i := rfl
  rw [e, c_set _ hi, if_pos rfl]
 refine ⟨by rw [e], by rw [e], by rw [e], ?_⟩
 show (y.2.put i Se.new).se i = _
 rw [se_put _ hw, if_pos rfl]
theorem close_other {y : Fr × Wo} {i j : Nat} (hj : j ≠ i) (hw : i < y.2.ses.length) (h : Cleared j y) : Cleared j (closeM houseB y i) := by
 have e := close_c y i j hj
 refine ⟨by rw [e]; exact h.pend, by rw [e]; exact h.srv, by rw [e]; exact h.bytes, ?_⟩
 show (y.2.put i Se.new).se j = _
 rw [se_put _ hw, if_neg hj]
 exact h.se
theorem step_mode (v : Fr × Wo) : (stepM houseB v).1.1.mode = v.1.mode := by
 unfold stepM
 split
 ·rename_i j hp
  unfold nextM
  split
  ·rfl
  ·simp only
   split
   ·rfl
   split
   ·rfl
   split
   ·rfl
   ·rfl
 ·split
  ·rfl
  ·rfl
def closeA (i : Nat) : Ac := ⟨2, (i : Int), ⟨#[]⟩⟩
def closes : List Ac := (List.range 6).map closeA
theorem Sim.ses {z : Fr × PB} {y : Fr × Wo} (h : Sim z y) : y.2.ses.length = 6 := h.rb.ses6
theorem closes_clear {z : Fr × PB} {y : Fr × Wo} (hs : Sim z y) : ∀ n, n ≤ 6 → (∃ z', Sim z' (runM houseB y ((List.range n).map closeA))) ∧ (runM houseB y ((List.range n).map closeA)).1.mode = y.1.mode ∧
  ∀ i, i < n → Cleared i (runM houseB y ((List.range n).map closeA)) := by
 intro n
 induction n with
 | zero => exact fun _ => ⟨⟨z, hs⟩, rfl, fun i hi => by omega⟩
 | succ n ih =>
  intro hn
  obtain ⟨⟨z1, h1⟩, hm, h2⟩ := ih (by omega)
  rw [List.range_succ, List.map_append, run_app]
  generalize runM houseB y ((List.range n).map closeA) = y1 at h1 h2 hm ⊢
  have e : runM houseB y1 (List.map closeA [n]) = pumpM houseB (closeM houseB y1 n) := by
   show actM houseB y1 (closeA n) = _
   unfold actM closeA
   rw [if_pos rfl]
   rfl
  rw [e]
  have hc := h1.close (i := n) (by omega)
  have hl : n < y1.2.ses.length := by rw [h1.ses]; omega
  have h6 : n < y1.1.cl.length := by rw [← h1.front, h1.fi.six]; omega
  refine ⟨⟨_, hc.pump⟩, ?_, fun i hi => ?_⟩
  ·exact (pump_keeps houseB (fun v => v.1.mode = y1.1.mode) (fun v hv => (step_mode v).trans hv) _ (closeM houseB y1 n) (Nat.le_refl _) rfl).trans hm
  ·refine clear_pump hc ?_
   by_cases e : i = n
   ·subst e; exact close_mine y1 h6 hl
   ·exact close_other e hl (h2 i (by omega))
def aK : ByteArray := ⟨#[97]⟩
def getA : ByteArray := ⟨#[81, 5, 103, 101, 116, 32, 97]⟩
def runA : ByteArray := ⟨#[81, 6, 101, 120, 101, 99, 32, 97]⟩
def noneM : ByteArray := ⟨#[82, 5, 73, 110, 111, 110, 101]⟩
def notM : ByteArray := ⟨#[82, 14, 73, 33, 110, 111, 116, 32, 112, 114, 101, 112, 97, 114, 101, 100]⟩
theorem clear_calm {z : Fr × PB} {y : Fr × Wo} (hs : Sim z y) (h : ∀ i, i < 6 → Cleared i y) {c : Nat} (ho : 1 ≤ y.1.owner.length) : AtRest [c] y.1 := by
 have hfi : FI y.1 := hs.front ▸ hs.fi
 have hb : ∀ j, busy y.1 j = false := by
  intro j
  by_cases hj : j < 6
  ·exact busy_nil (h j hj).pend
  ·refine busy_nil ?_
   rw [c_out (by rw [hfi.six]; omega)]
   rfl
 refine ⟨fun i hi hn => absurd (h i hi).srv hn, ho, by simp, hb, ?_⟩
 rcases e : y.1.wait with _ | ⟨i, l⟩
 ·rfl
 ·have := (hfi.wait i (by rw [e]; exact List.mem_cons_self)).2.2.1
  rw [hb] at this
  cases this
theorem step_owner {β : Type} (B : Bh β) (z : Fr × β) : (stepM B z).1.1.owner.length = z.1.owner.length := by
 unfold stepM
 split
 ·rename_i i hp
  exact (next_pend B z i (ready_busy (pick_ready hp).1)).2
 ·split
  ·exact List.length_set
  ·rfl
theorem pump_owner {β : Type} (B : Bh β) (z : Fr × β) : (pumpM B z).1.owner.length = z.1.owner.length :=
 pump_keeps B (fun v => v.1.owner.length = z.1.owner.length) (fun v hv => (step_owner B v).trans hv) _ z (Nat.le_refl _) rfl
theorem close_owner {β : Type} (B : Bh β) (z : Fr × β) (i : Nat) : (closeM B z i).1.owner.length = z.1.owner.length := by
 unfold closeM
 simp only
 split
 ·exact List.length_set
 ·rfl
theorem act_owner {β : Type} (B : Bh β) (z : Fr × β) (a : Ac) : (actM B z a).1.owner.length = z.1.owner.length := by
 unfold actM
 split
 ·rw [pump_owner, close_owner]
 ·unfold deliverM
  simp only
  split
  ·rw [pump_owner, close_owner, pump_owner]; rfl
  ·rw [pump_owner]; rfl
theorem runs_owner {β : Type} (B : Bh β) : ∀ (l : List Ac) (z : Fr × β), (runM B z l).1.owner.length = z.1.owner.length
 | [], _ => rfl
 | a :: l, z => (runs_owner B l (actM B z a)).trans (act_owner B z a)
theorem run_owner (mode : Int) (n : Nat) (l : List Ac) : (runM houseB (startF mode n, startH) l).1.owner.length = n := by
 rw [runs_owner]
 simp [startF]
theorem st_ext {x : St} {k : Int} {a b : ByteArray} (h1 : x.k = k) (h2 : x.key = a) (h3 : x.val = b) : x = ⟨k, a, b⟩ := by
 cases x
 cases h1
 cases h2
 cases h3
 rfl
theorem feed_two : feedB (getA ++ runA) = ([(⟨6, aK, ⟨#[]⟩⟩, false), (⟨8, aK, ⟨#[]⟩⟩, false)], ⟨#[]⟩, false) := by
 have e1 : wholeB (getA ++ runA) = true := by decide +kernel
 have e2 : restAt (getA ++ runA) = runA := by decide +kernel
 have e3 : wholeB runA = true := by decide +kernel
 have e4 : restAt runA = ⟨#[]⟩ := by decide +kernel
 have e5 : askedOf (getA ++ runA) = (⟨6, aK, ⟨#[]⟩⟩, false) := Prod.ext (st_ext (by decide +kernel) (by decide +kernel) (by decide +kernel)) (by decide +kernel)
 have e6 : askedOf runA = (⟨8, aK, ⟨#[]⟩⟩, false) := Prod.ext (st_ext (by decide +kernel) (by decide +kernel) (by decide +kernel)) (by decide +kernel)
 rw [feedB_go e1 (by decide +kernel), e2, feedB_go e3 (by decide +kernel), e4, feedB_no (by decide +kernel), e5, e6]
theorem get_new {w : Wo} {c : Nat} (hc : c < w.ses.length) (h : w.se c = Se.new) : (doW w c ⟨6, aK, ⟨#[]⟩⟩).2 = ⟨3, ⟨#[]⟩, 0⟩ ∧ (doW w c ⟨6, aK, ⟨#[]⟩⟩).1.rows = w.rows ∧ (doW w c ⟨6, aK, ⟨#[]⟩⟩).1.se c = Se.new := by
 have e : did w c ⟨6, aK, ⟨#[]⟩⟩ = (w, foundA none) := by
  unfold did did1 getW
  rw [h]
  rfl
 unfold doW
 rw [e]
 refine ⟨?_, rfl, ?_⟩
 ·rw [h]; rfl
 ·rw [se_put w hc, if_pos rfl, h]; rfl
theorem run_new {w : Wo} {c : Nat} (h : w.se c = Se.new) : (doW w c ⟨8, aK, ⟨#[]⟩⟩).2 = ⟨4, tNotPrep, 0⟩ ∧ (doW w c ⟨8, aK, ⟨#[]⟩⟩).1.rows = w.rows := by
 have e : did w c ⟨8, aK, ⟨#[]⟩⟩ = (w, noA tNotPrep) := by
  unfold did execW
  rw [h]
  rfl
 unfold doW
 rw [e]
 refine ⟨?_, rfl⟩
 rw [h]; rfl
theorem tell_none : tellM ⟨3, ⟨#[]⟩, 0⟩ = noneM := by decide +kernel
theorem tell_not : tellM ⟨4, tNotPrep, 0⟩ = notM := by decide +kernel
theorem gone_law (mode : Int) (n : Nat) (hn : n ≤ 8) (h1 : 1 ≤ n) (l : List Ac) (hl : ∀ a ∈ l, a.c.toNat < 6) {c : Nat} (hc : c < 6) :
  (((runM houseB (startF mode n, startH) ((l ++ closes) ++ [⟨1, (c : Int), getA ++ runA⟩])).1.c c).sent = ((runM houseB (startF mode n, startH) (l ++ closes)).1.c c).sent ++ noneM ++ notM) ∧
  (runM houseB (startF mode n, startH) ((l ++ closes) ++ [⟨1, (c : Int), getA ++ runA⟩])).2.rows = (runM houseB (startF mode n, startH) (l ++ closes)).2.rows := by
 have hs := run_sim mode n hn l hl
 obtain ⟨⟨z1, k1⟩, -, k2⟩ := closes_clear hs 6 (Nat.le_refl _)
 have hrun : runM houseB (runM houseB (startF mode n, startH) l) ((List.range 6).map closeA) = runM houseB (startF mode n, startH) (l ++ closes) := (run_app _ _ _ _).symm
 rw [hrun] at k1 k2
 rw [run_app houseB _ (l ++ closes)]
 have ho : (runM houseB (startF mode n, startH) (l ++ closes)).1.owner.length = n := run_owner mode n _
 obtain ⟨y, hy⟩ : ∃ y, runM houseB (startF mode n, startH) (l ++ closes) = y := ⟨_, rfl⟩
 rw [hy] at k1 k2 ho ⊢
 obtain ⟨f, w⟩ := y
 have hcalm := clear_calm k1 k2 (c := c) (by omega)
 have ha := run_calm [⟨1, (c : Int), getA ++ runA⟩] (S := [c]) (by intro a ha; rw [List.mem_singleton] at ha; subst ha; exact ⟨by simp, by simpa using hc⟩) k1 hcalm
 have kc := k2 c hc
 have hw : c < w.ses.length := by rw [k1.ses]; exact hc
 have hse : w.se c = Se.new := kc.se
 have hby : (f.c c).bytes = ⟨#[]⟩ := kc.bytes
 have hv : [(⟨1, (c : Int), getA ++ runA⟩ : Ac)].foldl (actV f.mode) (avOf (f, w)) = (avOf (f, w)).fed f.mode c (getA ++ runA) := by
  show actV f.mode (avOf (f, w)) ⟨1, (c : Int), getA ++ runA⟩ = _
  unfold actV
  have e0 : (avOf (f, w)).bytes (c : Int).toNat ++ (getA ++ runA) = getA ++ runA := by
   show (f.c c).bytes ++ (getA ++ runA) = _
   rw [hby]
   exact arr_eq (by simp)
  rw [if_neg (by simp)]
  simp only [e0]
  rw [feed_two]
  simp
 rw [hv] at ha
 have e0 : (avOf (f, w)).bytes c ++ (getA ++ runA) = getA ++ runA := by
  show (f.c c).bytes ++ (getA ++ runA) = _
  rw [hby]
  exact arr_eq (by simp)
 obtain ⟨g1, g2, g3⟩ := get_new hw hse
 have hw2 : c < (doW w c ⟨6, aK, ⟨#[]⟩⟩).1.ses.length := by rw [(doW_mine w c _).1]; exact hw
 obtain ⟨r1, r2⟩ := run_new g3
 have hu : ((avOf (f, w)).fed f.mode c (getA ++ runA)).u = serve f.mode c (serve f.mode c (auOf (f, w)) (⟨6, aK, ⟨#[]⟩⟩, false)) (⟨8, aK, ⟨#[]⟩⟩, false) := by
  unfold Av.fed
  rw [e0, feed_two]
  rfl
 have hs1 : serve f.mode c (auOf (f, w)) (⟨6, aK, ⟨#[]⟩⟩, false) = (⟨f.deeds ++ [⟨c, ⟨6, aK, ⟨#[]⟩⟩, ⟨3, ⟨#[]⟩, 0⟩⟩], fun i => (f.c i).sent, (doW w c ⟨6, aK, ⟨#[]⟩⟩).1⟩ : Au).tell c ⟨3, ⟨#[]⟩, 0⟩ := by
  unfold serve
  rw [if_neg (by simp), if_neg (by simp)]
  show (⟨f.deeds ++ [⟨c, ⟨6, aK, ⟨#[]⟩⟩, (doW w c ⟨6, aK, ⟨#[]⟩⟩).2⟩], fun i => (f.c i).sent, (doW w c ⟨6, aK, ⟨#[]⟩⟩).1⟩ : Au).tell c (doW w c ⟨6, aK, ⟨#[]⟩⟩).2 = _
  rw [g1]
 have hau : auOf (runM houseB (f, w) [⟨1, (c : Int), getA ++ runA⟩]) = serve f.mode c (serve f.mode c (auOf (f, w)) (⟨6, aK, ⟨#[]⟩⟩, false)) (⟨8, aK, ⟨#[]⟩⟩, false) := by
  rw [← hu, ← ha]
  rfl
 rw [hs1] at hau
 unfold serve at hau
 rw [if_neg (by simp), if_neg (by simp)] at hau
 have e1 : ((⟨f.deeds ++ [⟨c, ⟨6, aK, ⟨#[]⟩⟩, ⟨3, ⟨#[]⟩, 0⟩⟩], fun i => (f.c i).sent, (doW w c ⟨6, aK, ⟨#[]⟩⟩).1⟩ : Au).tell c ⟨3, ⟨#[]⟩, 0⟩).w = (doW w c ⟨6, aK, ⟨#[]⟩⟩).1 := rfl
 rw [e1] at hau
 have q1 := congrArg (fun u : Au => u.sent c) hau
 have q2 := congrArg (fun u : Au => u.w.rows) hau
 refine ⟨?_, ?_⟩
 ·have e2 : (auOf (runM houseB (f, w) [⟨1, (c : Int), getA ++ runA⟩])).sent c = ((runM houseB (f, w) [⟨1, (c : Int), getA ++ runA⟩]).1.c c).sent := rfl
  rw [← e2, q1]
  simp only [Au.tell, if_true]
  rw [r1, tell_not, tell_none]
 ·have e2 : (auOf (runM houseB (f, w) [⟨1, (c : Int), getA ++ runA⟩])).w.rows = (runM houseB (f, w) [⟨1, (c : Int), getA ++ runA⟩]).2.rows := rfl
  rw [← e2, q2]
  simp only [Au.tell]
  rw [r2, g2]
end Go.Proofs.YtjbnfigpflambacGreatDoor
/- Plain laws of outcomes: TopPrivate, TopCuts, TopGone. -/
namespace Go.Proofs.YtjbnfigpflambacGreatDoor
open Go.RowKit
theorem out_sent (mode : Int) (n : Nat) (hn : n ≤ 8) (l : List Ac) (hl : ∀ a ∈ l, a.c.toNat < 6) {c : Nat} (hc : c < 6) : (outM mode n l).sent.getD c ByteArray.empty = ((runM houseB (startF mode n, startH) l).1.c c).sent := by
 rw [out_house mode n hn l hl]
 unfold outH
 rw [List.getD_eq_getElem?_getD, List.getElem?_map, List.getElem?_range hc]
 rfl
theorem out_gone (mode : Int) (n : Nat) (hn : n ≤ 8) (h1 : 1 ≤ n) (l : List Ac) (hl : ∀ a ∈ l, a.c.toNat < 6) {c : Nat} (hc : c < 6) :
  (outM mode n ((l ++ closes) ++ [⟨1, (c : Int), getA ++ runA⟩])).sent.getD c ByteArray.empty = (outM mode n (l ++ closes)).sent.getD c ByteArray.empty ++ noneM ++ notM ∧
  (outM mode n ((l ++ closes) ++ [⟨1, (c : Int), getA ++ runA⟩])).rows = (outM mode n (l ++ closes)).rows := by
 have h2 : ∀ a ∈ l ++ closes, a.c.toNat < 6 := fun a ha => by
  rcases List.mem_append.1 ha with h | h
  ·exact hl a h
  ·obtain ⟨i, hi, rfl⟩ := List.mem_map.1 h
   have := List.mem_range.1 hi
   show ((i : Nat) : Int).toNat < 6
   omega
 have h3 : ∀ a ∈ (l ++ closes) ++ [(⟨1, (c : Int), getA ++ runA⟩ : Ac)], a.c.toNat < 6 := fun a ha => by
  rcases List.mem_append.1 ha with h | h
  ·exact h2 a h
  ·have : a = ⟨1, (c : Int), getA ++ runA⟩ := by simpa using h
   subst this
   show ((c : Nat) : Int).toNat < 6
   omega
 obtain ⟨g1, g2⟩ := gone_law mode n hn h1 l hl hc
 refine ⟨?_, ?_⟩
 ·rw [out_sent mode n hn _ h3 hc, out_sent mode n hn _ h2 hc]
  exact g1
 ·rw [out_house mode n hn _ h3, out_house mode n hn _ h2]
  exact g2
end Go.Proofs.YtjbnfigpflambacGreatDoor
/- slices.DeleteFunc over acts: those that close or ask to go are left out. -/
namespace Go.Proofs.YtjbnfigpflambacGreatDoor
open Go.ChangeShapes Go.WideShapes Go.ChangeAt Go.RowKit
def goP (a : Ac) : Bool := decide (a.kind = 2) || Lib.hasPrefix a.data.data.toList [88]
def leftA (l : List Ac) : List Ac := l.filter fun a => !goP a
theorem left_step {l : List Ac} {j : Nat} (hj : j < l.length) : leftA (l.take (j + 1)) = if goP l[j] = true then leftA (l.take j) else leftA (l.take j) ++ [l[j]] := by
 unfold leftA
 rw [List.take_succ_eq_append_getElem hj, List.filter_append]
 by_cases h : goP l[j] = true
 ·rw [if_pos h]
  simp [h]
 ·rw [if_neg h]
  simp [h]
theorem acV_set : ∀ (l : List Ac) (i : Nat) (a : Ac), (((acV l).set (i * 3) (.int .i64 a.kind)).set (i * 3 + 1) (.int .i64 a.c)).set (i * 3 + 2) (.string a.data) = acV (l.set i a)
 | [], i, a => by simp [acV]
 | b :: l, 0, a => rfl
 | b :: l, i + 1, a => by
  have h := acV_set l i a
  have e : acV (b :: l) = .int .i64 b.kind :: .int .i64 b.c :: .string b.data :: acV l := rfl
  have e2 : acV ((b :: l).set (i + 1) a) = .int .i64 b.kind :: .int .i64 b.c :: .string b.data :: acV (l.set i a) := rfl
  rw [e, e2, ← h, show (i + 1) * 3 = i * 3 + 1 + 1 + 1 by omega]
  rfl
structure DelA (w wx : World) (B : Nat) (g off cap : Nat) (l : List Ac) (i j : Nat) : Prop where
 own : ∃ Y : List Ac, OwnO wx B 54 3 (.slice (some ⟨g, off, none⟩) l.length cap) l.length (acV (leftA (l.take j) ++ Y ++ l.drop j)) ∧ Y.length = j - i
 len : (leftA (l.take j)).length = i
 gr : w.grownBy wx (some g)
section
variable {w wx wy : World} {B g off cap i j : Nat} {l : List Ac}
theorem DelA.below (h : DelA w wx B g off cap l i j) (hb : Below wx.heap.size wx wy) : DelA w wy B g off cap l i j := by
 obtain ⟨Y, o, hy⟩ := h.own
 exact ⟨⟨Y, o.below hb, hy⟩, h.len, h.gr.trans ⟨hb.os, hb.tape, hb.output, hb.size, fun i hi _ => hb.block i hi⟩⟩
theorem DelA.lt (h : DelA w wx B g off cap l i j) (hij : i < j) (hj : j < l.length) :
  (wx.cell? ⟨g, off + j * 3, none⟩ = some (.int .i64 l[j].kind) ∧ wx.cell? ⟨g, off + j * 3 + 1, none⟩ = some (.int .i64 l[j].c) ∧ wx.cell? ⟨g, off + j * 3 + 2, none⟩ = some (.string l[j].data)) ∧
  (∃ u, wx.cell? ⟨g, off + i * 3, none⟩ = some u) ∧ (∃ u, wx.cell? ⟨g, off + i * 3 + 1, none⟩ = some u) ∧ ∃ u, wx.cell? ⟨g, off + i * 3 + 2, none⟩ = some u := by
 obtain ⟨Y, o, hy⟩ := h.own
 have hl := h.len
 obtain ⟨g', off', cap', e, _, hc, _⟩ := o.pos (by omega)
 injection e with e1 e2 e3
 injection e1 with e1
 injection e1 with e1 e4
 subst e1 e4
 obtain ⟨M, hM⟩ : ∃ M, leftA (l.take j) ++ Y ++ l.drop j = M := ⟨_, rfl⟩
 have hMl : M.length = l.length := by rw [← hM, List.length_append, List.length_append, List.length_drop]; omega
 have hMj : ∃ h : j < M.length, M[j] = l[j] := by
  refine ⟨by omega, ?_⟩
  have : M[j]? = l[j]? := by
   rw [← hM, List.getElem?_append_right (by rw [List.length_append]; omega), List.length_append, hl, hy, show j - (i + (j - i)) = 0 by omega, List.getElem?_drop, Nat.add_zero]
  rw [List.getElem?_eq_getElem (by omega), List.getElem?_eq_getElem hj] at this
  injection this
 rw [hM] at hc
 obtain ⟨hj', em⟩ := hMj
 obtain ⟨a0, a1, a2⟩ := acV_at M j hj'
 rw [em] at a0 a1 a2
 obtain ⟨b0, b1, b2⟩ := acV_at M i (by omega)
 have hiM : i < M.length := by omega
 refine ⟨⟨?_, ?_, ?_⟩, ⟨.int .i64 M[i].kind, ?_⟩, ⟨.int .i64 M[i].c, ?_⟩, ⟨.string M[i].data, ?_⟩⟩
 ·rw [hc (j * 3) (by omega)]; exact a0
 ·rw [Nat.add_assoc, hc (j * 3 + 1) (by omega)]; exact a1
 ·rw [Nat.add_assoc, hc (j * 3 + 2) (by omega)]; exact a2
 ·rw [hc (i * 3) (by omega)]; exact b0
 ·rw [Nat.add_assoc, hc (i * 3 + 1) (by omega)]; exact b1
 ·rw [Nat.add_assoc, hc (i * 3 + 2) (by omega)]; exact b2
theorem DelA.frozen (h : DelA w wx B g off cap l i j) (hj : 0 < l.length) (k : Nat) : wx.frozen? ⟨g, k, none⟩ = false := by
 obtain ⟨Y, o, hy⟩ := h.own
 obtain ⟨g', off', cap', e, _, _, hf⟩ := o.pos hj
 injection e with e1 e2 e3
 injection e1 with e1
 injection e1 with e1 e4
 subst e1 e4
 exact hf k
theorem DelA.skip (h : DelA w wx B g off cap l i j) (hij : i < j) (hj : j < l.length) (hc : goP l[j] = true) : DelA w wx B g off cap l i (j + 1) := by
 obtain ⟨Y, o, hy⟩ := h.own
 have e := left_step hj
 rw [if_pos hc] at e
 refine ⟨⟨Y ++ [l[j]], ?_, by rw [List.length_append, hy]; simp; omega⟩, by rw [e]; exact h.len, h.gr⟩
 rw [e]
 have ed : l.drop j = l[j] :: l.drop (j + 1) := List.drop_eq_getElem_cons hj
 rw [ed] at o
 simpa using o
theorem DelA.keep (h : DelA w wx B g off cap l i j) (hij : i < j) (hj : j < l.length) (hc : ¬ goP l[j] = true) :
  DelA w (((wx.setCell ⟨g, off + i * 3, none⟩ (.int .i64 l[j].kind)).setCell ⟨g, off + i * 3 + 1, none⟩ (.int .i64 l[j].c)).setCell ⟨g, off + i * 3 + 2, none⟩ (.string l[j].data)) B g off cap l (i + 1) (j + 1) := by
 obtain ⟨Y, o, hy⟩ := h.own
 have e := left_step hj
 rw [if_neg hc] at e
 have hl := h.len
 obtain ⟨a, Z, rfl⟩ : ∃ a Z, Y = a :: Z := by
  cases Y with
  | nil => simp at hy; omega
  | cons a Z => exact ⟨a, Z, rfl⟩
 have hz : Z.length + 1 = j - i := hy
 refine ⟨⟨Z ++ [l[j]], ?_, by rw [List.length_append]; simp; omega⟩, by rw [e, List.length_append, hl]; rfl, grown_store (grown_store (grown_store h.gr _ _) _ _) _ _⟩
 have o1 := ((o.put (i * 3) (.int .i64 l[j].kind)).put (i * 3 + 1) (.int .i64 l[j].c)).put (i * 3 + 2) (.string l[j].data)
 rw [acV_set] at o1
 rw [e]
 have ed : l.drop j = l[j] :: l.drop (j + 1) := List.drop_eq_getElem_cons hj
 have hs : (leftA (l.take j) ++ a :: Z ++ l.drop j).set i l[j] = leftA (l.take j) ++ [l[j]] ++ (Z ++ [l[j]]) ++ l.drop (j + 1) := by
  rw [ed, List.append_assoc, List.set_append_right _ _ (by omega), hl, Nat.sub_self]
  simp
 rw [hs] at o1
 exact o1
end
end Go.Proofs.YtjbnfigpflambacGreatDoor
/- Plain part of TopCuts: the acts cut in two. -/
namespace Go.Proofs.YtjbnfigpflambacGreatDoor
open Go.RowKit
set_option maxHeartbeats 1000000 in
theorem Picked_any (n m : Int) (w : World) (hn : (Lit.int .i64 n).wf = true) (hm : 0 < m) (hm2 : m ≤ 9223372036854775807) :
  Calls Tryz.prog 34 #[.int .i64 n, .int .i64 m] w fun e w' => e = .returned (.int .i64 (pick n m)) ∧ w = w' := by
 go_enter Tryz.func34, Tryz.ntmps34
 go_wp2_with fail
 refine (picked_any n m _ hn hm hm2).mono ?_
 rintro e w1 ⟨rfl, rfl⟩
 go_wp2_with fail
 go_ret
 exact ⟨rfl, rfl⟩
end Go.Proofs.YtjbnfigpflambacGreatDoor
/- Small things of TopGone. -/
namespace Go.Proofs.YtjbnfigpflambacGreatDoor
open Go.RowKit
theorem gone_ok {L : List Ac} (h : ∀ a ∈ L, AcOk a) : ∀ a ∈ L ++ closes, AcOk a := fun a ha => by
 rcases List.mem_append.1 ha with ha | ha
 ·exact h a ha
 ·obtain ⟨i, hi, rfl⟩ := List.mem_map.1 ha
  have := List.mem_range.1 hi
  exact ⟨.inr rfl, by show (0 : Int) ≤ ((i : Nat) : Int); omega, by show ((i : Nat) : Int) < 6; omega, by show (⟨#[]⟩ : ByteArray).size ≤ 1000; decide⟩
theorem gone_ok1 {L : List Ac} (h : ∀ a ∈ L, AcOk a) {c : Nat} (hc : c < 6) : ∀ a ∈ L ++ [(⟨1, (c : Int), getA ++ runA⟩ : Ac)], AcOk a := fun a ha => by
 rcases List.mem_append.1 ha with ha | ha
 ·exact h a ha
 ·have : a = ⟨1, (c : Int), getA ++ runA⟩ := by simpa using ha
  subst this
  exact ⟨.inl rfl, by show (0 : Int) ≤ ((c : Nat) : Int); omega, by show ((c : Nat) : Int) < 6; omega, by show (getA ++ runA).size ≤ 1000; decide +kernel⟩
theorem sent_sz (mode : Int) (n : Nat) (hn : n ≤ 8) {l : List Ac} (hl : ∀ a ∈ l, AcOk a) (c : Nat) : ((outM mode n l).sent.getD c ByteArray.empty).size ≤ 300 * (l.length * 1000) := by
 have h := run_take_ok mode n hn hl l.length (Nat.le_refl _)
 rw [List.take_length] at h
 unfold outM
 rw [List.getD_eq_getElem?_getD, List.getElem?_map]
 by_cases hc : c < 6
 ·rw [List.getElem?_range hc]
  exact h.fit.sent (by rw [h.fi.six]; exact hc)
 ·rw [List.getElem?_eq_none (by rw [List.length_range]; omega)]
  exact Nat.zero_le _
theorem pack_two : (∀ w : World, Calls Tryz.prog 39 #[.int .u8 81, .string ⟨#[103, 101, 116, 32, 97]⟩] w fun e w' => e = .returned (.tuple #[.string getA, .int .i64 0]) ∧ Below w.heap.size w w') ∧
  ∀ w : World, Calls Tryz.prog 39 #[.int .u8 81, .string ⟨#[101, 120, 101, 99, 32, 97]⟩] w fun e w' => e = .returned (.tuple #[.string runA, .int .i64 0]) ∧ Below w.heap.size w w' := by
 refine ⟨fun w => ?_, fun w => ?_⟩
 ·have h := pack_ok 81 ⟨#[103, 101, 116, 32, 97]⟩ w (by decide)
  rw [show msg 81 ⟨#[103, 101, 116, 32, 97]⟩ = getA by decide +kernel] at h
  exact h
 ·have h := pack_ok 81 ⟨#[101, 120, 101, 99, 32, 97]⟩ w (by decide)
  rw [show msg 81 ⟨#[101, 120, 101, 99, 32, 97]⟩ = runA by decide +kernel] at h
  exact h
end Go.Proofs.YtjbnfigpflambacGreatDoor
