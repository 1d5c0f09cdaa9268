/- tillermankeep.played: statements in some sessions of a world that begins empty. -/
import Derived.Test.YtjbnfigpflambabDoorRaws
import Derived.Test.YtjbnfigpflambabDoorDoY
import Derived.Test.YtjbnfigpflambabDoorSeg
namespace Go.Proofs.YtjbnfigpflambabDoor
open Go.ChangeShapes Go.WideShapes Go.ChangeAt Go.RowKit

theorem an_info : (Tryd.prog.info? 48).map (fun i => (i.zero, i.size, i.bytes)) = some (some (.agg #[.int .i64 0, .string ⟨#[]⟩, .int .i64 0]), 3, 32) := by kernel_rfl
def Rw.sess (x : Rw) (n : Nat) : Nat := (pick x.c n).toNat
def newW (n : Nat) : Wo := ⟨[], List.replicate n Se.new⟩
def stepW (n : Nat) (W : Wo) (x : Rw) : Wo := (doW W (x.sess n) x.st).1
def playL (n : Nat) (l : List Rw) (W : Wo) : Wo := l.foldl (stepW n) W
theorem sess_lt (x : Rw) {n : Nat} (hn : 0 < n) : x.sess n < n ∧ pick x.c n = (x.sess n : Int) := by
  have h := pick_bd x.c n (by omega)
  unfold Rw.sess
  omega
theorem step_good {W : Wo} {n : Nat} (g : Good W) (hl : W.ses.length = n) (hn : 0 < n) (x : Rw) : Good (stepW n W x) ∧ (stepW n W x).ses.length = n :=
  ⟨doW_good g (by rw [hl]; exact (sess_lt x hn).1) (raw_ok x.k x.a x.b x.c).1, (doW_length _ _ _).trans hl⟩
theorem play_good {n : Nat} (hn : 0 < n) : ∀ (l : List Rw) {W : Wo}, Good W → W.ses.length = n → Good (playL n l W) ∧ (playL n l W).ses.length = n
  | [], _, g, h => ⟨g, h⟩
  | x :: l, _, g, h => play_good hn l (step_good g h hn x).1 (step_good g h hn x).2
theorem new_len (n : Nat) : (newW n).ses.length = n := by unfold newW; simp
theorem do_step {W : Wo} {n : Nat} (g : Good W) (hl : W.ses.length = n) (hn : 0 < n) (x : Rw) : doE W (pick x.c n) x.st = 0 ∧ doR W (pick x.c n) x.st = doW W (x.sess n) x.st := by
  have h0 : doE W (pick x.c n) x.st = 0 := by
    obtain ⟨h1, h2⟩ := sess_lt x hn
    unfold doE
    rw [if_pos ((good_iff W).2 g), if_pos (by rw [h2, hl]; omega)]
    exact (raw_ok x.k x.a x.b x.c).1
  refine ⟨h0, ?_⟩
  unfold doR
  rw [if_pos h0]
  rfl
theorem rep_new (n i : Nat) : (List.replicate n Se.new).getD i Se.new = Se.new := by
  rw [List.getD_eq_getElem?_getD, List.getElem?_replicate]
  split <;> rfl
theorem new_good (n : Nat) (hn : n ≤ 8) : Good (newW n) := by
  have e : ∀ i, (List.replicate n Se.new).getD i Se.new = Se.new := rep_new n
  refine ⟨pairs_nil _ _, by unfold newW; simpa using hn, fun i _ => ?_, fun i j _ _ _ k hk => ?_, ?_⟩
  · unfold newW
    simp only [e]
    exact ⟨by simp [Se.new], by simp [Se.new], pairs_nil _ _, pairs_nil _ _, pairs_nil _ _, pairs_nil _ _, fun _ => rfl, fun _ => rfl⟩
  · unfold newW at hk
    simp only [e] at hk
    cases hk
  · have : keysW (newW n) = [] := by
      refine List.eq_nil_iff_forall_not_mem.2 fun x hx => ?_
      rcases (mem_keys _ x).1 hx with h | ⟨j, _, h⟩
      · cases h
      · unfold Wo.se newW at h
        simp only [e] at h
        cases h
    rw [this]
    decide
theorem i64_wf {a : Int} (h0 : 0 ≤ a) (h1 : a ≤ 9223372036854775807) : (Lit.int .i64 a).wf = true := by
  simp [Lit.wf, IntKind.min, IntKind.max, IntKind.signed, IntKind.bits]
  omega
/-- a world of the call's own in a box -/
structure BoxW (B : Nat) (w : World) (q : Nat) (W : Wo) : Prop where
  box : ∃ r s, Blk w q 31 #[r, s] ∧ OPL w B r W.rows ∧ ∃ cs, OSL w B s W.ses cs
theorem BoxW.keep {B : Nat} {w w' : World} {q : Nat} {W : Wo} (h : BoxW B w q W) (hb : Below w.heap.size w w') : BoxW B w' q W := by
  obtain ⟨r, s, h1, h2, cs, h3⟩ := h.box
  exact ⟨r, s, h1.keep hb, h2.keeps (.of_below hb), cs, (Keeps.of_below hb).own h3.own, h3.ses.keeps (.of_below hb)⟩
theorem osl_keeps {B : Nat} {w w' : World} {s : Value} {ss : List Se} {cs : List Value} (h : OSL w B s ss cs) (k1 : Keeps 58 w w') (k2 : Keeps 66 w w') : OSL w' B s ss cs := ⟨k1.own h.own, h.ses.keeps k2⟩
/-- in the midst of 'next, a, e := back.Do(..)': the variables' boxes as far as they are made, what Do returned -/
structure DoS (B : Nat) (wr wx : World) (z12 z13 : Option Nat) (X : Option (Value × Value × Wo)) : Prop where
  hb : Below wr.heap.size wr wx
  b12 : ∀ z, z12 = some z → Blk wx z 31 #[.slice none 0 0, .slice none 0 0] ∧ wr.heap.size ≤ z
  b13 : ∀ z, z13 = some z → Blk wx z 48 #[.int .i64 0, .string ⟨#[]⟩, .int .i64 0] ∧ wr.heap.size ≤ z
  nx : ∀ r s V, X = some (r, s, V) → OPL wx B r V.rows ∧ ∃ cs, OSL wx B s V.ses cs
section
variable {B : Nat} {wr wx wy : World} {z12 z13 : Option Nat} {X : Option (Value × Value × Wo)}
theorem DoS.start (B : Nat) (wr : World) : DoS B wr wr none none none :=
  ⟨Below.refl _ _, fun _ h => (by cases h), fun _ h => (by cases h), fun _ _ _ h => (by cases h)⟩
theorem DoS.keep (h : DoS B wr wx z12 z13 X) (hb : Below wx.heap.size wx wy) : DoS B wr wy z12 z13 X :=
  ⟨below_step h.hb (Nat.le_refl _) hb, fun z hz => ⟨(h.b12 z hz).1.keep hb, (h.b12 z hz).2⟩, fun z hz => ⟨(h.b13 z hz).1.keep hb, (h.b13 z hz).2⟩, fun r s V hx => by
    obtain ⟨h1, cs, h2⟩ := h.nx r s V hx
    exact ⟨h1.keeps (.of_below hb), cs, osl_keeps h2 (.of_below hb) (.of_below hb)⟩⟩
theorem DoS.f12 (h : DoS B wr wx none z13 X) : DoS B wr (wx.alloc (.cells #[.slice none 0 0, .slice none 0 0] 31)) (some wx.heap.size) z13 X := by
  have k := h.keep (boxed wx (.cells #[.slice none 0 0, .slice none 0 0] 31))
  exact ⟨k.hb, fun z hz => (by injection hz with hz; subst hz; exact ⟨Blk.new wx _ _, h.hb.size⟩), k.b13, k.nx⟩
theorem DoS.f13 (h : DoS B wr wx z12 none X) : DoS B wr (wx.alloc (.cells #[.int .i64 0, .string ⟨#[]⟩, .int .i64 0] 48)) z12 (some wx.heap.size) X := by
  have k := h.keep (boxed wx (.cells #[.int .i64 0, .string ⟨#[]⟩, .int .i64 0] 48))
  exact ⟨k.hb, k.b12, fun z hz => (by injection hz with hz; subst hz; exact ⟨Blk.new wx _ _, h.hb.size⟩), k.nx⟩
theorem DoS.did (h : DoS B wr wx z12 z13 none) (hB : B ≤ wx.heap.size) {r s : Value} {cs : List Value} {V : Wo} (o1 : OPL wy wx.heap.size r V.rows) (o2 : OSL wy wx.heap.size s V.ses cs) (hb : Below wx.heap.size wx wy) : DoS B wr wy z12 z13 (some (r, s, V)) := by
  have k := h.keep hb
  exact ⟨k.hb, k.b12, k.b13, fun r' s' V' hx => (by injection hx with hx; injection hx with h1 h2; injection h2 with h2 h3; subst h1 h2 h3; exact ⟨o1.base hB, cs, o2.base hB⟩)⟩
/-- behind it -/
structure DoN (B : Nat) (wr wy : World) (z12 z13 : Nat) (r s : Value) (V : Wo) (a : An) : Prop where
  hb : Below wr.heap.size wr wy
  b12 : Blk wy z12 31 #[r, s]
  b13 : Blk wy z13 48 #[.int .i64 a.kind, .string a.text, .int .i64 a.st]
  rows : OPL wy B r V.rows
  ses : ∃ cs, OSL wy B s V.ses cs
  l12 : wr.heap.size ≤ z12
  l13 : wr.heap.size ≤ z13
theorem DoN.box {z12 z13 : Nat} {r s : Value} {V : Wo} {a : An} (h : DoN B wr wy z12 z13 r s V a) : BoxW B wy z12 V := ⟨r, s, h.b12, h.rows, h.ses⟩
theorem DoN.keep {wz : World} {z12 z13 : Nat} {r s : Value} {V : Wo} {a : An} (h : DoN B wr wy z12 z13 r s V a) (hb : Below wy.heap.size wy wz) : DoN B wr wz z12 z13 r s V a := by
  obtain ⟨cs, h3⟩ := h.ses
  exact ⟨below_step h.hb (Nat.le_refl _) hb, h.b12.keep hb, h.b13.keep hb, h.rows.keeps (.of_below hb), ⟨cs, osl_keeps h3 (.of_below hb) (.of_below hb)⟩, h.l12, h.l13⟩
theorem DoS.fin {z12 z13 : Nat} {r s : Value} {V : Wo} {a : An} (h : DoS B wr wx (some z12) (some z13) (some (r, s, V)))
    (e : wy = ((((wx.setCell ⟨z12, 0, none⟩ r).setCell ⟨z12, 1, none⟩ s).setCell ⟨z13, 0, none⟩ (.int .i64 a.kind)).setCell ⟨z13, 1, none⟩ (.string a.text)).setCell ⟨z13, 2, none⟩ (.int .i64 a.st)) : DoN B wr wy z12 z13 r s V a := by
  subst e
  obtain ⟨b12, l12⟩ := h.b12 _ rfl
  obtain ⟨b13, l13⟩ := h.b13 _ rfl
  obtain ⟨o1, cs, o2⟩ := h.nx _ _ _ rfl
  have ne : z13 ≠ z12 := b13.ne_ b12 (by decide)
  have A0 := (b13.far (p := ⟨z12, 0, none⟩) ne r).far (p := ⟨z12, 1, none⟩) ne s
  have A1 := A0.set_ 0 (.int .i64 a.kind)
  have A2 := A1.set_ 1 (.string a.text)
  have k : ∀ t, 31 ≠ t → 48 ≠ t → Keeps t wx (((((wx.setCell ⟨z12, 0, none⟩ r).setCell ⟨z12, 1, none⟩ s).setCell ⟨z13, 0, none⟩ (.int .i64 a.kind)).setCell ⟨z13, 1, none⟩ (.string a.text)).setCell ⟨z13, 2, none⟩ (.int .i64 a.st)) := fun t h1 h2 =>
    ((((Keeps.set_ (p := ⟨z12, 0, none⟩) b12 h1 _).trans (Keeps.set_ (p := ⟨z12, 1, none⟩) (b12.set_ 0 r) h1 _)).trans (Keeps.set_ (p := ⟨z13, 0, none⟩) A0 h2 _)).trans (Keeps.set_ (p := ⟨z13, 1, none⟩) A1 h2 _)).trans (Keeps.set_ (p := ⟨z13, 2, none⟩) A2 h2 _)
  have l2 : ∀ j, wr.heap.size ≤ (⟨z12, j, none⟩ : Addr).block := fun _ => l12
  have l3 : ∀ j, wr.heap.size ≤ (⟨z13, j, none⟩ : Addr).block := fun _ => l13
  have ne' : ∀ j, z12 ≠ (⟨z13, j, none⟩ : Addr).block := fun _ => Ne.symm ne
  exact ⟨((((h.hb.setCell (l2 0) _).setCell (l2 1) _).setCell (l3 0) _).setCell (l3 1) _).setCell (l3 2) _, ((((b12.set_ 0 r).set_ 1 s).far (ne' 0) _).far (ne' 1) _).far (ne' 2) _, A2.set_ 2 _,
    o1.keeps (k _ (by decide) (by decide)), ⟨cs, osl_keeps o2 (k _ (by decide) (by decide)) (k _ (by decide) (by decide))⟩, l12, l13⟩
theorem BoxW.turn {w : World} {q : Nat} {W V : Wo} {r s : Value} {cs : List Value} (h : BoxW B w q W) (o1 : OPL w B r V.rows) (o2 : OSL w B s V.ses cs) : BoxW B ((w.setCell ⟨q, 0, none⟩ r).setCell ⟨q, 1, none⟩ s) q V := by
  obtain ⟨r0, s0, h1, _⟩ := h.box
  have k : ∀ t, 31 ≠ t → Keeps t w ((w.setCell ⟨q, 0, none⟩ r).setCell ⟨q, 1, none⟩ s) := fun t ht => (Keeps.set_ (p := ⟨q, 0, none⟩) h1 ht _).trans (Keeps.set_ (p := ⟨q, 1, none⟩) (h1.set_ 0 r) ht _)
  exact ⟨r, s, (h1.set_ 0 r).set_ 1 s, o1.keeps (k _ (by decide)), cs, osl_keeps o2 (k _ (by decide)) (k _ (by decide))⟩
end
/-- in the midst of played -/
structure PlayAt (w0 wx : World) (q : Nat) (W : Wo) : Prop where
  bel : Below w0.heap.size w0 wx
  res : Blk wx w0.heap.size 31 #[.slice none 0 0, .slice none 0 0]
  box : BoxW w0.heap.size wx q W
  lq : w0.heap.size < q
theorem PlayAt.keep {w0 wx wy : World} {q : Nat} {W : Wo} (h : PlayAt w0 wx q W) (hb : Below wx.heap.size wx wy) : PlayAt w0 wy q W :=
  ⟨below_step h.bel (Nat.le_refl _) hb, h.res.keep hb, h.box.keep hb, h.lq⟩
theorem PlayAt.app {w wc w5 : World} {q k cv : Nat} {Av : Option Addr} {cs : List Value} {W : Wo} (M : PlayAt w wc q W) (own0 : wc.ownsRow w.heap.size 48 3 (.slice Av k cv) k cs) (o : Obj) (hgr : (wc.alloc o).grownBy w5 (Value.slice Av k cv).ownBlock) : PlayAt w w5 q W := by
  have own1 := own0.alloc o
  obtain ⟨r, s, b, o1, cs', o2⟩ := M.box.box
  have kp : ∀ t, 48 ≠ t → Keeps t wc w5 := fun t ht => (Keeps.alloc wc o).trans (Keeps.grown (t' := 48) hgr (own_row own1) ht)
  exact ⟨(M.bel.alloc M.bel.size o).grown hgr (Nat.le_trans M.bel.size (by simp)) fun g hg => (own1.lt g hg).1, (M.res.alloc o).grown hgr fun e => own_blk_ne own1 (M.res.alloc o) (by decide) e.symm, ⟨r, s, (b.alloc o).grown hgr fun e => own_blk_ne own1 (b.alloc o) (by decide) e.symm, o1.keeps (kp _ (by decide)), cs', osl_keeps o2 (kp _ (by decide)) (kp _ (by decide))⟩, M.lq⟩
theorem PlayAt.turn {w0 wx : World} {q : Nat} {W V : Wo} {r s : Value} {cs : List Value} (h : PlayAt w0 wx q W) (o1 : OPL wx w0.heap.size r V.rows) (o2 : OSL wx w0.heap.size s V.ses cs) : PlayAt w0 ((wx.setCell ⟨q, 0, none⟩ r).setCell ⟨q, 1, none⟩ s) q V := by
  have lq := h.lq
  have l : ∀ j, w0.heap.size ≤ (⟨q, j, none⟩ : Addr).block := fun j => by show w0.heap.size ≤ q; omega
  have n : ∀ j, w0.heap.size ≠ (⟨q, j, none⟩ : Addr).block := fun j => by show w0.heap.size ≠ q; omega
  exact ⟨(h.bel.setCell (l 0) _).setCell (l 1) _, (h.res.far (n 0) _).far (n 1) _, h.box.turn o1 o2, lq⟩
theorem PlayAt.fin {w0 wx : World} {q b : Nat} {W : Wo} (h : PlayAt w0 wx q W) (hb : w0.heap.size = b) (u v : Value) : BoxW w0.heap.size ((wx.setCell ⟨b, 0, none⟩ u).setCell ⟨b, 1, none⟩ v) q W ∧ Blk ((wx.setCell ⟨b, 0, none⟩ u).setCell ⟨b, 1, none⟩ v) b 31 #[u, v] ∧ Below w0.heap.size w0 ((wx.setCell ⟨b, 0, none⟩ u).setCell ⟨b, 1, none⟩ v) := by
  subst hb
  have lq := h.lq
  obtain ⟨r, s, y, o1, cs, o2⟩ := h.box.box
  have n : ∀ j, q ≠ (⟨w0.heap.size, j, none⟩ : Addr).block := fun j => by show q ≠ w0.heap.size; omega
  have k : ∀ t, 31 ≠ t → Keeps t wx ((wx.setCell ⟨w0.heap.size, 0, none⟩ u).setCell ⟨w0.heap.size, 1, none⟩ v) := fun t ht => (Keeps.set_ (p := ⟨w0.heap.size, 0, none⟩) h.res ht _).trans (Keeps.set_ (p := ⟨w0.heap.size, 1, none⟩) (h.res.set_ 0 u) ht _)
  exact ⟨⟨r, s, (y.far (n 0) _).far (n 1) _, o1.keeps (k _ (by decide)), cs, osl_keeps o2 (k _ (by decide)) (k _ (by decide))⟩, (h.res.set_ 0 u).set_ 1 v, (h.bel.setCell (Nat.le_refl _) _).setCell (Nat.le_refl _) _⟩
set_option maxHeartbeats 8000000 in
set_option maxRecDepth 100000 in
theorem played_any (w : World) (v : Value) (l : List Rw) (hl : RL w w.heap.size v l) (n most : Nat) (hn : 0 < n) (hn8 : n ≤ 8) (hm : most ≤ 1000) (zs : Array Value) (hz : ∀ w B, SesC w B zs.toList (List.replicate n Se.new)) (hzs : zs.size = n * 5) (hT : Tabs w)
    (hmk : ∀ w : World, (Instr.makeSlice 29 (.int .i64 (n : Int)) (.int .i64 (n : Int))).run Tryd.prog w = .ok (.slice (some ⟨w.heap.size, 0, none⟩) n n) (w.alloc (.cells zs 58 (0, 0)))) :
    Calls Tryd.prog 26 #[v, .int .i64 (n : Int), .int .i64 (most : Int)] w fun e w' => ∃ r s o cs, e = .returned (.tuple #[.agg #[r, s], o, .bool true]) ∧ OPL w' w.heap.size r (playL n (l.take most) (newW n)).rows ∧ OSL w' w.heap.size s (playL n (l.take most) (newW n)).ses cs ∧ Below w.heap.size w w' := by
  have HL := Lib.hid hl
  obtain ⟨A, cap, rfl, hc1, hc2, _⟩ := hl
  obtain ⟨N, hN⟩ : ∃ N, l.length = N := ⟨_, rfl⟩
  rw [hN] at hc1 ⊢
  have HN := Lib.hid hN
  have HT := Lib.hid hT
  have HN8 := Lib.hid (And.intro hn hn8)
  obtain ⟨q, hq⟩ : ∃ q, w.heap.size = q := ⟨_, rfl⟩
  have HQ := Lib.hid hq
  have M0 : Hid (PlayAt w (((w.alloc (.cells #[.slice none 0 0, .slice none 0 0] 31)).alloc (.cells zs 58)).alloc (.cells #[.slice none 0 0, .slice (some ⟨q + 1, 0, none⟩) n n] 31)) (q + 2) (newW n)) := Lib.hid (by
    have b1 := Blk.new (w.alloc (.cells #[.slice none 0 0, .slice none 0 0] 31)) 58 zs
    have b2 := Blk.new ((w.alloc (.cells #[.slice none 0 0, .slice none 0 0] 31)).alloc (.cells zs 58)) 31 #[.slice none 0 0, .slice (some ⟨q + 1, 0, none⟩) n n]
    have e : ∀ (u : World) (o : Obj), (u.alloc o).heap.size = u.heap.size + 1 := fun u o => by simp
    rw [e, hq] at b1
    rw [e, e, hq] at b2
    refine ⟨((boxed w _).alloc (by simp) _).alloc (by simp; omega) _, (Blk.new w _ _).alloc _ |>.alloc _, ⟨_, _, b2, OPL.nil_ _ _, zs.toList, ⟨?_, hz _ _⟩⟩, by omega⟩
    have hl : (newW n).ses.length = n := new_len n
    rw [hl]
    exact ⟨by simpa using hzs, .inr ⟨q + 1, n, zs, rfl, by omega, b1.alloc _, Nat.le_refl _, by unfold maxLen; omega, hzs, by rw [List.take_of_length_le (by simp [hzs])]⟩⟩)
  clear hN hT hz hzs
  go_enter Tryd.func26, Tryd.ntmps26
  go_wp2_with fail
  generalize World.alloc _ _ = x0 at M0 ⊢
  go_loopw [10, 11] (fun v i wx => ∃ (k : Nat) (cs : List Value), k ≤ N ∧ k ≤ most ∧ i = .int .i64 k ∧ PlayAt w wx (q + 2) (playL n (l.take k) (newW n)) ∧ wx.ownsRow w.heap.size 48 3 v k cs) (fun _ i _ => N - (intOf i).toNat)
  case atStart => exact ⟨0, [], Nat.zero_le _, Nat.zero_le _, rfl, by rw [List.take_zero]; exact M0.out, World.ownsRow_nil _ _ _ _⟩
  case round =>
    obtain ⟨k, cs, hk, hkm, rfl, hM, ho⟩ := hrel
    by_cases hlt : k < N ∧ k < most
    · have g1 : (k : Int) < (N : Int) := by omega
      have g2 : (0 : Int) ≤ (k : Int) := by omega
      have g3 : (k : Int) < (most : Int) := by omega
      have hkl : k < l.length := by rw [HN.out]; exact hlt.1
      obtain ⟨_, _, e0, _, _, hrow, hwf⟩ := HL.out
      injection e0 with e1 e2 e3
      subst e3
      obtain ⟨ad, hA, hB, hat⟩ := hrow (by omega)
      rw [hA] at e1
      subst e1
      obtain ⟨x, hx⟩ : ∃ x, l[k] = x := ⟨_, rfl⟩
      have hR := (hat k hkl).below (by rw [block_of_add]; exact hB) hM.bel
      have hW := hwf l[k] (List.getElem_mem hkl)
      rw [hx] at hR hW
      have htk : l.take (k + 1) = l.take k ++ [x] := by rw [List.take_succ_eq_append_getElem hkl, hx]
      obtain ⟨W, hWW⟩ : ∃ W, playL n (l.take k) (newW n) = W := ⟨_, rfl⟩
      have HPL := Lib.hid (show playL n (l.take (k + 1)) (newW n) = stepW n W x by rw [htk, ← hWW]; unfold playL; rw [List.foldl_append]; rfl)
      have hgood := play_good HN8.out.1 (l.take k) (new_good n HN8.out.2) (new_len n)
      rw [hWW] at hM
      have hgood : Good W ∧ W.ses.length = n := by rw [← hWW]; exact hgood
      obtain ⟨hee, hrr⟩ := do_step hgood.1 hgood.2 HN8.out.1 x
      obtain ⟨hsl, hpk⟩ := sess_lt x HN8.out.1
      have HSZ := Lib.hid (show x.st.key.size ≤ maxLen ∧ x.st.val.size ≤ maxLen by have := raw_size x.k x.a x.b x.c; unfold Rw.st maxLen; omega)
      have HPI := Lib.hid (show (Lit.int .i64 (pick x.c n)).wf = true by rw [hpk]; exact i64_wf (by omega) (by omega))
      obtain ⟨r0, s0, y, o1, cs0, o2⟩ := hM.box.box
      have HX := Lib.hid (show ∀ wx, Below wr.heap.size wr wx → WL wx wx.heap.size r0 s0 W from fun wx hb => ⟨(o1.keeps (.of_below hb)).pl, (osl_keeps o2 (.of_below hb) (.of_below hb)).sl (by rw [hgood.2]; omega)⟩)
      have y0 := y.cell_ 0 _ rfl
      have y1 := y.cell_ 1 _ rfl
      have HM := Lib.hid hM
      have HO := Lib.hid ho
      have HWF := Lib.hid hW
      obtain ⟨a0, a1, a2, a3⟩ := hR
      obtain ⟨xk, xa, xb, xc⟩ := x
      have HEE := Lib.hid hee
      obtain ⟨R, hRD⟩ : ∃ R, doW W (Rw.sess ⟨xk, xa, xb, xc⟩ n) (Rw.st ⟨xk, xa, xb, xc⟩) = R := ⟨_, rfl⟩
      obtain ⟨W2, aN⟩ := R
      have HRR := Lib.hid (hrr.trans hRD)
      have HP2 := Lib.hid (show playL n (l.take (k + 1)) (newW n) = W2 by rw [HPL.out]; unfold stepW; rw [hRD])
      clear hee hrr hRD hgood hpk hsl HPL hM ho hW o1 o2 y hWW htk hkl hwf hrow hat hx
      go_upto_region 6 with fail
      go_cut [12, 13, 14] (fun p p2 e wc => ∃ z12 z13 r s, p = .pointer (some ⟨z12, 0, none⟩) ∧ p2 = .pointer (some ⟨z13, 0, none⟩) ∧ e = .int .i64 0 ∧ DoN w.heap.size wr wc z12 z13 r s W2 aN)
      case first =>
        refine region_segs [20, 21] (by kernel_rfl) ?_
        refine anyB_seg [0, 1, 2, 3, 4, 5, 6, 8, 9, 10, 11] 12 rfl (by kernel_rfl) (by kernel_rfl) (by kernel_rfl) (fun _ _ d _ _ h => by cases d <;> exact h) ?_
        simp only [pickOps, List.getElem?_toArray, List.getElem?_cons_zero, List.getElem?_cons_succ]
        go_wp2_with fail
        refine ⟨rfl, by rfl, ?_⟩
        have S0 := Lib.hid ((DoS.start w.heap.size wr).keep (Below.refl _ _).drew)
        obtain ⟨aK, aT, aS⟩ := aN
        clear a0 a1 a2 a3 y0 y1
        generalize wr.drew = x0 at S0 ⊢
        refine anyB_three (i := 7) (j := 18) (k := 19) (by kernel_rfl) rfl rfl rfl (fun K hK => ?_) (fun K hK => ?_) (fun K hK => ?_)
        · go_simp
          refine (picked_any _ _ _ HWF.out.c (by omega) (by omega)).mono ?_
          rintro e x1 ⟨rfl, b⟩
          replace b : Below x0.heap.size x0 x1 := by rw [← b]; exact Below.refl _ _
          refine hK.out _ _ (fun _ => b) ?_
          clear hK K
          have S1 := Lib.hid (S0.out.keep b)
          clear b S0
          refine anyB_three (i := 12) (j := 18) (k := 19) (by kernel_rfl) rfl rfl rfl (fun K hK => ?_) (fun K hK => ?_) (fun K hK => ?_)
          · go_simp
            refine (stmt_any _ _ _ _ HWF.out.k HWF.out.a HWF.out.b HWF.out.c _).mono ?_
            rintro e x2 ⟨rfl, b⟩
            refine hK.out _ _ (fun _ => b) ?_
            clear hK K
            have S2 := Lib.hid (S1.out.keep b)
            clear b S1
            refine anyB_three (i := 13) (j := 18) (k := 19) (by kernel_rfl) rfl rfl rfl (fun K hK => ?_) (fun K hK => ?_) (fun K hK => ?_)
            · unfold St.v
              go_simp
              refine (do_world _ _ _ _ _ _ (HT.out.below (HM.out.bel.trans (S2.out.hb.mono HM.out.bel.size))) (HX.out _ S2.out.hb) HPI.out HSZ.out.1 HSZ.out.2).mono ?_
              rintro e x3 ⟨r', s', cs', rfl, o1, o2, b⟩
              refine hK.out _ _ (fun _ => b) ?_
              clear hK K
              rw [HRR.out] at o1 o2 ⊢
              rw [HEE.out]
              obtain ⟨A1, k1, rfl⟩ := o1.form
              obtain ⟨A2, k2, rfl⟩ := own_slice o2.own
              have S3 := Lib.hid (S2.out.did (Nat.le_trans HM.out.bel.size S2.out.hb.size) o1 o2 b)
              clear b S2 o1 o2
              unfold anV
              refine anyB_seg [14, 15, 16, 17] 5 rfl (by kernel_rfl) (by kernel_rfl) (by kernel_rfl) (fun _ _ d _ _ h => by cases d <;> exact h) ?_
              simp only [pickOps, List.getElem?_toArray, List.getElem?_cons_zero, List.getElem?_cons_succ]
              go_wp2_with fail
              refine ⟨rfl, by rfl, ?_⟩
              refine anyB_two (i := 18) (j := 19) (by kernel_rfl) rfl rfl (fun K hK => ?_) (fun K hK => ?_)
              · go_simp
                refine hK.out _ _ (fun _ => (boxed _ _)) ?_
                clear hK K
                have S4 := Lib.hid S3.out.f12
                obtain ⟨z12, hz⟩ : ∃ z, x3.heap.size = z := ⟨_, rfl⟩
                rw [hz] at S4 ⊢
                generalize World.alloc _ _ = x4 at S4 ⊢
                clear S3 hz
                refine anyB_one (i := 19) (by kernel_rfl) rfl (fun K hK => ?_)
                go_simp
                refine hK.out _ _ (fun _ => (boxed _ _)) ?_
                clear hK K
                have S5 := Lib.hid S4.out.f13
                obtain ⟨z13, hz⟩ : ∃ z, x4.heap.size = z := ⟨_, rfl⟩
                rw [hz] at S5 ⊢
                generalize World.alloc _ _ = x5 at S5 ⊢
                clear S4 hz
                obtain ⟨b12, l12⟩ := S5.out.b12 _ rfl
                obtain ⟨b13, l13⟩ := S5.out.b13 _ rfl
                have n12 : ¬ (z13 = z12) := b13.ne_ b12 (by decide)
                have f0 := b12.cell_ 0 _ rfl
                have f1 := b12.cell_ 1 _ rfl
                have f2 := b13.cell_ 0 _ rfl
                have f3 := b13.cell_ 1 _ rfl
                have f4 := b13.cell_ 2 _ rfl
                have ff := b12.frozen
                have fg := b13.frozen
                clear b12 b13 l12 l13
                refine anyB_one (i := 20) (by kernel_rfl) rfl (fun K hK => ?_)
                go_simp
                refine hK.out _ _ (fun h => absurd (by decide) h) ?_
                clear hK K
                refine anyB_one (i := 21) (by kernel_rfl) rfl (fun K hK => ?_)
                go_simp
                refine hK.out _ _ (fun h => absurd (by decide) h) ?_
                clear hK K
                refine anyB_seg [22] 0 rfl (by kernel_rfl) (by kernel_rfl) (by kernel_rfl) (fun _ _ d _ _ h => by cases d <;> exact h) ?_
                simp only [pickOps, List.getElem?_toArray, List.getElem?_cons_zero, List.getElem?_cons_succ]
                go_wp2_with fail
                refine ⟨rfl, by rfl, ?_⟩
                refine anyB_done (by kernel_rfl) ?_ _
                have FN := Lib.hid (S5.out.fin (a := ⟨aK, aT, aS⟩) rfl)
                clear f0 f1 f2 f3 f4 ff fg n12
                generalize World.setCell _ _ _ = x9 at FN ⊢
                go_wp2_with fail
                go_meet
                exact ⟨z12, z13, _, _, rfl, rfl, rfl, FN.out⟩
              · go_simp
                refine hK.out _ _ (fun _ => (boxed _ _)) ?_
                clear hK K
                have S4 := Lib.hid S3.out.f13
                obtain ⟨z13, hz⟩ : ∃ z, x3.heap.size = z := ⟨_, rfl⟩
                rw [hz] at S4 ⊢
                generalize World.alloc _ _ = x4 at S4 ⊢
                clear S3 hz
                refine anyB_one (i := 18) (by kernel_rfl) rfl (fun K hK => ?_)
                go_simp
                refine hK.out _ _ (fun _ => (boxed _ _)) ?_
                clear hK K
                have S5 := Lib.hid S4.out.f12
                obtain ⟨z12, hz⟩ : ∃ z, x4.heap.size = z := ⟨_, rfl⟩
                rw [hz] at S5 ⊢
                generalize World.alloc _ _ = x5 at S5 ⊢
                clear S4 hz
                obtain ⟨b12, l12⟩ := S5.out.b12 _ rfl
                obtain ⟨b13, l13⟩ := S5.out.b13 _ rfl
                have n12 : ¬ (z13 = z12) := b13.ne_ b12 (by decide)
                have f0 := b12.cell_ 0 _ rfl
                have f1 := b12.cell_ 1 _ rfl
                have f2 := b13.cell_ 0 _ rfl
                have f3 := b13.cell_ 1 _ rfl
                have f4 := b13.cell_ 2 _ rfl
                have ff := b12.frozen
                have fg := b13.frozen
                clear b12 b13 l12 l13
                refine anyB_one (i := 20) (by kernel_rfl) rfl (fun K hK => ?_)
                go_simp
                refine hK.out _ _ (fun h => absurd (by decide) h) ?_
                clear hK K
                refine anyB_one (i := 21) (by kernel_rfl) rfl (fun K hK => ?_)
                go_simp
                refine hK.out _ _ (fun h => absurd (by decide) h) ?_
                clear hK K
                refine anyB_seg [22] 0 rfl (by kernel_rfl) (by kernel_rfl) (by kernel_rfl) (fun _ _ d _ _ h => by cases d <;> exact h) ?_
                simp only [pickOps, List.getElem?_toArray, List.getElem?_cons_zero, List.getElem?_cons_succ]
                go_wp2_with fail
                refine ⟨rfl, by rfl, ?_⟩
                refine anyB_done (by kernel_rfl) ?_ _
                have FN := Lib.hid (S5.out.fin (a := ⟨aK, aT, aS⟩) rfl)
                clear f0 f1 f2 f3 f4 ff fg n12
                generalize World.setCell _ _ _ = x9 at FN ⊢
                go_wp2_with fail
                go_meet
                exact ⟨z12, z13, _, _, rfl, rfl, rfl, FN.out⟩
            · go_simp
              refine hK.out _ _ (fun _ => (boxed _ _)) ?_
              clear hK K
              have S3 := Lib.hid S2.out.f12
              obtain ⟨z12, hz⟩ : ∃ z, x2.heap.size = z := ⟨_, rfl⟩
              rw [hz] at S3 ⊢
              generalize World.alloc _ _ = x3 at S3 ⊢
              clear S2 hz
              refine anyB_two (i := 13) (j := 19) (by kernel_rfl) rfl rfl (fun K hK => ?_) (fun K hK => ?_)
              · unfold St.v
                go_simp
                refine (do_world _ _ _ _ _ _ (HT.out.below (HM.out.bel.trans (S3.out.hb.mono HM.out.bel.size))) (HX.out _ S3.out.hb) HPI.out HSZ.out.1 HSZ.out.2).mono ?_
                rintro e x4 ⟨r', s', cs', rfl, o1, o2, b⟩
                refine hK.out _ _ (fun _ => b) ?_
                clear hK K
                rw [HRR.out] at o1 o2 ⊢
                rw [HEE.out]
                obtain ⟨A1, k1, rfl⟩ := o1.form
                obtain ⟨A2, k2, rfl⟩ := own_slice o2.own
                have S4 := Lib.hid (S3.out.did (Nat.le_trans HM.out.bel.size S3.out.hb.size) o1 o2 b)
                clear b S3 o1 o2
                unfold anV
                refine anyB_seg [14, 15, 16, 17] 4 rfl (by kernel_rfl) (by kernel_rfl) (by kernel_rfl) (fun _ _ d _ _ h => by cases d <;> exact h) ?_
                simp only [pickOps, List.getElem?_toArray, List.getElem?_cons_zero, List.getElem?_cons_succ]
                go_wp2_with fail
                refine ⟨rfl, by rfl, ?_⟩
                refine anyB_one (i := 19) (by kernel_rfl) rfl (fun K hK => ?_)
                go_simp
                refine hK.out _ _ (fun _ => (boxed _ _)) ?_
                clear hK K
                have S5 := Lib.hid S4.out.f13
                obtain ⟨z13, hz⟩ : ∃ z, x4.heap.size = z := ⟨_, rfl⟩
                rw [hz] at S5 ⊢
                generalize World.alloc _ _ = x5 at S5 ⊢
                clear S4 hz
                obtain ⟨b12, l12⟩ := S5.out.b12 _ rfl
                obtain ⟨b13, l13⟩ := S5.out.b13 _ rfl
                have n12 : ¬ (z13 = z12) := b13.ne_ b12 (by decide)
                have f0 := b12.cell_ 0 _ rfl
                have f1 := b12.cell_ 1 _ rfl
                have f2 := b13.cell_ 0 _ rfl
                have f3 := b13.cell_ 1 _ rfl
                have f4 := b13.cell_ 2 _ rfl
                have ff := b12.frozen
                have fg := b13.frozen
                clear b12 b13 l12 l13
                refine anyB_one (i := 20) (by kernel_rfl) rfl (fun K hK => ?_)
                go_simp
                refine hK.out _ _ (fun h => absurd (by decide) h) ?_
                clear hK K
                refine anyB_one (i := 21) (by kernel_rfl) rfl (fun K hK => ?_)
                go_simp
                refine hK.out _ _ (fun h => absurd (by decide) h) ?_
                clear hK K
                refine anyB_seg [22] 0 rfl (by kernel_rfl) (by kernel_rfl) (by kernel_rfl) (fun _ _ d _ _ h => by cases d <;> exact h) ?_
                simp only [pickOps, List.getElem?_toArray, List.getElem?_cons_zero, List.getElem?_cons_succ]
                go_wp2_with fail
                refine ⟨rfl, by rfl, ?_⟩
                refine anyB_done (by kernel_rfl) ?_ _
                have FN := Lib.hid (S5.out.fin (a := ⟨aK, aT, aS⟩) rfl)
                clear f0 f1 f2 f3 f4 ff fg n12
                generalize World.setCell _ _ _ = x9 at FN ⊢
                go_wp2_with fail
                go_meet
                exact ⟨z12, z13, _, _, rfl, rfl, rfl, FN.out⟩
              · go_simp
                refine hK.out _ _ (fun _ => (boxed _ _)) ?_
                clear hK K
                have S4 := Lib.hid S3.out.f13
                obtain ⟨z13, hz⟩ : ∃ z, x3.heap.size = z := ⟨_, rfl⟩
                rw [hz] at S4 ⊢
                generalize World.alloc _ _ = x4 at S4 ⊢
                clear S3 hz
                refine anyB_one (i := 13) (by kernel_rfl) rfl (fun K hK => ?_)
                unfold St.v
                go_simp
                refine (do_world _ _ _ _ _ _ (HT.out.below (HM.out.bel.trans (S4.out.hb.mono HM.out.bel.size))) (HX.out _ S4.out.hb) HPI.out HSZ.out.1 HSZ.out.2).mono ?_
                rintro e x5 ⟨r', s', cs', rfl, o1, o2, b⟩
                refine hK.out _ _ (fun _ => b) ?_
                clear hK K
                rw [HRR.out] at o1 o2 ⊢
                rw [HEE.out]
                obtain ⟨A1, k1, rfl⟩ := o1.form
                obtain ⟨A2, k2, rfl⟩ := own_slice o2.own
                have S5 := Lib.hid (S4.out.did (Nat.le_trans HM.out.bel.size S4.out.hb.size) o1 o2 b)
                clear b S4 o1 o2
                unfold anV
                refine anyB_seg [14, 15, 16, 17] 3 rfl (by kernel_rfl) (by kernel_rfl) (by kernel_rfl) (fun _ _ d _ _ h => by cases d <;> exact h) ?_
                simp only [pickOps, List.getElem?_toArray, List.getElem?_cons_zero, List.getElem?_cons_succ]
                go_wp2_with fail
                refine ⟨rfl, by rfl, ?_⟩
                obtain ⟨b12, l12⟩ := S5.out.b12 _ rfl
                obtain ⟨b13, l13⟩ := S5.out.b13 _ rfl
                have n12 : ¬ (z13 = z12) := b13.ne_ b12 (by decide)
                have f0 := b12.cell_ 0 _ rfl
                have f1 := b12.cell_ 1 _ rfl
                have f2 := b13.cell_ 0 _ rfl
                have f3 := b13.cell_ 1 _ rfl
                have f4 := b13.cell_ 2 _ rfl
                have ff := b12.frozen
                have fg := b13.frozen
                clear b12 b13 l12 l13
                refine anyB_one (i := 20) (by kernel_rfl) rfl (fun K hK => ?_)
                go_simp
                refine hK.out _ _ (fun h => absurd (by decide) h) ?_
                clear hK K
                refine anyB_one (i := 21) (by kernel_rfl) rfl (fun K hK => ?_)
                go_simp
                refine hK.out _ _ (fun h => absurd (by decide) h) ?_
                clear hK K
                refine anyB_seg [22] 0 rfl (by kernel_rfl) (by kernel_rfl) (by kernel_rfl) (fun _ _ d _ _ h => by cases d <;> exact h) ?_
                simp only [pickOps, List.getElem?_toArray, List.getElem?_cons_zero, List.getElem?_cons_succ]
                go_wp2_with fail
                refine ⟨rfl, by rfl, ?_⟩
                refine anyB_done (by kernel_rfl) ?_ _
                have FN := Lib.hid (S5.out.fin (a := ⟨aK, aT, aS⟩) rfl)
                clear f0 f1 f2 f3 f4 ff fg n12
                generalize World.setCell _ _ _ = x9 at FN ⊢
                go_wp2_with fail
                go_meet
                exact ⟨z12, z13, _, _, rfl, rfl, rfl, FN.out⟩
            · go_simp
              refine hK.out _ _ (fun _ => (boxed _ _)) ?_
              clear hK K
              have S3 := Lib.hid S2.out.f13
              obtain ⟨z13, hz⟩ : ∃ z, x2.heap.size = z := ⟨_, rfl⟩
              rw [hz] at S3 ⊢
              generalize World.alloc _ _ = x3 at S3 ⊢
              clear S2 hz
              refine anyB_two (i := 13) (j := 18) (by kernel_rfl) rfl rfl (fun K hK => ?_) (fun K hK => ?_)
              · unfold St.v
                go_simp
                refine (do_world _ _ _ _ _ _ (HT.out.below (HM.out.bel.trans (S3.out.hb.mono HM.out.bel.size))) (HX.out _ S3.out.hb) HPI.out HSZ.out.1 HSZ.out.2).mono ?_
                rintro e x4 ⟨r', s', cs', rfl, o1, o2, b⟩
                refine hK.out _ _ (fun _ => b) ?_
                clear hK K
                rw [HRR.out] at o1 o2 ⊢
                rw [HEE.out]
                obtain ⟨A1, k1, rfl⟩ := o1.form
                obtain ⟨A2, k2, rfl⟩ := own_slice o2.own
                have S4 := Lib.hid (S3.out.did (Nat.le_trans HM.out.bel.size S3.out.hb.size) o1 o2 b)
                clear b S3 o1 o2
                unfold anV
                refine anyB_seg [14, 15, 16, 17] 4 rfl (by kernel_rfl) (by kernel_rfl) (by kernel_rfl) (fun _ _ d _ _ h => by cases d <;> exact h) ?_
                simp only [pickOps, List.getElem?_toArray, List.getElem?_cons_zero, List.getElem?_cons_succ]
                go_wp2_with fail
                refine ⟨rfl, by rfl, ?_⟩
                refine anyB_one (i := 18) (by kernel_rfl) rfl (fun K hK => ?_)
                go_simp
                refine hK.out _ _ (fun _ => (boxed _ _)) ?_
                clear hK K
                have S5 := Lib.hid S4.out.f12
                obtain ⟨z12, hz⟩ : ∃ z, x4.heap.size = z := ⟨_, rfl⟩
                rw [hz] at S5 ⊢
                generalize World.alloc _ _ = x5 at S5 ⊢
                clear S4 hz
                obtain ⟨b12, l12⟩ := S5.out.b12 _ rfl
                obtain ⟨b13, l13⟩ := S5.out.b13 _ rfl
                have n12 : ¬ (z13 = z12) := b13.ne_ b12 (by decide)
                have f0 := b12.cell_ 0 _ rfl
                have f1 := b12.cell_ 1 _ rfl
                have f2 := b13.cell_ 0 _ rfl
                have f3 := b13.cell_ 1 _ rfl
                have f4 := b13.cell_ 2 _ rfl
                have ff := b12.frozen
                have fg := b13.frozen
                clear b12 b13 l12 l13
                refine anyB_one (i := 20) (by kernel_rfl) rfl (fun K hK => ?_)
                go_simp
                refine hK.out _ _ (fun h => absurd (by decide) h) ?_
                clear hK K
                refine anyB_one (i := 21) (by kernel_rfl) rfl (fun K hK => ?_)
                go_simp
                refine hK.out _ _ (fun h => absurd (by decide) h) ?_
                clear hK K
                refine anyB_seg [22] 0 rfl (by kernel_rfl) (by kernel_rfl) (by kernel_rfl) (fun _ _ d _ _ h => by cases d <;> exact h) ?_
                simp only [pickOps, List.getElem?_toArray, List.getElem?_cons_zero, List.getElem?_cons_succ]
                go_wp2_with fail
                refine ⟨rfl, by rfl, ?_⟩
                refine anyB_done (by kernel_rfl) ?_ _
                have FN := Lib.hid (S5.out.fin (a := ⟨aK, aT, aS⟩) rfl)
                clear f0 f1 f2 f3 f4 ff fg n12
                generalize World.setCell _ _ _ = x9 at FN ⊢
                go_wp2_with fail
                go_meet
                exact ⟨z12, z13, _, _, rfl, rfl, rfl, FN.out⟩
              · go_simp
                refine hK.out _ _ (fun _ => (boxed _ _)) ?_
                clear hK K
                have S4 := Lib.hid S3.out.f12
                obtain ⟨z12, hz⟩ : ∃ z, x3.heap.size = z := ⟨_, rfl⟩
                rw [hz] at S4 ⊢
                generalize World.alloc _ _ = x4 at S4 ⊢
                clear S3 hz
                refine anyB_one (i := 13) (by kernel_rfl) rfl (fun K hK => ?_)
                unfold St.v
                go_simp
                refine (do_world _ _ _ _ _ _ (HT.out.below (HM.out.bel.trans (S4.out.hb.mono HM.out.bel.size))) (HX.out _ S4.out.hb) HPI.out HSZ.out.1 HSZ.out.2).mono ?_
                rintro e x5 ⟨r', s', cs', rfl, o1, o2, b⟩
                refine hK.out _ _ (fun _ => b) ?_
                clear hK K
                rw [HRR.out] at o1 o2 ⊢
                rw [HEE.out]
                obtain ⟨A1, k1, rfl⟩ := o1.form
                obtain ⟨A2, k2, rfl⟩ := own_slice o2.own
                have S5 := Lib.hid (S4.out.did (Nat.le_trans HM.out.bel.size S4.out.hb.size) o1 o2 b)
                clear b S4 o1 o2
                unfold anV
                refine anyB_seg [14, 15, 16, 17] 3 rfl (by kernel_rfl) (by kernel_rfl) (by kernel_rfl) (fun _ _ d _ _ h => by cases d <;> exact h) ?_
                simp only [pickOps, List.getElem?_toArray, List.getElem?_cons_zero, List.getElem?_cons_succ]
                go_wp2_with fail
                refine ⟨rfl, by rfl, ?_⟩
                obtain ⟨b12, l12⟩ := S5.out.b12 _ rfl
                obtain ⟨b13, l13⟩ := S5.out.b13 _ rfl
                have n12 : ¬ (z13 = z12) := b13.ne_ b12 (by decide)
                have f0 := b12.cell_ 0 _ rfl
                have f1 := b12.cell_ 1 _ rfl
                have f2 := b13.cell_ 0 _ rfl
                have f3 := b13.cell_ 1 _ rfl
                have f4 := b13.cell_ 2 _ rfl
                have ff := b12.frozen
                have fg := b13.frozen
                clear b12 b13 l12 l13
                refine anyB_one (i := 20) (by kernel_rfl) rfl (fun K hK => ?_)
                go_simp
                refine hK.out _ _ (fun h => absurd (by decide) h) ?_
                clear hK K
                refine anyB_one (i := 21) (by kernel_rfl) rfl (fun K hK => ?_)
                go_simp
                refine hK.out _ _ (fun h => absurd (by decide) h) ?_
                clear hK K
                refine anyB_seg [22] 0 rfl (by kernel_rfl) (by kernel_rfl) (by kernel_rfl) (fun _ _ d _ _ h => by cases d <;> exact h) ?_
                simp only [pickOps, List.getElem?_toArray, List.getElem?_cons_zero, List.getElem?_cons_succ]
                go_wp2_with fail
                refine ⟨rfl, by rfl, ?_⟩
                refine anyB_done (by kernel_rfl) ?_ _
                have FN := Lib.hid (S5.out.fin (a := ⟨aK, aT, aS⟩) rfl)
                clear f0 f1 f2 f3 f4 ff fg n12
                generalize World.setCell _ _ _ = x9 at FN ⊢
                go_wp2_with fail
                go_meet
                exact ⟨z12, z13, _, _, rfl, rfl, rfl, FN.out⟩
          · go_simp
            refine hK.out _ _ (fun _ => (boxed _ _)) ?_
            clear hK K
            have S2 := Lib.hid S1.out.f12
            obtain ⟨z12, hz⟩ : ∃ z, x1.heap.size = z := ⟨_, rfl⟩
            rw [hz] at S2 ⊢
            generalize World.alloc _ _ = x2 at S2 ⊢
            clear S1 hz
            refine anyB_two (i := 12) (j := 19) (by kernel_rfl) rfl rfl (fun K hK => ?_) (fun K hK => ?_)
            · go_simp
              refine (stmt_any _ _ _ _ HWF.out.k HWF.out.a HWF.out.b HWF.out.c _).mono ?_
              rintro e x3 ⟨rfl, b⟩
              refine hK.out _ _ (fun _ => b) ?_
              clear hK K
              have S3 := Lib.hid (S2.out.keep b)
              clear b S2
              refine anyB_two (i := 13) (j := 19) (by kernel_rfl) rfl rfl (fun K hK => ?_) (fun K hK => ?_)
              · unfold St.v
                go_simp
                refine (do_world _ _ _ _ _ _ (HT.out.below (HM.out.bel.trans (S3.out.hb.mono HM.out.bel.size))) (HX.out _ S3.out.hb) HPI.out HSZ.out.1 HSZ.out.2).mono ?_
                rintro e x4 ⟨r', s', cs', rfl, o1, o2, b⟩
                refine hK.out _ _ (fun _ => b) ?_
                clear hK K
                rw [HRR.out] at o1 o2 ⊢
                rw [HEE.out]
                obtain ⟨A1, k1, rfl⟩ := o1.form
                obtain ⟨A2, k2, rfl⟩ := own_slice o2.own
                have S4 := Lib.hid (S3.out.did (Nat.le_trans HM.out.bel.size S3.out.hb.size) o1 o2 b)
                clear b S3 o1 o2
                unfold anV
                refine anyB_seg [14, 15, 16, 17] 4 rfl (by kernel_rfl) (by kernel_rfl) (by kernel_rfl) (fun _ _ d _ _ h => by cases d <;> exact h) ?_
                simp only [pickOps, List.getElem?_toArray, List.getElem?_cons_zero, List.getElem?_cons_succ]
                go_wp2_with fail
                refine ⟨rfl, by rfl, ?_⟩
                refine anyB_one (i := 19) (by kernel_rfl) rfl (fun K hK => ?_)
                go_simp
                refine hK.out _ _ (fun _ => (boxed _ _)) ?_
                clear hK K
                have S5 := Lib.hid S4.out.f13
                obtain ⟨z13, hz⟩ : ∃ z, x4.heap.size = z := ⟨_, rfl⟩
                rw [hz] at S5 ⊢
                generalize World.alloc _ _ = x5 at S5 ⊢
                clear S4 hz
                obtain ⟨b12, l12⟩ := S5.out.b12 _ rfl
                obtain ⟨b13, l13⟩ := S5.out.b13 _ rfl
                have n12 : ¬ (z13 = z12) := b13.ne_ b12 (by decide)
                have f0 := b12.cell_ 0 _ rfl
                have f1 := b12.cell_ 1 _ rfl
                have f2 := b13.cell_ 0 _ rfl
                have f3 := b13.cell_ 1 _ rfl
                have f4 := b13.cell_ 2 _ rfl
                have ff := b12.frozen
                have fg := b13.frozen
                clear b12 b13 l12 l13
                refine anyB_one (i := 20) (by kernel_rfl) rfl (fun K hK => ?_)
                go_simp
                refine hK.out _ _ (fun h => absurd (by decide) h) ?_
                clear hK K
                refine anyB_one (i := 21) (by kernel_rfl) rfl (fun K hK => ?_)
                go_simp
                refine hK.out _ _ (fun h => absurd (by decide) h) ?_
                clear hK K
                refine anyB_seg [22] 0 rfl (by kernel_rfl) (by kernel_rfl) (by kernel_rfl) (fun _ _ d _ _ h => by cases d <;> exact h) ?_
                simp only [pickOps, List.getElem?_toArray, List.getElem?_cons_zero, List.getElem?_cons_succ]
                go_wp2_with fail
                refine ⟨rfl, by rfl, ?_⟩
                refine anyB_done (by kernel_rfl) ?_ _
                have FN := Lib.hid (S5.out.fin (a := ⟨aK, aT, aS⟩) rfl)
                clear f0 f1 f2 f3 f4 ff fg n12
                generalize World.setCell _ _ _ = x9 at FN ⊢
                go_wp2_with fail
                go_meet
                exact ⟨z12, z13, _, _, rfl, rfl, rfl, FN.out⟩
              · go_simp
                refine hK.out _ _ (fun _ => (boxed _ _)) ?_
                clear hK K
                have S4 := Lib.hid S3.out.f13
                obtain ⟨z13, hz⟩ : ∃ z, x3.heap.size = z := ⟨_, rfl⟩
                rw [hz] at S4 ⊢
                generalize World.alloc _ _ = x4 at S4 ⊢
                clear S3 hz
                refine anyB_one (i := 13) (by kernel_rfl) rfl (fun K hK => ?_)
                unfold St.v
                go_simp
                refine (do_world _ _ _ _ _ _ (HT.out.below (HM.out.bel.trans (S4.out.hb.mono HM.out.bel.size))) (HX.out _ S4.out.hb) HPI.out HSZ.out.1 HSZ.out.2).mono ?_
                rintro e x5 ⟨r', s', cs', rfl, o1, o2, b⟩
                refine hK.out _ _ (fun _ => b) ?_
                clear hK K
                rw [HRR.out] at o1 o2 ⊢
                rw [HEE.out]
                obtain ⟨A1, k1, rfl⟩ := o1.form
                obtain ⟨A2, k2, rfl⟩ := own_slice o2.own
                have S5 := Lib.hid (S4.out.did (Nat.le_trans HM.out.bel.size S4.out.hb.size) o1 o2 b)
                clear b S4 o1 o2
                unfold anV
                refine anyB_seg [14, 15, 16, 17] 3 rfl (by kernel_rfl) (by kernel_rfl) (by kernel_rfl) (fun _ _ d _ _ h => by cases d <;> exact h) ?_
                simp only [pickOps, List.getElem?_toArray, List.getElem?_cons_zero, List.getElem?_cons_succ]
                go_wp2_with fail
                refine ⟨rfl, by rfl, ?_⟩
                obtain ⟨b12, l12⟩ := S5.out.b12 _ rfl
                obtain ⟨b13, l13⟩ := S5.out.b13 _ rfl
                have n12 : ¬ (z13 = z12) := b13.ne_ b12 (by decide)
                have f0 := b12.cell_ 0 _ rfl
                have f1 := b12.cell_ 1 _ rfl
                have f2 := b13.cell_ 0 _ rfl
                have f3 := b13.cell_ 1 _ rfl
                have f4 := b13.cell_ 2 _ rfl
                have ff := b12.frozen
                have fg := b13.frozen
                clear b12 b13 l12 l13
                refine anyB_one (i := 20) (by kernel_rfl) rfl (fun K hK => ?_)
                go_simp
                refine hK.out _ _ (fun h => absurd (by decide) h) ?_
                clear hK K
                refine anyB_one (i := 21) (by kernel_rfl) rfl (fun K hK => ?_)
                go_simp
                refine hK.out _ _ (fun h => absurd (by decide) h) ?_
                clear hK K
                refine anyB_seg [22] 0 rfl (by kernel_rfl) (by kernel_rfl) (by kernel_rfl) (fun _ _ d _ _ h => by cases d <;> exact h) ?_
                simp only [pickOps, List.getElem?_toArray, List.getElem?_cons_zero, List.getElem?_cons_succ]
                go_wp2_with fail
                refine ⟨rfl, by rfl, ?_⟩
                refine anyB_done (by kernel_rfl) ?_ _
                have FN := Lib.hid (S5.out.fin (a := ⟨aK, aT, aS⟩) rfl)
                clear f0 f1 f2 f3 f4 ff fg n12
                generalize World.setCell _ _ _ = x9 at FN ⊢
                go_wp2_with fail
                go_meet
                exact ⟨z12, z13, _, _, rfl, rfl, rfl, FN.out⟩
            · go_simp
              refine hK.out _ _ (fun _ => (boxed _ _)) ?_
              clear hK K
              have S3 := Lib.hid S2.out.f13
              obtain ⟨z13, hz⟩ : ∃ z, x2.heap.size = z := ⟨_, rfl⟩
              rw [hz] at S3 ⊢
              generalize World.alloc _ _ = x3 at S3 ⊢
              clear S2 hz
              refine anyB_one (i := 12) (by kernel_rfl) rfl (fun K hK => ?_)
              go_simp
              refine (stmt_any _ _ _ _ HWF.out.k HWF.out.a HWF.out.b HWF.out.c _).mono ?_
              rintro e x4 ⟨rfl, b⟩
              refine hK.out _ _ (fun _ => b) ?_
              clear hK K
              have S4 := Lib.hid (S3.out.keep b)
              clear b S3
              refine anyB_one (i := 13) (by kernel_rfl) rfl (fun K hK => ?_)
              unfold St.v
              go_simp
              refine (do_world _ _ _ _ _ _ (HT.out.below (HM.out.bel.trans (S4.out.hb.mono HM.out.bel.size))) (HX.out _ S4.out.hb) HPI.out HSZ.out.1 HSZ.out.2).mono ?_
              rintro e x5 ⟨r', s', cs', rfl, o1, o2, b⟩
              refine hK.out _ _ (fun _ => b) ?_
              clear hK K
              rw [HRR.out] at o1 o2 ⊢
              rw [HEE.out]
              obtain ⟨A1, k1, rfl⟩ := o1.form
              obtain ⟨A2, k2, rfl⟩ := own_slice o2.own
              have S5 := Lib.hid (S4.out.did (Nat.le_trans HM.out.bel.size S4.out.hb.size) o1 o2 b)
              clear b S4 o1 o2
              unfold anV
              refine anyB_seg [14, 15, 16, 17] 3 rfl (by kernel_rfl) (by kernel_rfl) (by kernel_rfl) (fun _ _ d _ _ h => by cases d <;> exact h) ?_
              simp only [pickOps, List.getElem?_toArray, List.getElem?_cons_zero, List.getElem?_cons_succ]
              go_wp2_with fail
              refine ⟨rfl, by rfl, ?_⟩
              obtain ⟨b12, l12⟩ := S5.out.b12 _ rfl
              obtain ⟨b13, l13⟩ := S5.out.b13 _ rfl
              have n12 : ¬ (z13 = z12) := b13.ne_ b12 (by decide)
              have f0 := b12.cell_ 0 _ rfl
              have f1 := b12.cell_ 1 _ rfl
              have f2 := b13.cell_ 0 _ rfl
              have f3 := b13.cell_ 1 _ rfl
              have f4 := b13.cell_ 2 _ rfl
              have ff := b12.frozen
              have fg := b13.frozen
              clear b12 b13 l12 l13
              refine anyB_one (i := 20) (by kernel_rfl) rfl (fun K hK => ?_)
              go_simp
              refine hK.out _ _ (fun h => absurd (by decide) h) ?_
              clear hK K
              refine anyB_one (i := 21) (by kernel_rfl) rfl (fun K hK => ?_)
              go_simp
              refine hK.out _ _ (fun h => absurd (by decide) h) ?_
              clear hK K
              refine anyB_seg [22] 0 rfl (by kernel_rfl) (by kernel_rfl) (by kernel_rfl) (fun _ _ d _ _ h => by cases d <;> exact h) ?_
              simp only [pickOps, List.getElem?_toArray, List.getElem?_cons_zero, List.getElem?_cons_succ]
              go_wp2_with fail
              refine ⟨rfl, by rfl, ?_⟩
              refine anyB_done (by kernel_rfl) ?_ _
              have FN := Lib.hid (S5.out.fin (a := ⟨aK, aT, aS⟩) rfl)
              clear f0 f1 f2 f3 f4 ff fg n12
              generalize World.setCell _ _ _ = x9 at FN ⊢
              go_wp2_with fail
              go_meet
              exact ⟨z12, z13, _, _, rfl, rfl, rfl, FN.out⟩
          · go_simp
            refine hK.out _ _ (fun _ => (boxed _ _)) ?_
            clear hK K
            have S2 := Lib.hid S1.out.f13
            obtain ⟨z13, hz⟩ : ∃ z, x1.heap.size = z := ⟨_, rfl⟩
            rw [hz] at S2 ⊢
            generalize World.alloc _ _ = x2 at S2 ⊢
            clear S1 hz
            refine anyB_two (i := 12) (j := 18) (by kernel_rfl) rfl rfl (fun K hK => ?_) (fun K hK => ?_)
            · go_simp
              refine (stmt_any _ _ _ _ HWF.out.k HWF.out.a HWF.out.b HWF.out.c _).mono ?_
              rintro e x3 ⟨rfl, b⟩
              refine hK.out _ _ (fun _ => b) ?_
              clear hK K
              have S3 := Lib.hid (S2.out.keep b)
              clear b S2
              refine anyB_two (i := 13) (j := 18) (by kernel_rfl) rfl rfl (fun K hK => ?_) (fun K hK => ?_)
              · unfold St.v
                go_simp
                refine (do_world _ _ _ _ _ _ (HT.out.below (HM.out.bel.trans (S3.out.hb.mono HM.out.bel.size))) (HX.out _ S3.out.hb) HPI.out HSZ.out.1 HSZ.out.2).mono ?_
                rintro e x4 ⟨r', s', cs', rfl, o1, o2, b⟩
                refine hK.out _ _ (fun _ => b) ?_
                clear hK K
                rw [HRR.out] at o1 o2 ⊢
                rw [HEE.out]
                obtain ⟨A1, k1, rfl⟩ := o1.form
                obtain ⟨A2, k2, rfl⟩ := own_slice o2.own
                have S4 := Lib.hid (S3.out.did (Nat.le_trans HM.out.bel.size S3.out.hb.size) o1 o2 b)
                clear b S3 o1 o2
                unfold anV
                refine anyB_seg [14, 15, 16, 17] 4 rfl (by kernel_rfl) (by kernel_rfl) (by kernel_rfl) (fun _ _ d _ _ h => by cases d <;> exact h) ?_
                simp only [pickOps, List.getElem?_toArray, List.getElem?_cons_zero, List.getElem?_cons_succ]
                go_wp2_with fail
                refine ⟨rfl, by rfl, ?_⟩
                refine anyB_one (i := 18) (by kernel_rfl) rfl (fun K hK => ?_)
                go_simp
                refine hK.out _ _ (fun _ => (boxed _ _)) ?_
                clear hK K
                have S5 := Lib.hid S4.out.f12
                obtain ⟨z12, hz⟩ : ∃ z, x4.heap.size = z := ⟨_, rfl⟩
                rw [hz] at S5 ⊢
                generalize World.alloc _ _ = x5 at S5 ⊢
                clear S4 hz
                obtain ⟨b12, l12⟩ := S5.out.b12 _ rfl
                obtain ⟨b13, l13⟩ := S5.out.b13 _ rfl
                have n12 : ¬ (z13 = z12) := b13.ne_ b12 (by decide)
                have f0 := b12.cell_ 0 _ rfl
                have f1 := b12.cell_ 1 _ rfl
                have f2 := b13.cell_ 0 _ rfl
                have f3 := b13.cell_ 1 _ rfl
                have f4 := b13.cell_ 2 _ rfl
                have ff := b12.frozen
                have fg := b13.frozen
                clear b12 b13 l12 l13
                refine anyB_one (i := 20) (by kernel_rfl) rfl (fun K hK => ?_)
                go_simp
                refine hK.out _ _ (fun h => absurd (by decide) h) ?_
                clear hK K
                refine anyB_one (i := 21) (by kernel_rfl) rfl (fun K hK => ?_)
                go_simp
                refine hK.out _ _ (fun h => absurd (by decide) h) ?_
                clear hK K
                refine anyB_seg [22] 0 rfl (by kernel_rfl) (by kernel_rfl) (by kernel_rfl) (fun _ _ d _ _ h => by cases d <;> exact h) ?_
                simp only [pickOps, List.getElem?_toArray, List.getElem?_cons_zero, List.getElem?_cons_succ]
                go_wp2_with fail
                refine ⟨rfl, by rfl, ?_⟩
                refine anyB_done (by kernel_rfl) ?_ _
                have FN := Lib.hid (S5.out.fin (a := ⟨aK, aT, aS⟩) rfl)
                clear f0 f1 f2 f3 f4 ff fg n12
                generalize World.setCell _ _ _ = x9 at FN ⊢
                go_wp2_with fail
                go_meet
                exact ⟨z12, z13, _, _, rfl, rfl, rfl, FN.out⟩
              · go_simp
                refine hK.out _ _ (fun _ => (boxed _ _)) ?_
                clear hK K
                have S4 := Lib.hid S3.out.f12
                obtain ⟨z12, hz⟩ : ∃ z, x3.heap.size = z := ⟨_, rfl⟩
                rw [hz] at S4 ⊢
                generalize World.alloc _ _ = x4 at S4 ⊢
                clear S3 hz
                refine anyB_one (i := 13) (by kernel_rfl) rfl (fun K hK => ?_)
                unfold St.v
                go_simp
                refine (do_world _ _ _ _ _ _ (HT.out.below (HM.out.bel.trans (S4.out.hb.mono HM.out.bel.size))) (HX.out _ S4.out.hb) HPI.out HSZ.out.1 HSZ.out.2).mono ?_
                rintro e x5 ⟨r', s', cs', rfl, o1, o2, b⟩
                refine hK.out _ _ (fun _ => b) ?_
                clear hK K
                rw [HRR.out] at o1 o2 ⊢
                rw [HEE.out]
                obtain ⟨A1, k1, rfl⟩ := o1.form
                obtain ⟨A2, k2, rfl⟩ := own_slice o2.own
                have S5 := Lib.hid (S4.out.did (Nat.le_trans HM.out.bel.size S4.out.hb.size) o1 o2 b)
                clear b S4 o1 o2
                unfold anV
                refine anyB_seg [14, 15, 16, 17] 3 rfl (by kernel_rfl) (by kernel_rfl) (by kernel_rfl) (fun _ _ d _ _ h => by cases d <;> exact h) ?_
                simp only [pickOps, List.getElem?_toArray, List.getElem?_cons_zero, List.getElem?_cons_succ]
                go_wp2_with fail
                refine ⟨rfl, by rfl, ?_⟩
                obtain ⟨b12, l12⟩ := S5.out.b12 _ rfl
                obtain ⟨b13, l13⟩ := S5.out.b13 _ rfl
                have n12 : ¬ (z13 = z12) := b13.ne_ b12 (by decide)
                have f0 := b12.cell_ 0 _ rfl
                have f1 := b12.cell_ 1 _ rfl
                have f2 := b13.cell_ 0 _ rfl
                have f3 := b13.cell_ 1 _ rfl
                have f4 := b13.cell_ 2 _ rfl
                have ff := b12.frozen
                have fg := b13.frozen
                clear b12 b13 l12 l13
                refine anyB_one (i := 20) (by kernel_rfl) rfl (fun K hK => ?_)
                go_simp
                refine hK.out _ _ (fun h => absurd (by decide) h) ?_
                clear hK K
                refine anyB_one (i := 21) (by kernel_rfl) rfl (fun K hK => ?_)
                go_simp
                refine hK.out _ _ (fun h => absurd (by decide) h) ?_
                clear hK K
                refine anyB_seg [22] 0 rfl (by kernel_rfl) (by kernel_rfl) (by kernel_rfl) (fun _ _ d _ _ h => by cases d <;> exact h) ?_
                simp only [pickOps, List.getElem?_toArray, List.getElem?_cons_zero, List.getElem?_cons_succ]
                go_wp2_with fail
                refine ⟨rfl, by rfl, ?_⟩
                refine anyB_done (by kernel_rfl) ?_ _
                have FN := Lib.hid (S5.out.fin (a := ⟨aK, aT, aS⟩) rfl)
                clear f0 f1 f2 f3 f4 ff fg n12
                generalize World.setCell _ _ _ = x9 at FN ⊢
                go_wp2_with fail
                go_meet
                exact ⟨z12, z13, _, _, rfl, rfl, rfl, FN.out⟩
            · go_simp
              refine hK.out _ _ (fun _ => (boxed _ _)) ?_
              clear hK K
              have S3 := Lib.hid S2.out.f12
              obtain ⟨z12, hz⟩ : ∃ z, x2.heap.size = z := ⟨_, rfl⟩
              rw [hz] at S3 ⊢
              generalize World.alloc _ _ = x3 at S3 ⊢
              clear S2 hz
              refine anyB_one (i := 12) (by kernel_rfl) rfl (fun K hK => ?_)
              go_simp
              refine (stmt_any _ _ _ _ HWF.out.k HWF.out.a HWF.out.b HWF.out.c _).mono ?_
              rintro e x4 ⟨rfl, b⟩
              refine hK.out _ _ (fun _ => b) ?_
              clear hK K
              have S4 := Lib.hid (S3.out.keep b)
              clear b S3
              refine anyB_one (i := 13) (by kernel_rfl) rfl (fun K hK => ?_)
              unfold St.v
              go_simp
              refine (do_world _ _ _ _ _ _ (HT.out.below (HM.out.bel.trans (S4.out.hb.mono HM.out.bel.size))) (HX.out _ S4.out.hb) HPI.out HSZ.out.1 HSZ.out.2).mono ?_
              rintro e x5 ⟨r', s', cs', rfl, o1, o2, b⟩
              refine hK.out _ _ (fun _ => b) ?_
              clear hK K
              rw [HRR.out] at o1 o2 ⊢
              rw [HEE.out]
              obtain ⟨A1, k1, rfl⟩ := o1.form
              obtain ⟨A2, k2, rfl⟩ := own_slice o2.own
              have S5 := Lib.hid (S4.out.did (Nat.le_trans HM.out.bel.size S4.out.hb.size) o1 o2 b)
              clear b S4 o1 o2
              unfold anV
              refine anyB_seg [14, 15, 16, 17] 3 rfl (by kernel_rfl) (by kernel_rfl) (by kernel_rfl) (fun _ _ d _ _ h => by cases d <;> exact h) ?_
              simp only [pickOps, List.getElem?_toArray, List.getElem?_cons_zero, List.getElem?_cons_succ]
              go_wp2_with fail
              refine ⟨rfl, by rfl, ?_⟩
              obtain ⟨b12, l12⟩ := S5.out.b12 _ rfl
              obtain ⟨b13, l13⟩ := S5.out.b13 _ rfl
              have n12 : ¬ (z13 = z12) := b13.ne_ b12 (by decide)
              have f0 := b12.cell_ 0 _ rfl
              have f1 := b12.cell_ 1 _ rfl
              have f2 := b13.cell_ 0 _ rfl
              have f3 := b13.cell_ 1 _ rfl
              have f4 := b13.cell_ 2 _ rfl
              have ff := b12.frozen
              have fg := b13.frozen
              clear b12 b13 l12 l13
              refine anyB_one (i := 20) (by kernel_rfl) rfl (fun K hK => ?_)
              go_simp
              refine hK.out _ _ (fun h => absurd (by decide) h) ?_
              clear hK K
              refine anyB_one (i := 21) (by kernel_rfl) rfl (fun K hK => ?_)
              go_simp
              refine hK.out _ _ (fun h => absurd (by decide) h) ?_
              clear hK K
              refine anyB_seg [22] 0 rfl (by kernel_rfl) (by kernel_rfl) (by kernel_rfl) (fun _ _ d _ _ h => by cases d <;> exact h) ?_
              simp only [pickOps, List.getElem?_toArray, List.getElem?_cons_zero, List.getElem?_cons_succ]
              go_wp2_with fail
              refine ⟨rfl, by rfl, ?_⟩
              refine anyB_done (by kernel_rfl) ?_ _
              have FN := Lib.hid (S5.out.fin (a := ⟨aK, aT, aS⟩) rfl)
              clear f0 f1 f2 f3 f4 ff fg n12
              generalize World.setCell _ _ _ = x9 at FN ⊢
              go_wp2_with fail
              go_meet
              exact ⟨z12, z13, _, _, rfl, rfl, rfl, FN.out⟩
        · go_simp
          refine hK.out _ _ (fun _ => (boxed _ _)) ?_
          clear hK K
          have S1 := Lib.hid S0.out.f12
          obtain ⟨z12, hz⟩ : ∃ z, x0.heap.size = z := ⟨_, rfl⟩
          rw [hz] at S1 ⊢
          generalize World.alloc _ _ = x1 at S1 ⊢
          clear S0 hz
          refine anyB_two (i := 7) (j := 19) (by kernel_rfl) rfl rfl (fun K hK => ?_) (fun K hK => ?_)
          · go_simp
            refine (picked_any _ _ _ HWF.out.c (by omega) (by omega)).mono ?_
            rintro e x2 ⟨rfl, b⟩
            replace b : Below x1.heap.size x1 x2 := by rw [← b]; exact Below.refl _ _
            refine hK.out _ _ (fun _ => b) ?_
            clear hK K
            have S2 := Lib.hid (S1.out.keep b)
            clear b S1
            refine anyB_two (i := 12) (j := 19) (by kernel_rfl) rfl rfl (fun K hK => ?_) (fun K hK => ?_)
            · go_simp
              refine (stmt_any _ _ _ _ HWF.out.k HWF.out.a HWF.out.b HWF.out.c _).mono ?_
              rintro e x3 ⟨rfl, b⟩
              refine hK.out _ _ (fun _ => b) ?_
              clear hK K
              have S3 := Lib.hid (S2.out.keep b)
              clear b S2
              refine anyB_two (i := 13) (j := 19) (by kernel_rfl) rfl rfl (fun K hK => ?_) (fun K hK => ?_)
              · unfold St.v
                go_simp
                refine (do_world _ _ _ _ _ _ (HT.out.below (HM.out.bel.trans (S3.out.hb.mono HM.out.bel.size))) (HX.out _ S3.out.hb) HPI.out HSZ.out.1 HSZ.out.2).mono ?_
                rintro e x4 ⟨r', s', cs', rfl, o1, o2, b⟩
                refine hK.out _ _ (fun _ => b) ?_
                clear hK K
                rw [HRR.out] at o1 o2 ⊢
                rw [HEE.out]
                obtain ⟨A1, k1, rfl⟩ := o1.form
                obtain ⟨A2, k2, rfl⟩ := own_slice o2.own
                have S4 := Lib.hid (S3.out.did (Nat.le_trans HM.out.bel.size S3.out.hb.size) o1 o2 b)
                clear b S3 o1 o2
                unfold anV
                refine anyB_seg [14, 15, 16, 17] 4 rfl (by kernel_rfl) (by kernel_rfl) (by kernel_rfl) (fun _ _ d _ _ h => by cases d <;> exact h) ?_
                simp only [pickOps, List.getElem?_toArray, List.getElem?_cons_zero, List.getElem?_cons_succ]
                go_wp2_with fail
                refine ⟨rfl, by rfl, ?_⟩
                refine anyB_one (i := 19) (by kernel_rfl) rfl (fun K hK => ?_)
                go_simp
                refine hK.out _ _ (fun _ => (boxed _ _)) ?_
                clear hK K
                have S5 := Lib.hid S4.out.f13
                obtain ⟨z13, hz⟩ : ∃ z, x4.heap.size = z := ⟨_, rfl⟩
                rw [hz] at S5 ⊢
                generalize World.alloc _ _ = x5 at S5 ⊢
                clear S4 hz
                obtain ⟨b12, l12⟩ := S5.out.b12 _ rfl
                obtain ⟨b13, l13⟩ := S5.out.b13 _ rfl
                have n12 : ¬ (z13 = z12) := b13.ne_ b12 (by decide)
                have f0 := b12.cell_ 0 _ rfl
                have f1 := b12.cell_ 1 _ rfl
                have f2 := b13.cell_ 0 _ rfl
                have f3 := b13.cell_ 1 _ rfl
                have f4 := b13.cell_ 2 _ rfl
                have ff := b12.frozen
                have fg := b13.frozen
                clear b12 b13 l12 l13
                refine anyB_one (i := 20) (by kernel_rfl) rfl (fun K hK => ?_)
                go_simp
                refine hK.out _ _ (fun h => absurd (by decide) h) ?_
                clear hK K
                refine anyB_one (i := 21) (by kernel_rfl) rfl (fun K hK => ?_)
                go_simp
                refine hK.out _ _ (fun h => absurd (by decide) h) ?_
                clear hK K
                refine anyB_seg [22] 0 rfl (by kernel_rfl) (by kernel_rfl) (by kernel_rfl) (fun _ _ d _ _ h => by cases d <;> exact h) ?_
                simp only [pickOps, List.getElem?_toArray, List.getElem?_cons_zero, List.getElem?_cons_succ]
                go_wp2_with fail
                refine ⟨rfl, by rfl, ?_⟩
                refine anyB_done (by kernel_rfl) ?_ _
                have FN := Lib.hid (S5.out.fin (a := ⟨aK, aT, aS⟩) rfl)
                clear f0 f1 f2 f3 f4 ff fg n12
                generalize World.setCell _ _ _ = x9 at FN ⊢
                go_wp2_with fail
                go_meet
                exact ⟨z12, z13, _, _, rfl, rfl, rfl, FN.out⟩
              · go_simp
                refine hK.out _ _ (fun _ => (boxed _ _)) ?_
                clear hK K
                have S4 := Lib.hid S3.out.f13
                obtain ⟨z13, hz⟩ : ∃ z, x3.heap.size = z := ⟨_, rfl⟩
                rw [hz] at S4 ⊢
                generalize World.alloc _ _ = x4 at S4 ⊢
                clear S3 hz
                refine anyB_one (i := 13) (by kernel_rfl) rfl (fun K hK => ?_)
                unfold St.v
                go_simp
                refine (do_world _ _ _ _ _ _ (HT.out.below (HM.out.bel.trans (S4.out.hb.mono HM.out.bel.size))) (HX.out _ S4.out.hb) HPI.out HSZ.out.1 HSZ.out.2).mono ?_
                rintro e x5 ⟨r', s', cs', rfl, o1, o2, b⟩
                refine hK.out _ _ (fun _ => b) ?_
                clear hK K
                rw [HRR.out] at o1 o2 ⊢
                rw [HEE.out]
                obtain ⟨A1, k1, rfl⟩ := o1.form
                obtain ⟨A2, k2, rfl⟩ := own_slice o2.own
                have S5 := Lib.hid (S4.out.did (Nat.le_trans HM.out.bel.size S4.out.hb.size) o1 o2 b)
                clear b S4 o1 o2
                unfold anV
                refine anyB_seg [14, 15, 16, 17] 3 rfl (by kernel_rfl) (by kernel_rfl) (by kernel_rfl) (fun _ _ d _ _ h => by cases d <;> exact h) ?_
                simp only [pickOps, List.getElem?_toArray, List.getElem?_cons_zero, List.getElem?_cons_succ]
                go_wp2_with fail
                refine ⟨rfl, by rfl, ?_⟩
                obtain ⟨b12, l12⟩ := S5.out.b12 _ rfl
                obtain ⟨b13, l13⟩ := S5.out.b13 _ rfl
                have n12 : ¬ (z13 = z12) := b13.ne_ b12 (by decide)
                have f0 := b12.cell_ 0 _ rfl
                have f1 := b12.cell_ 1 _ rfl
                have f2 := b13.cell_ 0 _ rfl
                have f3 := b13.cell_ 1 _ rfl
                have f4 := b13.cell_ 2 _ rfl
                have ff := b12.frozen
                have fg := b13.frozen
                clear b12 b13 l12 l13
                refine anyB_one (i := 20) (by kernel_rfl) rfl (fun K hK => ?_)
                go_simp
                refine hK.out _ _ (fun h => absurd (by decide) h) ?_
                clear hK K
                refine anyB_one (i := 21) (by kernel_rfl) rfl (fun K hK => ?_)
                go_simp
                refine hK.out _ _ (fun h => absurd (by decide) h) ?_
                clear hK K
                refine anyB_seg [22] 0 rfl (by kernel_rfl) (by kernel_rfl) (by kernel_rfl) (fun _ _ d _ _ h => by cases d <;> exact h) ?_
                simp only [pickOps, List.getElem?_toArray, List.getElem?_cons_zero, List.getElem?_cons_succ]
                go_wp2_with fail
                refine ⟨rfl, by rfl, ?_⟩
                refine anyB_done (by kernel_rfl) ?_ _
                have FN := Lib.hid (S5.out.fin (a := ⟨aK, aT, aS⟩) rfl)
                clear f0 f1 f2 f3 f4 ff fg n12
                generalize World.setCell _ _ _ = x9 at FN ⊢
                go_wp2_with fail
                go_meet
                exact ⟨z12, z13, _, _, rfl, rfl, rfl, FN.out⟩
            · go_simp
              refine hK.out _ _ (fun _ => (boxed _ _)) ?_
              clear hK K
              have S3 := Lib.hid S2.out.f13
              obtain ⟨z13, hz⟩ : ∃ z, x2.heap.size = z := ⟨_, rfl⟩
              rw [hz] at S3 ⊢
              generalize World.alloc _ _ = x3 at S3 ⊢
              clear S2 hz
              refine anyB_one (i := 12) (by kernel_rfl) rfl (fun K hK => ?_)
              go_simp
              refine (stmt_any _ _ _ _ HWF.out.k HWF.out.a HWF.out.b HWF.out.c _).mono ?_
              rintro e x4 ⟨rfl, b⟩
              refine hK.out _ _ (fun _ => b) ?_
              clear hK K
              have S4 := Lib.hid (S3.out.keep b)
              clear b S3
              refine anyB_one (i := 13) (by kernel_rfl) rfl (fun K hK => ?_)
              unfold St.v
              go_simp
              refine (do_world _ _ _ _ _ _ (HT.out.below (HM.out.bel.trans (S4.out.hb.mono HM.out.bel.size))) (HX.out _ S4.out.hb) HPI.out HSZ.out.1 HSZ.out.2).mono ?_
              rintro e x5 ⟨r', s', cs', rfl, o1, o2, b⟩
              refine hK.out _ _ (fun _ => b) ?_
              clear hK K
              rw [HRR.out] at o1 o2 ⊢
              rw [HEE.out]
              obtain ⟨A1, k1, rfl⟩ := o1.form
              obtain ⟨A2, k2, rfl⟩ := own_slice o2.own
              have S5 := Lib.hid (S4.out.did (Nat.le_trans HM.out.bel.size S4.out.hb.size) o1 o2 b)
              clear b S4 o1 o2
              unfold anV
              refine anyB_seg [14, 15, 16, 17] 3 rfl (by kernel_rfl) (by kernel_rfl) (by kernel_rfl) (fun _ _ d _ _ h => by cases d <;> exact h) ?_
              simp only [pickOps, List.getElem?_toArray, List.getElem?_cons_zero, List.getElem?_cons_succ]
              go_wp2_with fail
              refine ⟨rfl, by rfl, ?_⟩
              obtain ⟨b12, l12⟩ := S5.out.b12 _ rfl
              obtain ⟨b13, l13⟩ := S5.out.b13 _ rfl
              have n12 : ¬ (z13 = z12) := b13.ne_ b12 (by decide)
              have f0 := b12.cell_ 0 _ rfl
              have f1 := b12.cell_ 1 _ rfl
              have f2 := b13.cell_ 0 _ rfl
              have f3 := b13.cell_ 1 _ rfl
              have f4 := b13.cell_ 2 _ rfl
              have ff := b12.frozen
              have fg := b13.frozen
              clear b12 b13 l12 l13
              refine anyB_one (i := 20) (by kernel_rfl) rfl (fun K hK => ?_)
              go_simp
              refine hK.out _ _ (fun h => absurd (by decide) h) ?_
              clear hK K
              refine anyB_one (i := 21) (by kernel_rfl) rfl (fun K hK => ?_)
              go_simp
              refine hK.out _ _ (fun h => absurd (by decide) h) ?_
              clear hK K
              refine anyB_seg [22] 0 rfl (by kernel_rfl) (by kernel_rfl) (by kernel_rfl) (fun _ _ d _ _ h => by cases d <;> exact h) ?_
              simp only [pickOps, List.getElem?_toArray, List.getElem?_cons_zero, List.getElem?_cons_succ]
              go_wp2_with fail
              refine ⟨rfl, by rfl, ?_⟩
              refine anyB_done (by kernel_rfl) ?_ _
              have FN := Lib.hid (S5.out.fin (a := ⟨aK, aT, aS⟩) rfl)
              clear f0 f1 f2 f3 f4 ff fg n12
              generalize World.setCell _ _ _ = x9 at FN ⊢
              go_wp2_with fail
              go_meet
              exact ⟨z12, z13, _, _, rfl, rfl, rfl, FN.out⟩
          · go_simp
            refine hK.out _ _ (fun _ => (boxed _ _)) ?_
            clear hK K
            have S2 := Lib.hid S1.out.f13
            obtain ⟨z13, hz⟩ : ∃ z, x1.heap.size = z := ⟨_, rfl⟩
            rw [hz] at S2 ⊢
            generalize World.alloc _ _ = x2 at S2 ⊢
            clear S1 hz
            refine anyB_one (i := 7) (by kernel_rfl) rfl (fun K hK => ?_)
            go_simp
            refine (picked_any _ _ _ HWF.out.c (by omega) (by omega)).mono ?_
            rintro e x3 ⟨rfl, b⟩
            replace b : Below x2.heap.size x2 x3 := by rw [← b]; exact Below.refl _ _
            refine hK.out _ _ (fun _ => b) ?_
            clear hK K
            have S3 := Lib.hid (S2.out.keep b)
            clear b S2
            refine anyB_one (i := 12) (by kernel_rfl) rfl (fun K hK => ?_)
            go_simp
            refine (stmt_any _ _ _ _ HWF.out.k HWF.out.a HWF.out.b HWF.out.c _).mono ?_
            rintro e x4 ⟨rfl, b⟩
            refine hK.out _ _ (fun _ => b) ?_
            clear hK K
            have S4 := Lib.hid (S3.out.keep b)
            clear b S3
            refine anyB_one (i := 13) (by kernel_rfl) rfl (fun K hK => ?_)
            unfold St.v
            go_simp
            refine (do_world _ _ _ _ _ _ (HT.out.below (HM.out.bel.trans (S4.out.hb.mono HM.out.bel.size))) (HX.out _ S4.out.hb) HPI.out HSZ.out.1 HSZ.out.2).mono ?_
            rintro e x5 ⟨r', s', cs', rfl, o1, o2, b⟩
            refine hK.out _ _ (fun _ => b) ?_
            clear hK K
            rw [HRR.out] at o1 o2 ⊢
            rw [HEE.out]
            obtain ⟨A1, k1, rfl⟩ := o1.form
            obtain ⟨A2, k2, rfl⟩ := own_slice o2.own
            have S5 := Lib.hid (S4.out.did (Nat.le_trans HM.out.bel.size S4.out.hb.size) o1 o2 b)
            clear b S4 o1 o2
            unfold anV
            refine anyB_seg [14, 15, 16, 17] 3 rfl (by kernel_rfl) (by kernel_rfl) (by kernel_rfl) (fun _ _ d _ _ h => by cases d <;> exact h) ?_
            simp only [pickOps, List.getElem?_toArray, List.getElem?_cons_zero, List.getElem?_cons_succ]
            go_wp2_with fail
            refine ⟨rfl, by rfl, ?_⟩
            obtain ⟨b12, l12⟩ := S5.out.b12 _ rfl
            obtain ⟨b13, l13⟩ := S5.out.b13 _ rfl
            have n12 : ¬ (z13 = z12) := b13.ne_ b12 (by decide)
            have f0 := b12.cell_ 0 _ rfl
            have f1 := b12.cell_ 1 _ rfl
            have f2 := b13.cell_ 0 _ rfl
            have f3 := b13.cell_ 1 _ rfl
            have f4 := b13.cell_ 2 _ rfl
            have ff := b12.frozen
            have fg := b13.frozen
            clear b12 b13 l12 l13
            refine anyB_one (i := 20) (by kernel_rfl) rfl (fun K hK => ?_)
            go_simp
            refine hK.out _ _ (fun h => absurd (by decide) h) ?_
            clear hK K
            refine anyB_one (i := 21) (by kernel_rfl) rfl (fun K hK => ?_)
            go_simp
            refine hK.out _ _ (fun h => absurd (by decide) h) ?_
            clear hK K
            refine anyB_seg [22] 0 rfl (by kernel_rfl) (by kernel_rfl) (by kernel_rfl) (fun _ _ d _ _ h => by cases d <;> exact h) ?_
            simp only [pickOps, List.getElem?_toArray, List.getElem?_cons_zero, List.getElem?_cons_succ]
            go_wp2_with fail
            refine ⟨rfl, by rfl, ?_⟩
            refine anyB_done (by kernel_rfl) ?_ _
            have FN := Lib.hid (S5.out.fin (a := ⟨aK, aT, aS⟩) rfl)
            clear f0 f1 f2 f3 f4 ff fg n12
            generalize World.setCell _ _ _ = x9 at FN ⊢
            go_wp2_with fail
            go_meet
            exact ⟨z12, z13, _, _, rfl, rfl, rfl, FN.out⟩
        · go_simp
          refine hK.out _ _ (fun _ => (boxed _ _)) ?_
          clear hK K
          have S1 := Lib.hid S0.out.f13
          obtain ⟨z13, hz⟩ : ∃ z, x0.heap.size = z := ⟨_, rfl⟩
          rw [hz] at S1 ⊢
          generalize World.alloc _ _ = x1 at S1 ⊢
          clear S0 hz
          refine anyB_two (i := 7) (j := 18) (by kernel_rfl) rfl rfl (fun K hK => ?_) (fun K hK => ?_)
          · go_simp
            refine (picked_any _ _ _ HWF.out.c (by omega) (by omega)).mono ?_
            rintro e x2 ⟨rfl, b⟩
            replace b : Below x1.heap.size x1 x2 := by rw [← b]; exact Below.refl _ _
            refine hK.out _ _ (fun _ => b) ?_
            clear hK K
            have S2 := Lib.hid (S1.out.keep b)
            clear b S1
            refine anyB_two (i := 12) (j := 18) (by kernel_rfl) rfl rfl (fun K hK => ?_) (fun K hK => ?_)
            · go_simp
              refine (stmt_any _ _ _ _ HWF.out.k HWF.out.a HWF.out.b HWF.out.c _).mono ?_
              rintro e x3 ⟨rfl, b⟩
              refine hK.out _ _ (fun _ => b) ?_
              clear hK K
              have S3 := Lib.hid (S2.out.keep b)
              clear b S2
              refine anyB_two (i := 13) (j := 18) (by kernel_rfl) rfl rfl (fun K hK => ?_) (fun K hK => ?_)
              · unfold St.v
                go_simp
                refine (do_world _ _ _ _ _ _ (HT.out.below (HM.out.bel.trans (S3.out.hb.mono HM.out.bel.size))) (HX.out _ S3.out.hb) HPI.out HSZ.out.1 HSZ.out.2).mono ?_
                rintro e x4 ⟨r', s', cs', rfl, o1, o2, b⟩
                refine hK.out _ _ (fun _ => b) ?_
                clear hK K
                rw [HRR.out] at o1 o2 ⊢
                rw [HEE.out]
                obtain ⟨A1, k1, rfl⟩ := o1.form
                obtain ⟨A2, k2, rfl⟩ := own_slice o2.own
                have S4 := Lib.hid (S3.out.did (Nat.le_trans HM.out.bel.size S3.out.hb.size) o1 o2 b)
                clear b S3 o1 o2
                unfold anV
                refine anyB_seg [14, 15, 16, 17] 4 rfl (by kernel_rfl) (by kernel_rfl) (by kernel_rfl) (fun _ _ d _ _ h => by cases d <;> exact h) ?_
                simp only [pickOps, List.getElem?_toArray, List.getElem?_cons_zero, List.getElem?_cons_succ]
                go_wp2_with fail
                refine ⟨rfl, by rfl, ?_⟩
                refine anyB_one (i := 18) (by kernel_rfl) rfl (fun K hK => ?_)
                go_simp
                refine hK.out _ _ (fun _ => (boxed _ _)) ?_
                clear hK K
                have S5 := Lib.hid S4.out.f12
                obtain ⟨z12, hz⟩ : ∃ z, x4.heap.size = z := ⟨_, rfl⟩
                rw [hz] at S5 ⊢
                generalize World.alloc _ _ = x5 at S5 ⊢
                clear S4 hz
                obtain ⟨b12, l12⟩ := S5.out.b12 _ rfl
                obtain ⟨b13, l13⟩ := S5.out.b13 _ rfl
                have n12 : ¬ (z13 = z12) := b13.ne_ b12 (by decide)
                have f0 := b12.cell_ 0 _ rfl
                have f1 := b12.cell_ 1 _ rfl
                have f2 := b13.cell_ 0 _ rfl
                have f3 := b13.cell_ 1 _ rfl
                have f4 := b13.cell_ 2 _ rfl
                have ff := b12.frozen
                have fg := b13.frozen
                clear b12 b13 l12 l13
                refine anyB_one (i := 20) (by kernel_rfl) rfl (fun K hK => ?_)
                go_simp
                refine hK.out _ _ (fun h => absurd (by decide) h) ?_
                clear hK K
                refine anyB_one (i := 21) (by kernel_rfl) rfl (fun K hK => ?_)
                go_simp
                refine hK.out _ _ (fun h => absurd (by decide) h) ?_
                clear hK K
                refine anyB_seg [22] 0 rfl (by kernel_rfl) (by kernel_rfl) (by kernel_rfl) (fun _ _ d _ _ h => by cases d <;> exact h) ?_
                simp only [pickOps, List.getElem?_toArray, List.getElem?_cons_zero, List.getElem?_cons_succ]
                go_wp2_with fail
                refine ⟨rfl, by rfl, ?_⟩
                refine anyB_done (by kernel_rfl) ?_ _
                have FN := Lib.hid (S5.out.fin (a := ⟨aK, aT, aS⟩) rfl)
                clear f0 f1 f2 f3 f4 ff fg n12
                generalize World.setCell _ _ _ = x9 at FN ⊢
                go_wp2_with fail
                go_meet
                exact ⟨z12, z13, _, _, rfl, rfl, rfl, FN.out⟩
              · go_simp
                refine hK.out _ _ (fun _ => (boxed _ _)) ?_
                clear hK K
                have S4 := Lib.hid S3.out.f12
                obtain ⟨z12, hz⟩ : ∃ z, x3.heap.size = z := ⟨_, rfl⟩
                rw [hz] at S4 ⊢
                generalize World.alloc _ _ = x4 at S4 ⊢
                clear S3 hz
                refine anyB_one (i := 13) (by kernel_rfl) rfl (fun K hK => ?_)
                unfold St.v
                go_simp
                refine (do_world _ _ _ _ _ _ (HT.out.below (HM.out.bel.trans (S4.out.hb.mono HM.out.bel.size))) (HX.out _ S4.out.hb) HPI.out HSZ.out.1 HSZ.out.2).mono ?_
                rintro e x5 ⟨r', s', cs', rfl, o1, o2, b⟩
                refine hK.out _ _ (fun _ => b) ?_
                clear hK K
                rw [HRR.out] at o1 o2 ⊢
                rw [HEE.out]
                obtain ⟨A1, k1, rfl⟩ := o1.form
                obtain ⟨A2, k2, rfl⟩ := own_slice o2.own
                have S5 := Lib.hid (S4.out.did (Nat.le_trans HM.out.bel.size S4.out.hb.size) o1 o2 b)
                clear b S4 o1 o2
                unfold anV
                refine anyB_seg [14, 15, 16, 17] 3 rfl (by kernel_rfl) (by kernel_rfl) (by kernel_rfl) (fun _ _ d _ _ h => by cases d <;> exact h) ?_
                simp only [pickOps, List.getElem?_toArray, List.getElem?_cons_zero, List.getElem?_cons_succ]
                go_wp2_with fail
                refine ⟨rfl, by rfl, ?_⟩
                obtain ⟨b12, l12⟩ := S5.out.b12 _ rfl
                obtain ⟨b13, l13⟩ := S5.out.b13 _ rfl
                have n12 : ¬ (z13 = z12) := b13.ne_ b12 (by decide)
                have f0 := b12.cell_ 0 _ rfl
                have f1 := b12.cell_ 1 _ rfl
                have f2 := b13.cell_ 0 _ rfl
                have f3 := b13.cell_ 1 _ rfl
                have f4 := b13.cell_ 2 _ rfl
                have ff := b12.frozen
                have fg := b13.frozen
                clear b12 b13 l12 l13
                refine anyB_one (i := 20) (by kernel_rfl) rfl (fun K hK => ?_)
                go_simp
                refine hK.out _ _ (fun h => absurd (by decide) h) ?_
                clear hK K
                refine anyB_one (i := 21) (by kernel_rfl) rfl (fun K hK => ?_)
                go_simp
                refine hK.out _ _ (fun h => absurd (by decide) h) ?_
                clear hK K
                refine anyB_seg [22] 0 rfl (by kernel_rfl) (by kernel_rfl) (by kernel_rfl) (fun _ _ d _ _ h => by cases d <;> exact h) ?_
                simp only [pickOps, List.getElem?_toArray, List.getElem?_cons_zero, List.getElem?_cons_succ]
                go_wp2_with fail
                refine ⟨rfl, by rfl, ?_⟩
                refine anyB_done (by kernel_rfl) ?_ _
                have FN := Lib.hid (S5.out.fin (a := ⟨aK, aT, aS⟩) rfl)
                clear f0 f1 f2 f3 f4 ff fg n12
                generalize World.setCell _ _ _ = x9 at FN ⊢
                go_wp2_with fail
                go_meet
                exact ⟨z12, z13, _, _, rfl, rfl, rfl, FN.out⟩
            · go_simp
              refine hK.out _ _ (fun _ => (boxed _ _)) ?_
              clear hK K
              have S3 := Lib.hid S2.out.f12
              obtain ⟨z12, hz⟩ : ∃ z, x2.heap.size = z := ⟨_, rfl⟩
              rw [hz] at S3 ⊢
              generalize World.alloc _ _ = x3 at S3 ⊢
              clear S2 hz
              refine anyB_one (i := 12) (by kernel_rfl) rfl (fun K hK => ?_)
              go_simp
              refine (stmt_any _ _ _ _ HWF.out.k HWF.out.a HWF.out.b HWF.out.c _).mono ?_
              rintro e x4 ⟨rfl, b⟩
              refine hK.out _ _ (fun _ => b) ?_
              clear hK K
              have S4 := Lib.hid (S3.out.keep b)
              clear b S3
              refine anyB_one (i := 13) (by kernel_rfl) rfl (fun K hK => ?_)
              unfold St.v
              go_simp
              refine (do_world _ _ _ _ _ _ (HT.out.below (HM.out.bel.trans (S4.out.hb.mono HM.out.bel.size))) (HX.out _ S4.out.hb) HPI.out HSZ.out.1 HSZ.out.2).mono ?_
              rintro e x5 ⟨r', s', cs', rfl, o1, o2, b⟩
              refine hK.out _ _ (fun _ => b) ?_
              clear hK K
              rw [HRR.out] at o1 o2 ⊢
              rw [HEE.out]
              obtain ⟨A1, k1, rfl⟩ := o1.form
              obtain ⟨A2, k2, rfl⟩ := own_slice o2.own
              have S5 := Lib.hid (S4.out.did (Nat.le_trans HM.out.bel.size S4.out.hb.size) o1 o2 b)
              clear b S4 o1 o2
              unfold anV
              refine anyB_seg [14, 15, 16, 17] 3 rfl (by kernel_rfl) (by kernel_rfl) (by kernel_rfl) (fun _ _ d _ _ h => by cases d <;> exact h) ?_
              simp only [pickOps, List.getElem?_toArray, List.getElem?_cons_zero, List.getElem?_cons_succ]
              go_wp2_with fail
              refine ⟨rfl, by rfl, ?_⟩
              obtain ⟨b12, l12⟩ := S5.out.b12 _ rfl
              obtain ⟨b13, l13⟩ := S5.out.b13 _ rfl
              have n12 : ¬ (z13 = z12) := b13.ne_ b12 (by decide)
              have f0 := b12.cell_ 0 _ rfl
              have f1 := b12.cell_ 1 _ rfl
              have f2 := b13.cell_ 0 _ rfl
              have f3 := b13.cell_ 1 _ rfl
              have f4 := b13.cell_ 2 _ rfl
              have ff := b12.frozen
              have fg := b13.frozen
              clear b12 b13 l12 l13
              refine anyB_one (i := 20) (by kernel_rfl) rfl (fun K hK => ?_)
              go_simp
              refine hK.out _ _ (fun h => absurd (by decide) h) ?_
              clear hK K
              refine anyB_one (i := 21) (by kernel_rfl) rfl (fun K hK => ?_)
              go_simp
              refine hK.out _ _ (fun h => absurd (by decide) h) ?_
              clear hK K
              refine anyB_seg [22] 0 rfl (by kernel_rfl) (by kernel_rfl) (by kernel_rfl) (fun _ _ d _ _ h => by cases d <;> exact h) ?_
              simp only [pickOps, List.getElem?_toArray, List.getElem?_cons_zero, List.getElem?_cons_succ]
              go_wp2_with fail
              refine ⟨rfl, by rfl, ?_⟩
              refine anyB_done (by kernel_rfl) ?_ _
              have FN := Lib.hid (S5.out.fin (a := ⟨aK, aT, aS⟩) rfl)
              clear f0 f1 f2 f3 f4 ff fg n12
              generalize World.setCell _ _ _ = x9 at FN ⊢
              go_wp2_with fail
              go_meet
              exact ⟨z12, z13, _, _, rfl, rfl, rfl, FN.out⟩
          · go_simp
            refine hK.out _ _ (fun _ => (boxed _ _)) ?_
            clear hK K
            have S2 := Lib.hid S1.out.f12
            obtain ⟨z12, hz⟩ : ∃ z, x1.heap.size = z := ⟨_, rfl⟩
            rw [hz] at S2 ⊢
            generalize World.alloc _ _ = x2 at S2 ⊢
            clear S1 hz
            refine anyB_one (i := 7) (by kernel_rfl) rfl (fun K hK => ?_)
            go_simp
            refine (picked_any _ _ _ HWF.out.c (by omega) (by omega)).mono ?_
            rintro e x3 ⟨rfl, b⟩
            replace b : Below x2.heap.size x2 x3 := by rw [← b]; exact Below.refl _ _
            refine hK.out _ _ (fun _ => b) ?_
            clear hK K
            have S3 := Lib.hid (S2.out.keep b)
            clear b S2
            refine anyB_one (i := 12) (by kernel_rfl) rfl (fun K hK => ?_)
            go_simp
            refine (stmt_any _ _ _ _ HWF.out.k HWF.out.a HWF.out.b HWF.out.c _).mono ?_
            rintro e x4 ⟨rfl, b⟩
            refine hK.out _ _ (fun _ => b) ?_
            clear hK K
            have S4 := Lib.hid (S3.out.keep b)
            clear b S3
            refine anyB_one (i := 13) (by kernel_rfl) rfl (fun K hK => ?_)
            unfold St.v
            go_simp
            refine (do_world _ _ _ _ _ _ (HT.out.below (HM.out.bel.trans (S4.out.hb.mono HM.out.bel.size))) (HX.out _ S4.out.hb) HPI.out HSZ.out.1 HSZ.out.2).mono ?_
            rintro e x5 ⟨r', s', cs', rfl, o1, o2, b⟩
            refine hK.out _ _ (fun _ => b) ?_
            clear hK K
            rw [HRR.out] at o1 o2 ⊢
            rw [HEE.out]
            obtain ⟨A1, k1, rfl⟩ := o1.form
            obtain ⟨A2, k2, rfl⟩ := own_slice o2.own
            have S5 := Lib.hid (S4.out.did (Nat.le_trans HM.out.bel.size S4.out.hb.size) o1 o2 b)
            clear b S4 o1 o2
            unfold anV
            refine anyB_seg [14, 15, 16, 17] 3 rfl (by kernel_rfl) (by kernel_rfl) (by kernel_rfl) (fun _ _ d _ _ h => by cases d <;> exact h) ?_
            simp only [pickOps, List.getElem?_toArray, List.getElem?_cons_zero, List.getElem?_cons_succ]
            go_wp2_with fail
            refine ⟨rfl, by rfl, ?_⟩
            obtain ⟨b12, l12⟩ := S5.out.b12 _ rfl
            obtain ⟨b13, l13⟩ := S5.out.b13 _ rfl
            have n12 : ¬ (z13 = z12) := b13.ne_ b12 (by decide)
            have f0 := b12.cell_ 0 _ rfl
            have f1 := b12.cell_ 1 _ rfl
            have f2 := b13.cell_ 0 _ rfl
            have f3 := b13.cell_ 1 _ rfl
            have f4 := b13.cell_ 2 _ rfl
            have ff := b12.frozen
            have fg := b13.frozen
            clear b12 b13 l12 l13
            refine anyB_one (i := 20) (by kernel_rfl) rfl (fun K hK => ?_)
            go_simp
            refine hK.out _ _ (fun h => absurd (by decide) h) ?_
            clear hK K
            refine anyB_one (i := 21) (by kernel_rfl) rfl (fun K hK => ?_)
            go_simp
            refine hK.out _ _ (fun h => absurd (by decide) h) ?_
            clear hK K
            refine anyB_seg [22] 0 rfl (by kernel_rfl) (by kernel_rfl) (by kernel_rfl) (fun _ _ d _ _ h => by cases d <;> exact h) ?_
            simp only [pickOps, List.getElem?_toArray, List.getElem?_cons_zero, List.getElem?_cons_succ]
            go_wp2_with fail
            refine ⟨rfl, by rfl, ?_⟩
            refine anyB_done (by kernel_rfl) ?_ _
            have FN := Lib.hid (S5.out.fin (a := ⟨aK, aT, aS⟩) rfl)
            clear f0 f1 f2 f3 f4 ff fg n12
            generalize World.setCell _ _ _ = x9 at FN ⊢
            go_wp2_with fail
            go_meet
            exact ⟨z12, z13, _, _, rfl, rfl, rfl, FN.out⟩

      case rest =>
        obtain ⟨z12, z13, r, s, rfl, rfl, rfl, FN⟩ := hcut
        have M := HM.out.keep FN.hb
        have own := (Keeps.of_below FN.hb).own (t := 48) HO.out
        obtain ⟨A1, k1, rfl⟩ := FN.rows.form
        obtain ⟨cs2, o2⟩ := FN.ses
        obtain ⟨A2, k2, rfl⟩ := own_slice o2.own
        obtain ⟨Av, cv, rfl⟩ := own_slice own
        obtain ⟨r0, s0, yb, _⟩ := M.box.box
        have lt : q + 2 < wr.heap.size := by
          obtain ⟨_, _, yb, _⟩ := HM.out.box.box
          exact yb.lt
        have l12 := FN.l12
        have l13 := FN.l13
        have n12 : ¬ (z12 = q + 1 + 1) := by omega
        have n13 : ¬ (z13 = q + 1 + 1) := by omega
        have f0 := FN.b12.cell_ 0 _ rfl
        have f1 := FN.b12.cell_ 1 _ rfl
        have y0 := yb.cell_ 0 _ rfl
        have y1 := yb.cell_ 1 _ rfl
        have yf := yb.frozen
        have M2 := Lib.hid (M.turn FN.rows o2)
        have O2 := Lib.hid ((Keeps.set_ (p := ⟨q + 2, 1, none⟩) (yb.set_ 0 (.slice A1 W2.rows.length k1)) (show 31 ≠ 48 by decide) (.slice A2 W2.ses.length k2)).own ((Keeps.set_ (p := ⟨q + 2, 0, none⟩) yb (show 31 ≠ 48 by decide) (.slice A1 W2.rows.length k1)).own own))
        have F2 := Lib.hid ((FN.b13.far (p := ⟨q + 2, 0, none⟩) n13 (.slice A1 W2.rows.length k1)).far (p := ⟨q + 2, 1, none⟩) n13 (.slice A2 W2.ses.length k2))
        clear yb M own FN lt l12 l13 o2 HX HO HM n13 a0 a1 a2 a3
        go_upto_region 10 with fail
        clear f0 f1 y0 y1 yf n12
        generalize World.setCell _ _ _ = x5 at M2 O2 F2 ⊢
        have e0 := F2.out.cell_ 0 _ rfl
        have e1 := F2.out.cell_ 1 _ rfl
        have e2 := F2.out.cell_ 2 _ rfl
        obtain ⟨i0, hi0, hz0, hz1, hz2⟩ := info_parts an_info
        have hOwn := Lib.hid (O2.out.alloc (.cells #[.int .i64 aN.kind, .string aN.text, .int .i64 aN.st] 48))
        go_wp2_with (at_builtin; refine wpList_append_any _ rfl (.tmp 52) (.tmp 54) 54 rfl w.heap.size 48 i0 _ 3 32 Tryd.underlying54 hi0 hz0 hz1 hz2 rfl (by decide) (.slice Av k cv) k cs rfl hOwn.out (x5.heap.size + 1) (some ⟨x5.heap.size, 0, none⟩) 1 1 [.int .i64 aN.kind, .string aN.text, .int .i64 aN.st] rfl (Reads.new_ x5 _ #[_, _, _] rfl) (by intro u hu; simp only [List.mem_cons, List.not_mem_nil, or_false] at hu; rcases hu with rfl | rfl | rfl <;> rfl) (by unfold maxLen; omega) (by omega) (Nat.le_trans M2.out.bel.size (by simp)) ?_; rotate_right; skip)
        intro v' w6 hown6 hgr hat
        have M6 := Lib.hid (M2.out.app O2.out _ hgr)
        have O6 := Lib.hid hown6
        clear hgr hat hown6 e0 e1 e2
        go_wp2_with fail
        go_roundw
        case rel => exact ⟨k + 1, _, by omega, by omega, by go_num, by rw [HP2.out]; exact M6.out, by rw [HQ.out]; exact O6.out⟩
        case measure => simp [intOf]; omega
    · have htk : l.take k = l.take most := by
        by_cases hkN : k = N
        · rw [List.take_of_length_le (by rw [HN.out]; omega), List.take_of_length_le (by rw [HN.out]; omega)]
        · rw [show k = most by omega]
      rw [htk] at hM
      obtain ⟨r0, s0, yb, o1, cs1, o2⟩ := hM.box.box
      obtain ⟨A1, k1, rfl⟩ := o1.form
      obtain ⟨A2, k2, rfl⟩ := own_slice o2.own
      obtain ⟨Av, cv, rfl⟩ := own_slice ho
      have y0 := yb.cell_ 0 _ rfl
      have y1 := yb.cell_ 1 _ rfl
      have xr := hM.res
      rw [HQ.out] at xr
      have x0 := xr.cell_ 0 _ rfl
      have x1 := xr.cell_ 1 _ rfl
      have xf := xr.frozen
      obtain ⟨W9, hW9⟩ : ∃ V, playL n (l.take most) (newW n) = V := ⟨_, rfl⟩
      rw [hW9] at hM o1 o2 y0 y1
      have HP9 := Lib.hid hW9
      obtain ⟨b1, b2, b3⟩ := hM.fin HQ.out (.slice A1 W9.rows.length k1) (.slice A2 W9.ses.length k2)
      have z0 := b2.cell_ 0 _ rfl
      have z1 := b2.cell_ 1 _ rfl
      have kk : ∀ t, 31 ≠ t → Keeps t wr ((wr.setCell ⟨q, 0, none⟩ (.slice A1 W9.rows.length k1)).setCell ⟨q, 1, none⟩ (.slice A2 W9.ses.length k2)) := fun t ht => (Keeps.set_ (p := ⟨q, 0, none⟩) xr ht _).trans (Keeps.set_ (p := ⟨q, 1, none⟩) (xr.set_ 0 _) ht _)
      have H1 := Lib.hid (o1.keeps (kk _ (by decide)))
      have H2 := Lib.hid (osl_keeps o2 (kk _ (by decide)) (kk _ (by decide)))
      have H3 := Lib.hid b3
      clear b1 b2 b3 kk o1 o2 xr yb hM ho HL
      by_cases hkN : k < N
      · have g1 : (k : Int) < (N : Int) := by omega
        have g3 : (most : Int) ≤ (k : Int) := by omega
        clear hlt
        go_wp2_with fail
        refine bodyPost_ret (v := .tuple #[.agg #[.slice A1 W9.rows.length k1, .slice A2 W9.ses.length k2], .slice Av k cv, .bool true]) (by simp [results, Tryd.results26, go_sem, z0, z1]) rfl ⟨_, _, _, cs1, rfl, by rw [HP9.out]; exact H1.out, by rw [HP9.out]; exact H2.out, H3.out⟩
      · have g1 : (N : Int) ≤ (k : Int) := by omega
        clear hlt
        go_wp2_with fail
        refine bodyPost_ret (v := .tuple #[.agg #[.slice A1 W9.rows.length k1, .slice A2 W9.ses.length k2], .slice Av k cv, .bool true]) (by simp [results, Tryd.results26, go_sem, z0, z1]) rfl ⟨_, _, _, cs1, rfl, by rw [HP9.out]; exact H1.out, by rw [HP9.out]; exact H2.out, H3.out⟩
end Go.Proofs.YtjbnfigpflambabDoor
