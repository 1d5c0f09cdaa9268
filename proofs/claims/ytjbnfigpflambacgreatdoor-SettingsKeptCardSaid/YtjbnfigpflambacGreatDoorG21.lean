/- An argument that is a slice of raw things. tillermankeep.said: statements in a session of a world, one by one. say.Pack and say.Unpack, and what the reference says: what each returns. Messages of raw statements; the setup of raw numbers. -/
import Derived.Test.YtjbnfigpflambacGreatDoorG01
import Derived.Test.YtjbnfigpflambacGreatDoorG03
import Derived.Test.YtjbnfigpflambacGreatDoorG05
import Derived.Test.YtjbnfigpflambacGreatDoorG19
import Derived.Test.YtjbnfigpflambacGreatDoorG20
/- An argument that is a slice of raw things. -/
namespace Go.Proofs.YtjbnfigpflambacGreatDoor
open Go.ChangeShapes Go.WideShapes Go.ChangeAt Go.RowKit Go.Deep Go.Joins
structure Rw where
 (k a b c : Int)
def Rw.st (x : Rw) : St := rawS x.k x.a x.b x.c
structure Rw.Wf (x : Rw) : Prop where
 k : (Lit.int .i64 x.k).wf = true
 a : (Lit.int .i64 x.a).wf = true
 b : (Lit.int .i64 x.b).wf = true
 c : (Lit.int .i64 x.c).wf = true
instance : Inhabited Rw := ⟨⟨0, 0, 0, 0⟩⟩
structure RwAt (w : World) (p : Addr) (x : Rw) : Prop where
 k : w.cell? p = some (.int .i64 x.k)
 a : w.cell? ⟨p.block, p.off + 1, none⟩ = some (.int .i64 x.a)
 b : w.cell? ⟨p.block, p.off + 2, none⟩ = some (.int .i64 x.b)
 c : w.cell? ⟨p.block, p.off + 3, none⟩ = some (.int .i64 x.c)
def RL (w : World) (B : Nat) (v : Value) (l : List Rw) : Prop :=
 ∃ A cap, v = .slice A l.length cap ∧ l.length ≤ cap ∧ cap ≤ maxLen ∧ (0 < l.length → ∃ ad, A = some ad ∧ ad.block < B ∧ ∀ i (h : i < l.length), RwAt w (ad.add (i * 4)) l[i]) ∧ ∀ x ∈ l, x.Wf
theorem RwAt.below {w w' : World} {B : Nat} {p : Addr} {x : Rw} (h : RwAt w p x) (hp : p.block < B) (hb : Below B w w') : RwAt w' p x :=
 ⟨(hb.cell hp).trans h.k, (hb.cell (by exact hp)).trans h.a, (hb.cell (by exact hp)).trans h.b, (hb.cell (by exact hp)).trans h.c⟩
theorem RL.below {w w' : World} {B : Nat} {v : Value} {l : List Rw} (h : RL w B v l) (hb : Below B w w') : RL w' B v l := by
 obtain ⟨A, cap, e, h1, h2, h3, h4⟩ := h
 refine ⟨A, cap, e, h1, h2, fun hn => ?_, h4⟩
 obtain ⟨ad, e, hB, hi⟩ := h3 hn
 exact ⟨ad, e, hB, fun i h => (hi i h).below (by rw [block_of_add]; exact hB) hb⟩
theorem RL.more {w : World} {B B' : Nat} {v : Value} {l : List Rw} (h : RL w B v l) (hB : B ≤ B') : RL w B' v l := by
 obtain ⟨A, cap, e, h1, h2, h3, h4⟩ := h
 exact ⟨A, cap, e, h1, h2, fun hn => (by obtain ⟨ad, e, hb, hi⟩ := h3 hn; exact ⟨ad, e, by omega, hi⟩), h4⟩
set_option maxRecDepth 100000 in
theorem open_raws {H : Type} {enc : TypeId × Value → H} {W : World} {base base' : Nat} {sp : Nat → Bool} {held : Bool} {v : Value} {d : DataW H} {p : List MemPlace} (hv : Value.okWide Tryz.prog W .any base 35 v) (k : DataW.Trod enc Tryz.prog W base' sp held 35 v d p) :
  ∃ l, RL W W.heap.size v l := by
 obtain ⟨a0, len, cap, rfl⟩ := okWide_slice Tryz.underlying35 hv
 obtain ⟨fuel, h⟩ := k
 rcases open_slice_fields Tryz.underlying35 Tryz.underlying44 (by kernel_rfl) (by kernel_rfl) h with ⟨hc, _⟩ | ⟨a, len', cap', m, D, Pl, hc, hb, hl, hm, hmm, hx, hf⟩
 ·simp only [Value.cells, List.cons.injEq, Value.slice.injEq, and_true] at hc
  obtain ⟨rfl, rfl, rfl⟩ := hc
  exact ⟨[], none, 0, rfl, Nat.le_refl _, Nat.zero_le _, fun h => absurd h (by simp), by simp⟩
 ·simp only [Value.cells, List.cons.injEq, Value.slice.injEq, and_true] at hc
  obtain ⟨rfl, rfl, rfl⟩ := hc
  have hlm : len ≤ m := by rw [hmm]; split <;> omega
  have each : ∀ i, i < len → ∃ x : Rw, RwAt W (a.add (i * 4)) x ∧ x.Wf := by
   intro i hi
   obtain ⟨ys, n', hDi, _, hyl, hj⟩ := hf i (by omega)
   obtain ⟨v0, y0, c0, _, t0⟩ := hj 0 _ rfl
   obtain ⟨v1, y1, c1, _, t1⟩ := hj 1 _ rfl
   obtain ⟨v2, y2, c2, _, t2⟩ := hj 2 _ rfl
   obtain ⟨v3, y3, c3, _, t3⟩ := hj 3 _ rfl
   obtain ⟨q0, e0, _, w0⟩ := DataW.trod_int Tryz.underlying3 t0
   obtain ⟨q1, e1, _, w1⟩ := DataW.trod_int Tryz.underlying3 t1
   obtain ⟨q2, e2, _, w2⟩ := DataW.trod_int Tryz.underlying3 t2
   obtain ⟨q3, e3, _, w3⟩ := DataW.trod_int Tryz.underlying3 t3
   obtain rfl : v0 = _ := by simpa using e0
   obtain rfl : v1 = _ := by simpa using e1
   obtain rfl : v2 = _ := by simpa using e2
   obtain rfl : v3 = _ := by simpa using e3
   have ea : ∀ j, (⟨(a.add (i * 4)).block, (a.add (i * 4)).off + (j + 1), none⟩ : Addr) = a.add (i * 4 + (j + 1)) := fun j => by rw [← add_of_add]; rfl
   exact ⟨⟨q0, q1, q2, q3⟩, ⟨c0, by rw [ea 0]; exact c1, by rw [ea 1]; exact c2, by rw [ea 2]; exact c3⟩, ⟨w0, w1, w2, w3⟩⟩
  obtain ⟨f, hfp⟩ := choose_lt each
  have hlen : ((List.range len).map f).length = len := by simp
  refine ⟨(List.range len).map f, some a, cap, by rw [hlen], by rw [hlen]; exact hl, hm, fun hn => ⟨a, rfl, ?_, fun i hi => ?_⟩, fun x hx => ?_⟩
  ·have := World.block_lt_of_cell? W _ (hfp 0 (by rw [hlen] at hn; exact hn)).1.k
   rwa [block_of_add] at this
  ·rw [getElem_map_range]
   exact (hfp i (by rw [hlen] at hi; exact hi)).1
  ·obtain ⟨i, hi, rfl⟩ := List.mem_map.1 hx
   exact (hfp i (List.mem_range.1 hi)).2
end Go.Proofs.YtjbnfigpflambacGreatDoor
/- tillermankeep.said: statements in a session of a world, one by one. -/
namespace Go.Proofs.YtjbnfigpflambacGreatDoor
open Go.ChangeShapes Go.WideShapes Go.ChangeAt Go.RowKit
structure StAt (w : World) (p : Addr) (x : St) : Prop where
 k : w.cell? p = some (.int .i64 x.k)
 key : w.cell? ⟨p.block, p.off + 1, none⟩ = some (.string x.key)
 val : w.cell? ⟨p.block, p.off + 2, none⟩ = some (.string x.val)
def StL (w : World) (B : Nat) (v : Value) (l : List St) : Prop :=
 ∃ A cap, v = .slice A l.length cap ∧ l.length ≤ 1000 ∧ (0 < l.length → ∃ ad, A = some ad ∧ ad.block < B ∧ ∀ i (h : i < l.length), StAt w (ad.add (i * 3)) l[i])
theorem StAt.below {w w' : World} {B : Nat} {p : Addr} {x : St} (h : StAt w p x) (hp : p.block < B) (hb : Below B w w') : StAt w' p x :=
 ⟨(hb.cell hp).trans h.k, (hb.cell (by exact hp)).trans h.key, (hb.cell (by exact hp)).trans h.val⟩
theorem StL.below {w w' : World} {B : Nat} {v : Value} {l : List St} (h : StL w B v l) (hb : Below B w w') : StL w' B v l := by
 obtain ⟨A, cap, e, h1, h3⟩ := h
 refine ⟨A, cap, e, h1, fun hn => ?_⟩
 obtain ⟨ad, e, hB, hi⟩ := h3 hn
 exact ⟨ad, e, hB, fun i h => (hi i h).below (by rw [block_of_add]; exact hB) hb⟩
def saidL (i : Nat) (l : List St) (z : Wo × An) : Wo × An := l.foldl (fun z x => doW z.1 i x) z
theorem said_good {n i : Nat} (hi : i < n) : ∀ (l : List St) (z : Wo × An), (∀ x ∈ l, checkE x = 0) → Good z.1 → z.1.ses.length = n → Good (saidL i l z).1 ∧ (saidL i l z).1.ses.length = n
 | [], _, _, g, h => ⟨g, h⟩
 | x :: l, z, hx, g, h => said_good hi l (doW z.1 i x) (fun y hy => hx y (List.mem_cons_of_mem _ hy)) (doW_good g (by omega) (hx x List.mem_cons_self)) ((doW_length _ _ _).trans h)
theorem do_at {W : Wo} {i : Nat} (g : Good W) (hi : i < W.ses.length) {x : St} (hx : checkE x = 0) : doE W i x = 0 ∧ doR W i x = doW W i x := by
 have h0 : doE W i x = 0 := by
  unfold doE
  rw [if_pos ((good_iff W).2 g), if_pos (by omega)]
  exact hx
 exact ⟨h0, by unfold doR; rw [if_pos h0]; rfl⟩
structure SaidAt (w0 wx : World) (q k : Nat) (W : Wo) (a : An) : Prop where
 bel : Below w0.heap.size w0 wx
 box : ∃ r s, Blk wx q 39 #[r, s] ∧ (k = 0 ∧ WL w0 w0.heap.size r s W ∨ OPL wx w0.heap.size r W.rows ∧ ∃ cs, OSL wx w0.heap.size s W.ses cs)
 r6 : Blk wx (q + 1) 39 #[.slice none 0 0, .slice none 0 0]
 r7 : Blk wx (q + 2) 46 #[.int .i64 0, .string ⟨#[]⟩, .int .i64 0]
 an : Blk wx (q + 3) 46 #[.int .i64 a.kind, .string a.text, .int .i64 a.st]
 hq : w0.heap.size = q
theorem SaidAt.keep {w0 wx wy : World} {q k : Nat} {W : Wo} {a : An} (h : SaidAt w0 wx q k W a) (hb : Below wx.heap.size wx wy) : SaidAt w0 wy q k W a := by
 obtain ⟨r, s, b, hh⟩ := h.box
 refine ⟨below_step h.bel (Nat.le_refl _) hb, ⟨r, s, b.keep hb, hh.imp id fun ⟨o1, cs, o2⟩ => ⟨o1.keeps (.of_below hb), cs, osl_keeps o2 (.of_below hb) (.of_below hb)⟩⟩, h.r6.keep hb, h.r7.keep hb, h.an.keep hb, h.hq⟩
theorem SaidAt.open_ {w0 wx : World} {q k : Nat} {W : Wo} {a : An} (h : SaidAt w0 wx q k W a) (h8 : W.ses.length ≤ 1000) : ∃ A c A2 c2, Blk wx q 39 #[.slice A W.rows.length c, .slice A2 W.ses.length c2] ∧ WL wx wx.heap.size (.slice A W.rows.length c) (.slice A2 W.ses.length c2) W := by
 obtain ⟨r, s, b, hh⟩ := h.box
 have hw : WL wx wx.heap.size r s W := by
  rcases hh with ⟨_, hw⟩ | ⟨o1, cs, o2⟩
  ·exact (hw.below h.bel).more h.bel.size
  ·exact ⟨o1.pl, o2.sl (by omega)⟩
 obtain ⟨A, c, rfl⟩ := hw.rows.form
 obtain ⟨A2, c2, rfl, _⟩ := hw.ses
 exact ⟨A, c, A2, c2, b, hw⟩
theorem SaidAt.start (w : World) {r s : Value} {W : Wo} {q : Nat} (hq : w.heap.size = q) (h : WL w w.heap.size r s W) : SaidAt w ((((w.alloc (.cells #[r, s] 39)).alloc (.cells #[.slice none 0 0, .slice none 0 0] 39)).alloc (.cells #[.int .i64 0, .string ⟨#[]⟩, .int .i64 0] 46)).alloc (.cells #[.int .i64 0, .string ⟨#[]⟩, .int .i64 0] 46)) q 0 W An.no := by
 subst hq
 have e : ∀ (u : World) (o : Obj), (u.alloc o).heap.size = u.heap.size + 1 := fun u o => by simp
 have b1 := Blk.new (w.alloc (.cells #[r, s] 39)) 39 #[.slice none 0 0, .slice none 0 0]
 have b2 := Blk.new ((w.alloc (.cells #[r, s] 39)).alloc (.cells #[.slice none 0 0, .slice none 0 0] 39)) 46 #[.int .i64 0, .string ⟨#[]⟩, .int .i64 0]
 have b3 := Blk.new (((w.alloc (.cells #[r, s] 39)).alloc (.cells #[.slice none 0 0, .slice none 0 0] 39)).alloc (.cells #[.int .i64 0, .string ⟨#[]⟩, .int .i64 0] 46)) 46 #[.int .i64 0, .string ⟨#[]⟩, .int .i64 0]
 rw [e] at b1
 rw [e, e] at b2
 rw [e, e, e] at b3
 exact ⟨((boxed2 w _ _).alloc (by simp; omega) _).alloc (by simp; omega) _, ⟨r, s, (((Blk.new w _ _).alloc _).alloc _).alloc _, .inl ⟨rfl, h⟩⟩, (b1.alloc _).alloc _, b2.alloc _, b3, rfl⟩
theorem SaidAt.turn {w0 wr wx wy : World} {q k z12 z13 : Nat} {W V : Wo} {a a' : An} {r s : Value} (h : SaidAt w0 wx q k W a) (n : DoN w0.heap.size wr wx z12 z13 r s V a')
  (e : wy = ((((wx.setCell ⟨q, 0, none⟩ r).setCell ⟨q, 1, none⟩ s).setCell ⟨q + 3, 0, none⟩ (.int .i64 a'.kind)).setCell ⟨q + 3, 1, none⟩ (.string a'.text)).setCell ⟨q + 3, 2, none⟩ (.int .i64 a'.st)) (k' : Nat) : SaidAt w0 wy q k' V a' := by
 subst e
 obtain ⟨r0, s0, b, _⟩ := h.box
 obtain ⟨cs, o2⟩ := n.ses
 have hq := h.hq
 have A0 := (h.an.far (p := ⟨q, 0, none⟩) (show q + 3 ≠ q by omega) r).far (p := ⟨q, 1, none⟩) (show q + 3 ≠ q by omega) s
 have A1 := A0.set_ 0 (.int .i64 a'.kind)
 have A2 := A1.set_ 1 (.string a'.text)
 have k : ∀ t, 39 ≠ t → 46 ≠ t → Keeps t wx (((((wx.setCell ⟨q, 0, none⟩ r).setCell ⟨q, 1, none⟩ s).setCell ⟨q + 3, 0, none⟩ (.int .i64 a'.kind)).setCell ⟨q + 3, 1, none⟩ (.string a'.text)).setCell ⟨q + 3, 2, none⟩ (.int .i64 a'.st)) := fun t h1 h2 =>
  ((((Keeps.set_ (p := ⟨q, 0, none⟩) b h1 _).trans (Keeps.set_ (p := ⟨q, 1, none⟩) (b.set_ 0 r) h1 _)).trans (Keeps.set_ (p := ⟨q + 3, 0, none⟩) A0 h2 _)).trans (Keeps.set_ (p := ⟨q + 3, 1, none⟩) A1 h2 _)).trans (Keeps.set_ (p := ⟨q + 3, 2, none⟩) A2 h2 _)
 have l0 : ∀ j, w0.heap.size ≤ (⟨q, j, none⟩ : Addr).block := fun _ => by show w0.heap.size ≤ q; omega
 have l3 : ∀ j, w0.heap.size ≤ (⟨q + 3, j, none⟩ : Addr).block := fun _ => by show w0.heap.size ≤ q + 3; omega
 have far : ∀ {m : Nat} {t : TypeId} {c : Array Value}, Blk wx m t c → m ≠ q → m ≠ q + 3 → Blk (((((wx.setCell ⟨q, 0, none⟩ r).setCell ⟨q, 1, none⟩ s).setCell ⟨q + 3, 0, none⟩ (.int .i64 a'.kind)).setCell ⟨q + 3, 1, none⟩ (.string a'.text)).setCell ⟨q + 3, 2, none⟩ (.int .i64 a'.st)) m t c := fun hm h1 h2 => ((((hm.far h1 _).far h1 _).far h2 _).far h2 _).far h2 _
 exact ⟨((((h.bel.setCell (l0 0) _).setCell (l0 1) _).setCell (l3 0) _).setCell (l3 1) _).setCell (l3 2) _,
  ⟨r, s, ((((b.set_ 0 r).set_ 1 s).far (p := ⟨q + 3, 0, none⟩) (show q ≠ q + 3 by omega) _).far (p := ⟨q + 3, 1, none⟩) (show q ≠ q + 3 by omega) _).far (p := ⟨q + 3, 2, none⟩) (show q ≠ q + 3 by omega) _, .inr ⟨n.rows.keeps (k _ (by decide) (by decide)), cs, osl_keeps o2 (k _ (by decide) (by decide)) (k _ (by decide) (by decide))⟩⟩,
  far h.r6 (by omega) (by omega), far h.r7 (by omega) (by omega), A2.set_ 2 _, h.hq⟩
theorem SaidAt.ends {w0 wx wy : World} {q k : Nat} {W : Wo} {a : An} {r s : Value} (h : SaidAt w0 wx q k W a) (o1 : OPL wx w0.heap.size r W.rows) {cs : List Value} (o2 : OSL wx w0.heap.size s W.ses cs) (u v x y z : Value)
  (e : wy = ((((wx.setCell ⟨q + 1, 0, none⟩ u).setCell ⟨q + 1, 1, none⟩ v).setCell ⟨q + 2, 0, none⟩ x).setCell ⟨q + 2, 1, none⟩ y).setCell ⟨q + 2, 2, none⟩ z) :
  OPL wy w0.heap.size r W.rows ∧ OSL wy w0.heap.size s W.ses cs ∧ Below w0.heap.size w0 wy ∧ Blk wy (q + 1) 39 #[u, v] ∧ Blk wy (q + 2) 46 #[x, y, z] := by
 subst e
 have hq := h.hq
 have A0 := (h.r7.far (p := ⟨q + 1, 0, none⟩) (show q + 2 ≠ q + 1 by omega) u).far (p := ⟨q + 1, 1, none⟩) (show q + 2 ≠ q + 1 by omega) v
 have A1 := A0.set_ 0 x
 have A2 := A1.set_ 1 y
 have k : ∀ t, 39 ≠ t → 46 ≠ t → Keeps t wx (((((wx.setCell ⟨q + 1, 0, none⟩ u).setCell ⟨q + 1, 1, none⟩ v).setCell ⟨q + 2, 0, none⟩ x).setCell ⟨q + 2, 1, none⟩ y).setCell ⟨q + 2, 2, none⟩ z) := fun t h1 h2 =>
  ((((Keeps.set_ (p := ⟨q + 1, 0, none⟩) h.r6 h1 _).trans (Keeps.set_ (p := ⟨q + 1, 1, none⟩) (h.r6.set_ 0 u) h1 _)).trans (Keeps.set_ (p := ⟨q + 2, 0, none⟩) A0 h2 _)).trans (Keeps.set_ (p := ⟨q + 2, 1, none⟩) A1 h2 _)).trans (Keeps.set_ (p := ⟨q + 2, 2, none⟩) A2 h2 _)
 have l1 : ∀ j, w0.heap.size ≤ (⟨q + 1, j, none⟩ : Addr).block := fun _ => by show w0.heap.size ≤ q + 1; omega
 have l2 : ∀ j, w0.heap.size ≤ (⟨q + 2, j, none⟩ : Addr).block := fun _ => by show w0.heap.size ≤ q + 2; omega
 have n2 : ∀ j, q + 1 ≠ (⟨q + 2, j, none⟩ : Addr).block := fun _ => by show q + 1 ≠ q + 2; omega
 exact ⟨o1.keeps (k _ (by decide) (by decide)), osl_keeps o2 (k _ (by decide) (by decide)) (k _ (by decide) (by decide)), ((((h.bel.setCell (l1 0) _).setCell (l1 1) _).setCell (l2 0) _).setCell (l2 1) _).setCell (l2 2) _,
  ((((h.r6.set_ 0 u).set_ 1 v).far (n2 0) _).far (n2 1) _).far (n2 2) _, A2.set_ 2 z⟩
set_option maxHeartbeats 8000000 in
set_option maxRecDepth 100000 in
theorem said_any (w : World) (r s v : Value) (W : Wo) (i : Nat) (xs : List St) (hT : Tabs w) (h : WL w w.heap.size r s W) (hG : Good W) (hi : i < W.ses.length) (hv : StL w w.heap.size v xs) (hx : ∀ x ∈ xs, checkE x = 0) (hs : ∀ x ∈ xs, x.key.size ≤ maxLen ∧ x.val.size ≤ maxLen) (hne : xs ≠ []) :
  Calls Tryz.prog 17 #[.agg #[r, s], .int .i64 (i : Nat), v] w fun e w' => ∃ r' s' cs, e = .returned (.tuple #[.agg #[r', s'], anV (saidL i xs (W, An.no)).2, .bool true]) ∧ OPL w' w.heap.size r' (saidL i xs (W, An.no)).1.rows ∧ OSL w' w.heap.size s' (saidL i xs (W, An.no)).1.ses cs ∧ Below w.heap.size w w' := by
 have HV := Lib.hid hv
 obtain ⟨A, cap, rfl, hc1, _⟩ := hv
 obtain ⟨N, hN⟩ : ∃ N, xs.length = N := ⟨_, rfl⟩
 rw [hN] at hc1 ⊢
 have hn0 : 0 < N := by rw [← hN]; exact List.length_pos_iff.2 hne
 have HN := Lib.hid hN
 have HT := Lib.hid hT
 have HX := Lib.hid hx
 have HS := Lib.hid hs
 have HG := Lib.hid hG
 have hfew := hG.few
 have HI := Lib.hid hi
 obtain ⟨q, hq⟩ : ∃ q, w.heap.size = q := ⟨_, rfl⟩
 have S0 := Lib.hid (SaidAt.start w hq h)
 obtain ⟨Ar, cr, rfl⟩ := h.rows.form
 obtain ⟨As, ca, rfl, _⟩ := h.ses
 clear hN hT hx hs hG h hne
 go_enter Tryz.func17, Tryz.ntmps17
 go_wp2_with fail
 generalize World.alloc _ _ = x0 at S0 ⊢
 go_loopw [18] (fun i' wx => ∃ k : Nat, k ≤ N ∧ i' = .int .i64 k ∧ SaidAt w wx q k (saidL i (xs.take k) (W, An.no)).1 (saidL i (xs.take k) (W, An.no)).2) (fun i' _ => N - (intOf i').toNat)
 case atStart => exact ⟨0, Nat.zero_le _, rfl, by rw [List.take_zero]; exact S0.out⟩
 case round =>
  obtain ⟨kk, hk, rfl, hM⟩ := hrel
  have htx : ∀ x ∈ xs.take kk, checkE x = 0 := fun x hx => HX.out x (List.mem_of_mem_take hx)
  obtain ⟨g1, g2⟩ := said_good (i := i) HI.out (xs.take kk) (W, An.no) htx HG.out rfl
  by_cases hlt : kk < N
  ·have hkl : kk < xs.length := by rw [HN.out]; exact hlt
   obtain ⟨_, _, e0, _, hrow⟩ := HV.out
   injection e0 with e1 e2 e3
   subst e3
   obtain ⟨ad, hA, hB, hat⟩ := hrow (by omega)
   rw [hA] at e1
   subst e1
   obtain ⟨x, hx⟩ : ∃ x, xs[kk] = x := ⟨_, rfl⟩
   have hR := (hat kk hkl).below (by rw [block_of_add]; exact hB) hM.bel
   have hcx := HX.out xs[kk] (List.getElem_mem hkl)
   have hsx := HS.out xs[kk] (List.getElem_mem hkl)
   rw [hx] at hR hcx hsx
   have htk : xs.take (kk + 1) = xs.take kk ++ [x] := by rw [List.take_succ_eq_append_getElem hkl, hx]
   have hsl : saidL i (xs.take (kk + 1)) (W, An.no) = doW (saidL i (xs.take kk) (W, An.no)).1 i x := by rw [htk]; unfold saidL; rw [List.foldl_append]; rfl
   obtain ⟨z0, hz0⟩ : ∃ z, saidL i (xs.take kk) (W, An.no) = z := ⟨_, rfl⟩
   rw [hz0] at hM g1 g2 hsl
   obtain ⟨V, a⟩ := z0
   have hi2 : i < V.ses.length := by rw [show V.ses.length = W.ses.length from g2]; exact HI.out
   obtain ⟨hee, hrr⟩ := do_at g1 hi2 hcx
   obtain ⟨R, hRD⟩ : ∃ R, doW V i x = R := ⟨_, rfl⟩
   have hl2 := doW_length V i x
   change saidL i (xs.take (kk + 1)) (W, An.no) = doW V i x at hsl
   change doE V i x = 0 at hee
   change doR V i x = doW V i x at hrr
   rw [hRD] at hsl hrr hl2
   obtain ⟨V2, aK, aT, aS⟩ := R
   have HSL := Lib.hid hsl
   have HRR := Lib.hid hrr
   have HEE := Lib.hid hee
   have HSX := Lib.hid hsx
   have HIW := Lib.hid (show (Lit.int .i64 (i : Int)).wf = true from i64_wf (by omega) (by have : V.ses.length = W.ses.length := g2; omega))
   have hv8 : V.ses.length ≤ 8 := by rw [show V.ses.length = W.ses.length from g2]; exact hfew
   have h20 : 0 < V2.ses.length := by have : V2.ses.length = V.ses.length := hl2; omega
   have H20 := Lib.hid h20
   have g3 : (kk : Int) < (N : Int) := by omega
   have g4 : (0 : Int) ≤ (kk : Int) := by omega
   obtain ⟨c0, c1, c2⟩ := hR
   obtain ⟨xK, xk, xv⟩ := x
   have S1 := Lib.hid (show SaidAt w wr q kk V a from hM)
   obtain ⟨z11, hz11⟩ : ∃ z, wr.heap.size = z := ⟨_, rfl⟩
   clear hM hsl hrr hee hRD hl2 g1 g2 htx hcx hsx htk hz0 hx hkl hat hrow h20 hi2
   go_upto_region 5 with fail
   have S2 := Lib.hid (S1.out.keep (boxed wr (.cells #[.int .i64 xK, .string xk, .string xv] 41)))
   have B9 := Blk.new wr 41 #[.int .i64 xK, .string xk, .string xv]
   rw [hz11] at B9
   clear c0 c1 c2 S1 g3 g4
   generalize World.alloc _ _ = x1 at S2 B9 ⊢
   obtain ⟨Ab, cb, Ac, cc, yb, hwl⟩ := S2.out.open_ (by omega)
   have y0 := yb.cell_ 0 _ rfl
   have y1 := yb.cell_ 1 _ rfl
   have a0 := B9.cell_ 0 _ rfl
   have a1 := B9.cell_ 1 _ rfl
   have a2 := B9.cell_ 2 _ rfl
   have HWL := Lib.hid hwl
   clear yb hwl B9 hz11
   go_wp2_with fail
   refine (do_world _ _ _ V _ ⟨xK, xk, xv⟩ (HT.out.below S2.out.bel) HWL.out HIW.out HSX.out.1 HSX.out.2).mono ?_
   rintro e x2 ⟨r', s', cs', rfl, o1, o2, bb⟩
   rw [HRR.out] at o1 o2 ⊢
   rw [HEE.out]
   obtain ⟨A3, k3, rfl⟩ := o1.form
   obtain ⟨g5, cap2, rfl⟩ := o2.form H20.out
   unfold anV
   have hle : w.heap.size ≤ x1.heap.size := S2.out.bel.size
   have FN := Lib.hid (show DoN w.heap.size x2 ((x2.alloc (.cells #[.slice A3 V2.rows.length k3, .slice (some ⟨g5, 0, none⟩) V2.ses.length cap2] 39)).alloc (.cells #[.int .i64 aK, .string aT, .int .i64 aS] 46)) x2.heap.size (x2.heap.size + 1) (.slice A3 V2.rows.length k3) (.slice (some ⟨g5, 0, none⟩) V2.ses.length cap2) V2 ⟨aK, aT, aS⟩ from
    ⟨boxed2 _ _ _, (Blk.new x2 _ _).alloc _, Blk.new1 x2 _ _ _, (o1.base hle).keeps (.of_below (boxed2 _ _ _)), ⟨cs', osl_keeps (o2.base hle) (.of_below (boxed2 _ _ _)) (.of_below (boxed2 _ _ _))⟩, Nat.le_refl _, Nat.le_succ _⟩)
   have S3 := Lib.hid ((S2.out.keep bb).keep (boxed2 x2 (.cells #[.slice A3 V2.rows.length k3, .slice (some ⟨g5, 0, none⟩) V2.ses.length cap2] 39) (.cells #[.int .i64 aK, .string aT, .int .i64 aS] 46)))
   have hlt3 : q + 3 < x2.heap.size := (S2.out.keep bb).an.lt
   obtain ⟨z12, hz12⟩ : ∃ z, x2.heap.size = z := ⟨_, rfl⟩
   rw [hz12] at FN hlt3
   have n13 : ¬ (z12 + 1 = q) := by omega
   have n14 : ¬ (z12 = q) := by omega
   clear bb o1 o2 y0 y1 a0 a1 a2 HWL S2
   go_upto_region 8 with fail
   have hB8 := Below.refl x2.heap.size x2
   generalize World.alloc _ _ = x3 at FN S3 ⊢
   replace FN := Lib.hid (FN.out.keep (Below.refl _ _).drew)
   replace S3 := Lib.hid (S3.out.keep (Below.refl _ _).drew)
   obtain ⟨r0, s0, yb, _⟩ := S3.out.box
   have y0 := yb.cell_ 0 _ rfl
   have y1 := yb.cell_ 1 _ rfl
   have ff := yb.frozen
   have f0 := FN.out.b12.cell_ 0 _ rfl
   have f1 := FN.out.b12.cell_ 1 _ rfl
   have f2 := FN.out.b13.cell_ 0 _ rfl
   have f3 := FN.out.b13.cell_ 1 _ rfl
   have f4 := FN.out.b13.cell_ 2 _ rfl
   have a0 := S3.out.an.cell_ 0 _ rfl
   have a1 := S3.out.an.cell_ 1 _ rfl
   have a2 := S3.out.an.cell_ 2 _ rfl
   have fg := S3.out.an.frozen
   clear yb hB8
   refine region_segs [2, 3] (by kernel_rfl) ?_
   generalize x3.drew = x4 at FN S3 y0 y1 ff f0 f1 f2 f3 f4 a0 a1 a2 fg ⊢
   refine anyB_seg [0] 3 rfl (by kernel_rfl) (by kernel_rfl) (by kernel_rfl) (fun _ _ d _ _ h => by cases d <;> exact h) ?_
   simp only [pickOps, List.getElem?_toArray, List.getElem?_cons_zero]
   go_wp2_with fail
   refine ⟨rfl, by rfl, ?_⟩
   refine anyB_two (i := 1) (j := 2) (by kernel_rfl) rfl rfl (fun K hK => ?_) (fun K hK => ?_)
   ·go_simp
    refine hK.out _ _ (fun _ => (Below.refl _ _)) ?_
    clear hK K
    refine anyB_one (i := 2) (by kernel_rfl) rfl (fun K hK => ?_)
    go_simp
    refine hK.out _ _ (fun h => absurd (by decide) h) ?_
    clear hK K
    refine anyB_one (i := 3) (by kernel_rfl) rfl (fun K hK => ?_)
    go_simp
    refine hK.out _ _ (fun h => absurd (by decide) h) ?_
    clear hK K
    refine anyB_done (by kernel_rfl) ?_ _
    have F9 := Lib.hid (S3.out.turn FN.out rfl (kk + 1))
    generalize World.setCell _ _ _ = x9 at F9 ⊢
    go_wp2_with fail
    go_roundw
    case rel => exact ⟨kk + 1, by omega, by go_num, by rw [HSL.out]; exact F9.out⟩
    case measure => simp [intOf]; omega
   ·go_simp
    refine hK.out _ _ (fun h => absurd (by decide) h) ?_
    clear hK K
    refine anyB_seg [1] 1 rfl (by kernel_rfl) (by kernel_rfl) (by kernel_rfl) (fun _ _ d _ _ h => by cases d <;> exact h) ?_
    simp only [pickOps, List.getElem?_toArray, List.getElem?_cons_zero, List.getElem?_cons_succ]
    go_wp2_with fail
    refine ⟨rfl, by rfl, ?_⟩
    refine anyB_one (i := 3) (by kernel_rfl) rfl (fun K hK => ?_)
    go_simp
    refine hK.out _ _ (fun h => absurd (by decide) h) ?_
    clear hK K
    refine anyB_done (by kernel_rfl) ?_ _
    have F9 := Lib.hid (S3.out.turn FN.out rfl (kk + 1))
    generalize World.setCell _ _ _ = x9 at F9 ⊢
    go_wp2_with fail
    go_roundw
    case rel => exact ⟨kk + 1, by omega, by go_num, by rw [HSL.out]; exact F9.out⟩
    case measure => simp [intOf]; omega
  ·obtain rfl : kk = N := by omega
   have htk : xs.take kk = xs := List.take_of_length_le (by rw [HN.out]; exact Nat.le_refl _)
   rw [htk] at hM g1 g2
   obtain ⟨z0, hz0⟩ : ∃ z, saidL i xs (W, An.no) = z := ⟨_, rfl⟩
   rw [hz0] at hM g1 g2
   obtain ⟨W9, aK, aT, aS⟩ := z0
   have HW9 := Lib.hid hz0
   have S3 := Lib.hid (hM.keep (Below.refl _ _).drew)
   clear htk hz0 hM htx
   go_upto_region 10 with fail
   obtain ⟨r0, s0, yb, hh⟩ := S3.out.box
   obtain ⟨o1, cs, o2⟩ := hh.resolve_left (fun h => by have := h.1; omega)
   obtain ⟨A1, k1, rfl⟩ := o1.form
   obtain ⟨A2, k2, rfl⟩ := own_slice o2.own
   have O1 := Lib.hid o1
   have O2 := Lib.hid o2
   have y0 := yb.cell_ 0 _ rfl
   have y1 := yb.cell_ 1 _ rfl
   have a0 := S3.out.an.cell_ 0 _ rfl
   have a1 := S3.out.an.cell_ 1 _ rfl
   have a2 := S3.out.an.cell_ 2 _ rfl
   have f0 := S3.out.r6.cell_ 0 _ rfl
   have f1 := S3.out.r6.cell_ 1 _ rfl
   have f2 := S3.out.r7.cell_ 0 _ rfl
   have f3 := S3.out.r7.cell_ 1 _ rfl
   have f4 := S3.out.r7.cell_ 2 _ rfl
   have ff := S3.out.r6.frozen
   have fg := S3.out.r7.frozen
   have S4 := S3
   clear yb hh o1 o2 S3 g1 g2
   refine region_segs [2, 3] (by kernel_rfl) ?_
   generalize wr.drew = x4 at S4 O1 O2 y0 y1 a0 a1 a2 f0 f1 f2 f3 f4 ff fg ⊢
   refine anyB_seg [0] 4 rfl (by kernel_rfl) (by kernel_rfl) (by kernel_rfl) (fun _ _ d _ _ h => by cases d <;> exact h) ?_
   simp only [pickOps, List.getElem?_toArray, List.getElem?_cons_zero]
   go_wp2_with fail
   refine ⟨rfl, by rfl, ?_⟩
   refine anyB_two (i := 1) (j := 2) (by kernel_rfl) rfl rfl (fun K hK => ?_) (fun K hK => ?_)
   ·go_simp
    refine hK.out _ _ (fun _ => (Below.refl _ _)) ?_
    clear hK K
    refine anyB_one (i := 2) (by kernel_rfl) rfl (fun K hK => ?_)
    go_simp
    refine hK.out _ _ (fun h => absurd (by decide) h) ?_
    clear hK K
    refine anyB_one (i := 3) (by kernel_rfl) rfl (fun K hK => ?_)
    go_simp
    refine hK.out _ _ (fun h => absurd (by decide) h) ?_
    clear hK K
    refine anyB_seg [4] 0 rfl (by kernel_rfl) (by kernel_rfl) (by kernel_rfl) (fun _ _ d _ _ h => by cases d <;> exact h) ?_
    simp only [pickOps, List.getElem?_toArray, List.getElem?_cons_zero, List.getElem?_cons_succ]
    go_wp2_with fail
    refine ⟨rfl, by rfl, ?_⟩
    refine anyB_done (by kernel_rfl) ?_ _
    obtain ⟨E1, E2, E3, E4, E5⟩ := S4.out.ends O1.out O2.out (.slice A1 W9.rows.length k1) (.slice A2 W9.ses.length k2) (.int .i64 aK) (.string aT) (.int .i64 aS) rfl
    have t0 := E4.cell_ 0 _ rfl
    have t1 := E4.cell_ 1 _ rfl
    have t2 := E5.cell_ 0 _ rfl
    have t3 := E5.cell_ 1 _ rfl
    have t4 := E5.cell_ 2 _ rfl
    have HE1 := Lib.hid E1
    have HE2 := Lib.hid E2
    have HE3 := Lib.hid E3
    clear E1 E2 E3 E4 E5 y0 y1 a0 a1 a2 f0 f1 f2 f3 f4 ff fg
    generalize World.setCell _ _ _ = x9 at HE1 HE2 HE3 t0 t1 t2 t3 t4 ⊢
    go_wp2_with fail
    refine bodyPost_ret (v := .tuple #[.agg #[.slice A1 W9.rows.length k1, .slice A2 W9.ses.length k2], .agg #[.int .i64 aK, .string aT, .int .i64 aS], .bool true]) (by simp [results, Tryz.results17, go_sem, t0, t1, t2, t3, t4]) rfl ⟨_, _, cs, by rw [HW9.out]; rfl, by rw [HW9.out]; exact HE1.out, by rw [HW9.out]; exact HE2.out, HE3.out⟩
   ·go_simp
    refine hK.out _ _ (fun h => absurd (by decide) h) ?_
    clear hK K
    refine anyB_seg [1] 2 rfl (by kernel_rfl) (by kernel_rfl) (by kernel_rfl) (fun _ _ d _ _ h => by cases d <;> exact h) ?_
    simp only [pickOps, List.getElem?_toArray, List.getElem?_cons_zero, List.getElem?_cons_succ]
    go_wp2_with fail
    refine ⟨rfl, by rfl, ?_⟩
    refine anyB_one (i := 3) (by kernel_rfl) rfl (fun K hK => ?_)
    go_simp
    refine hK.out _ _ (fun h => absurd (by decide) h) ?_
    clear hK K
    refine anyB_seg [4] 0 rfl (by kernel_rfl) (by kernel_rfl) (by kernel_rfl) (fun _ _ d _ _ h => by cases d <;> exact h) ?_
    simp only [pickOps, List.getElem?_toArray, List.getElem?_cons_zero, List.getElem?_cons_succ]
    go_wp2_with fail
    refine ⟨rfl, by rfl, ?_⟩
    refine anyB_done (by kernel_rfl) ?_ _
    obtain ⟨E1, E2, E3, E4, E5⟩ := S4.out.ends O1.out O2.out (.slice A1 W9.rows.length k1) (.slice A2 W9.ses.length k2) (.int .i64 aK) (.string aT) (.int .i64 aS) rfl
    have t0 := E4.cell_ 0 _ rfl
    have t1 := E4.cell_ 1 _ rfl
    have t2 := E5.cell_ 0 _ rfl
    have t3 := E5.cell_ 1 _ rfl
    have t4 := E5.cell_ 2 _ rfl
    have HE1 := Lib.hid E1
    have HE2 := Lib.hid E2
    have HE3 := Lib.hid E3
    clear E1 E2 E3 E4 E5 y0 y1 a0 a1 a2 f0 f1 f2 f3 f4 ff fg
    generalize World.setCell _ _ _ = x9 at HE1 HE2 HE3 t0 t1 t2 t3 t4 ⊢
    go_wp2_with fail
    refine bodyPost_ret (v := .tuple #[.agg #[.slice A1 W9.rows.length k1, .slice A2 W9.ses.length k2], .agg #[.int .i64 aK, .string aT, .int .i64 aS], .bool true]) (by simp [results, Tryz.results17, go_sem, t0, t1, t2, t3, t4]) rfl ⟨_, _, cs, by rw [HW9.out]; rfl, by rw [HW9.out]; exact HE1.out, by rw [HW9.out]; exact HE2.out, HE3.out⟩
end Go.Proofs.YtjbnfigpflambacGreatDoor
/- say.Pack and say.Unpack, and what the reference says: what each returns. -/
namespace Go.Proofs.YtjbnfigpflambacGreatDoor
open Go.ChangeShapes Go.WideShapes Go.ChangeAt Go.RowKit
theorem two_bytes (k : UInt8) (s : ByteArray) (w : World) (h : s.size ≤ 120) :
  (convert 94 9 (.slice (some ⟨w.heap.size, 0, none⟩) 2 2)).run Tryz.prog (w.alloc (.cells #[.int .u8 (k.toNat : Int), .int .u8 (s.size : Int)] 5)) = .ok (.string ⟨#[k, UInt8.ofNat s.size]⟩) (w.alloc (.cells #[.int .u8 (k.toNat : Int), .int .u8 (s.size : Int)] 5)) := by
 have hm : s.size % 256 = s.size := by omega
 exact run_convert_bytes_back (P := Tryz.prog) _ 94 9 5 ⟨w.heap.size, 0, none⟩ 2 [k, UInt8.ofNat s.size] Tryz.underlying94 Tryz.underlying5 Tryz.underlying9 (fun j hj => by
  rcases j with _ | _ | j
  ·exact (cell_of_row _ _ 0 _ _ (0, 0) (heap_alloc_new w _))
  ·refine (cell_of_row _ _ 1 _ _ (0, 0) (heap_alloc_new w _)).trans ?_
   simp [hm]
  ·simp at hj; omega)
set_option maxRecDepth 100000 in
theorem pack_ok (k : UInt8) (s : ByteArray) (w : World) (h : s.size ≤ 120) :
  Calls Tryz.prog 39 #[.int .u8 (k.toNat : Int), .string s] w fun e w' => e = .returned (.tuple #[.string (msg k s), .int .i64 0]) ∧ Below w.heap.size w w' := by
 have H := two_bytes k s w h
 go_enter Tryz.func39, Tryz.ntmps39
 go_wp2
 go_ret2
 exact ⟨rfl, (Below.refl _ _).alloc (Nat.le_refl _) _⟩
set_option maxRecDepth 100000 in
theorem pack_big (k : UInt8) (s : ByteArray) (w : World) (h : 120 < s.size) (hm : s.size ≤ maxLen) :
  Calls Tryz.prog 39 #[.int .u8 (k.toNat : Int), .string s] w fun e w' => e = .returned (.tuple #[.string ⟨#[]⟩, .int .i64 1]) ∧ Below w.heap.size w w' := by
 unfold maxLen at hm
 go_enter Tryz.func39, Tryz.ntmps39
 go_wp2
 go_ret2
 exact ⟨rfl, Below.refl _ _⟩
theorem pack_any (k : UInt8) (s : ByteArray) (w : World) (hm : s.size ≤ maxLen) :
  Calls Tryz.prog 39 #[.int .u8 (k.toNat : Int), .string s] w fun e w' => e = .returned (.tuple #[.string (packS k s), .int .i64 (packE s)]) ∧ Below w.heap.size w w' := by
 unfold packS packE
 by_cases h : 120 < s.size
 ·rw [if_pos h, if_pos h]; exact pack_big k s w h hm
 ·rw [if_neg h, if_neg h]; exact pack_ok k s w (by omega)
end Go.Proofs.YtjbnfigpflambacGreatDoor
/- Messages of raw statements; the setup of raw numbers. -/
namespace Go.Proofs.YtjbnfigpflambacGreatDoor
open Go.ChangeShapes Go.WideShapes Go.ChangeAt Go.RowKit
theorem all_raw (P : St → Bool) (h1 : [1, 2, 3, 4, 5].all (fun k => P ⟨k, ⟨#[]⟩, ⟨#[]⟩⟩) = true) (h2 : [6, 7, 8].all (fun k => fourR.all fun a => P ⟨k, keyT a, ⟨#[]⟩⟩) = true)
  (h3 : [9, 10].all (fun k => fourR.all fun a => twelveR.all fun b => P ⟨k, keyT a, valT b⟩) = true) (h4 : fourR.all (fun a => twelveR.all fun b => fourR.all fun d => P ⟨11, keyT a, prepT d (valT b)⟩) = true) (k a b c : Int) : P (rawS k a b c) = true := by
 unfold rawS
 have mI := in4 (pick_bd a 4 (by decide)).1 (pick_bd a 4 (by decide)).2
 have mV := in12 (pick_bd b 12 (by decide)).1 (pick_bd b 12 (by decide)).2
 have mD := in4 (pick_bd c 4 (by decide)).1 (pick_bd c 4 (by decide)).2
 generalize pick a 4 = I at mI
 generalize pick b 12 = V at mV
 generalize pick c 4 = D at mD
 have low : ∀ k ∈ [(1 : Int), 2, 3, 4, 5], P ⟨k, ⟨#[]⟩, ⟨#[]⟩⟩ = true := List.all_eq_true.1 h1
 have mid : ∀ k ∈ [(6 : Int), 7, 8], P ⟨k, keyT I, ⟨#[]⟩⟩ = true := fun k hk => List.all_eq_true.1 (List.all_eq_true.1 h2 k hk) I mI
 have top : ∀ k ∈ [(9 : Int), 10], P ⟨k, keyT I, valT V⟩ = true := fun k hk => List.all_eq_true.1 (List.all_eq_true.1 (List.all_eq_true.1 h3 k hk) I mI) V mV
 have prep : P ⟨11, keyT I, prepT D (valT V)⟩ = true := List.all_eq_true.1 (List.all_eq_true.1 (List.all_eq_true.1 h4 I mI) V mV) D mD
 rcases st_cases (pick k 24) I V (pick c 3) D with ⟨-, e⟩ | ⟨-, -, e⟩ | ⟨-, e⟩ | ⟨-, e⟩ | ⟨-, -, e⟩ | ⟨-, -, e⟩ | ⟨-, -, e⟩ | ⟨-, -, e⟩ | ⟨-, -, e⟩ | ⟨-, e⟩
 all_goals rw [e]
 ·exact low 1 (by simp)
 ·exact low 2 (by simp)
 ·exact low 3 (by simp)
 ·split
  ·exact low 4 (by simp)
  ·exact low 5 (by simp)
 ·exact mid 6 (by simp)
 ·exact mid 7 (by simp)
 ·exact mid 8 (by simp)
 ·exact top 9 (by simp)
 ·exact top 10 (by simp)
 ·exact prep
def msgQ (x : St) : ByteArray := msg 81 (textOf x)
def okM (x : St) : Bool := !(msgQ x).data.toList.contains 88 && decide ((msgQ x).size ≤ 62) && decide (1 ≤ (msgQ x).size) && !(msgQ x).data.toList.isEmpty
theorem raw_msg (k a b c : Int) : noX (msgQ (rawS k a b c)) ∧ (msgQ (rawS k a b c)).size ≤ 62 := by
 have h := all_raw okM (by decide +kernel) (by decide +kernel) (by decide +kernel) (by decide +kernel) k a b c
 unfold okM at h
 simp only [Bool.and_eq_true, decide_eq_true_eq, Bool.not_eq_true'] at h
 refine ⟨fun hm => ?_, h.1.1.2⟩
 have := h.1.1.1
 rw [List.contains_iff_mem.2 hm] at this
 cases this
theorem msgQ_text {x : St} (h : (msgQ x).size ≤ 122) : (textOf x).size ≤ 120 := by
 unfold msgQ at h
 rw [msg_size] at h
 omega
set_option maxRecDepth 100000 in
theorem message_any (x : St) (w : World) (hT : Tabs w) (hx : checkE x = 0) (hk : x.key.size ≤ maxLen) (hv : x.val.size ≤ maxLen) (hm : (textOf x).size ≤ 120) :
  Calls Tryz.prog 20 #[x.v] w fun e w' => e = .returned (.string (msgQ x)) ∧ Below w.heap.size w w' := by
 have HT := Lib.hid hT
 have HS := Lib.hid (fun (w : World) (hT : Tabs w) => show_any x w hT hk hv)
 have HP := Lib.hid (fun (w : World) => pack_any 81 (textOf x) w (by unfold maxLen; omega))
 have hs : showS x = textOf x := by unfold showS; rw [if_pos hx]
 have hp : packS 81 (textOf x) = msgQ x := by unfold packS; rw [if_neg (by omega)]; rfl
 have hp2 : packE (textOf x) = 0 := by unfold packE; rw [if_neg (by omega)]
 rw [hp, hp2] at HP
 rw [hs, hx] at HS
 clear hT hk hv hm hx hs hp hp2
 obtain ⟨t, ht⟩ : ∃ t, textOf x = t := ⟨_, rfl⟩
 obtain ⟨m, hm⟩ : ∃ m, msgQ x = m := ⟨_, rfl⟩
 rw [ht, hm] at HP
 rw [ht] at HS
 rw [hm]
 clear ht hm
 obtain ⟨k, key, val⟩ := x
 unfold St.v at *
 go_enter Tryz.func20, Tryz.ntmps20
 go_wp2_with fail
 refine (HS.out _ (HT.out.below (boxed w _))).mono ?_
 rintro e w1 ⟨rfl, b1⟩
 have B1 := Lib.hid (below_step (boxed w _) (Nat.le_refl _) b1)
 clear b1
 go_wp2_with fail
 refine (HP.out _).mono ?_
 rintro e w2 ⟨rfl, b2⟩
 have B2 := Lib.hid (below_step B1.out (Nat.le_refl _) b2)
 clear b2 B1
 go_wp2_with fail
 go_ret
 exact ⟨rfl, B2.out⟩
theorem raw_message (k a b c : Int) (w : World) (hT : Tabs w) : Calls Tryz.prog 20 #[(rawS k a b c).v] w fun e w' => e = .returned (.string (msgQ (rawS k a b c))) ∧ Below w.heap.size w w' := by
 have hz := raw_size k a b c
 refine message_any _ w hT (raw_ok k a b c).1 ?_ ?_ (msgQ_text (Nat.le_trans (raw_msg k a b c).2 (by decide)))
 ·unfold maxLen; omega
 ·unfold maxLen; omega
theorem ksetup_any (m n : Int) (w : World) (hm : (Lit.int .i64 m).wf = true) (hn : (Lit.int .i64 n).wf = true) :
  Calls Tryz.prog 15 #[.int .i64 m, .int .i64 n] w fun e w' => e = .returned (.agg #[.int .i64 (1 + pick m 3), .int .i64 (1 + pick n 4)]) ∧ Below w.heap.size w w' := by
 have HM := Lib.hid hm
 have HN := Lib.hid hn
 obtain ⟨a0, a1⟩ := pick_bd m 3 (by decide)
 obtain ⟨b0, b1⟩ := pick_bd n 4 (by decide)
 obtain ⟨i, hi⟩ : ∃ i, pick m 3 = i := ⟨_, rfl⟩
 obtain ⟨j, hj⟩ : ∃ j, pick n 4 = j := ⟨_, rfl⟩
 rw [hi] at a0 a1 ⊢
 rw [hj] at b0 b1 ⊢
 have HI := Lib.hid hi
 have HJ := Lib.hid hj
 clear hm hn hi hj
 go_enter Tryz.func15, Tryz.ntmps15
 go_wp2_with fail
 refine (picked_any _ _ _ HM.out (by decide) (by decide)).mono ?_
 rintro e w2 ⟨rfl, rfl⟩
 rw [HI.out]
 go_wp2_with fail
 refine (picked_any _ _ _ HN.out (by decide) (by decide)).mono ?_
 rintro e w3 ⟨rfl, rfl⟩
 rw [HJ.out]
 go_wp2_with fail
 have y := Blk.new w 23 #[.int .i64 (1 + i), .int .i64 (1 + j)]
 have B := boxed w (.cells #[.int .i64 (1 + i), .int .i64 (1 + j)] 23)
 generalize World.alloc _ _ = w2 at y B ⊢
 have z0 := y.cell_ 0 _ rfl
 have z1 := y.cell_ 1 _ rfl
 exact bodyPost_ret (v := .agg #[.int .i64 (1 + i), .int .i64 (1 + j)]) (by simp [results, Tryz.results15, go_sem, z0, z1]) rfl ⟨rfl, B⟩
end Go.Proofs.YtjbnfigpflambacGreatDoor
