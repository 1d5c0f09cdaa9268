/- tillermantop.played. Plain laws, no program: every row was written by a client that was answered so; a client gets its own settings alone. The pool's outcome is the house's. slices.Equal on deeds, on texts and tillermantop.same, for what is the same. Small laws on an outcome in memory that the tops share. Plain laws on messages: what a packed text holds, and where it is cut. Plain part of TopSaid, and its small contracts. The walk of TopTwice: it returns true. The walk of TopSaid: it returns true. tillermankeep.answers: the texts of a row of answers. AloneSame: its acts and what it holds in memory. -/
import Derived.Test.YtjbnfigpflambacGreatDoorG03
import Derived.Test.YtjbnfigpflambacGreatDoorG04
import Derived.Test.YtjbnfigpflambacGreatDoorG07
import Derived.Test.YtjbnfigpflambacGreatDoorG21
import Derived.Test.YtjbnfigpflambacGreatDoorG24
import Derived.Test.YtjbnfigpflambacGreatDoorG25
import Derived.Test.YtjbnfigpflambacGreatDoorG27
import Derived.Test.YtjbnfigpflambacGreatDoorG28
import Derived.Test.YtjbnfigpflambacGreatDoorG29
import Derived.Test.YtjbnfigpflambacGreatDoorG34
/- tillermantop.played. -/
namespace Go.Proofs.YtjbnfigpflambacGreatDoor
open Go.ChangeShapes Go.WideShapes Go.ChangeAt Go.RowKit
theorem OutR.keeps {w w' : World} {B : Nat} {vs vd vr : Value} {o : Outc} (h : OutR w B vs vd vr o) (k1 : Keeps 9 w w') (k2 : Keeps 71 w w') (k3 : Keeps 60 w w') : OutR w' B vs vd vr o :=
 ⟨h.sent.ofKeeps k1, h.deeds.ofKeeps k2, h.rows.keeps k3⟩
theorem OutR.keep {w w' : World} {B : Nat} {vs vd vr : Value} {o : Outc} (h : OutR w B vs vd vr o) (hb : Below w.heap.size w w') : OutR w' B vs vd vr o := h.keeps (.of_below hb) (.of_below hb) (.of_below hb)
theorem OwnO.base {w : World} {B B' : Nat} {e : TypeId} {size n : Nat} {v : Value} {xs : List Value} (h : OwnO w B e size v n xs) (hB : B' ≤ B) : OwnO w B' e size v n xs := by
 obtain ⟨h1, h2⟩ := h
 refine ⟨h1, h2.imp id ?_⟩
 rintro ⟨g, off, cap, cs, e, hb, r⟩
 exact ⟨g, off, cap, cs, e, by omega, r⟩
theorem OutR.base {w : World} {B B' : Nat} {vs vd vr : Value} {o : Outc} (h : OutR w B vs vd vr o) (hB : B' ≤ B) : OutR w B' vs vd vr o := ⟨h.sent.base hB, h.deeds.base hB, h.rows.base hB⟩
structure BoxO (w : World) (B z : Nat) (vs vd vr : Value) (o : Outc) : Prop where
 lb : B ≤ z
 blk : Blk w z 29 #[vs, vd, vr]
 out : OutR w B vs vd vr o
theorem BoxO.keep {w w' : World} {B z : Nat} {vs vd vr : Value} {o : Outc} (h : BoxO w B z vs vd vr o) (hb : Below w.heap.size w w') : BoxO w' B z vs vd vr o := ⟨h.lb, h.blk.keep hb, h.out.keep hb⟩
structure PlS (w0 wx : World) (z4 z6 : Nat) (c vs vd vr : Value) (o : Outc) : Prop where
 hb : Below w0.heap.size w0 wx
 l4 : w0.heap.size ≤ z4
 c6 : wx.cell? ⟨z6, 0, none⟩ = some vs
 b4 : ∃ x y z, Blk wx z4 29 #[x, y, z] ∧ (c = .bool true → x = vs ∧ y = vd ∧ z = vr)
 ne : z6 ≠ z4
 out : OutR wx w0.heap.size vs vd vr o
theorem PlS.store {w0 wx : World} {z4 z6 : Nat} {c vs vd vr : Value} {o : Outc} (h : PlS w0 wx z4 z6 c vs vd vr o) : PlS w0 (((wx.setCell ⟨z4, 0, none⟩ vs).setCell ⟨z4, 1, none⟩ vd).setCell ⟨z4, 2, none⟩ vr) z4 z6 (.bool true) vs vd vr o := by
 obtain ⟨x, y, z, b, _⟩ := h.b4
 have s0 := b.set_ 0 vs
 have s1 := s0.set_ 1 vd
 have s2 := s1.set_ 2 vr
 have k : ∀ t, 29 ≠ t → Keeps t wx (((wx.setCell ⟨z4, 0, none⟩ vs).setCell ⟨z4, 1, none⟩ vd).setCell ⟨z4, 2, none⟩ vr) := fun t ht =>
  ((Keeps.set_ (p := ⟨z4, 0, none⟩) b ht vs).trans (Keeps.set_ (p := ⟨z4, 1, none⟩) s0 ht vd)).trans (Keeps.set_ (p := ⟨z4, 2, none⟩) s1 ht vr)
 refine ⟨((h.hb.setCell (p := ⟨z4, 0, none⟩) h.l4 _).setCell (p := ⟨z4, 1, none⟩) h.l4 _).setCell (p := ⟨z4, 2, none⟩) h.l4 _, h.l4, ?_, ⟨_, _, _, s2, fun _ => ⟨rfl, rfl, rfl⟩⟩, h.ne, h.out.keeps (k _ (by decide)) (k _ (by decide)) (k _ (by decide))⟩
 have e : ∀ (u : World) (j : Nat) (v : Value), (u.setCell ⟨z4, j, none⟩ v).cell? ⟨z6, 0, none⟩ = u.cell? ⟨z6, 0, none⟩ := fun u j v => World.cell?_setCell_other u _ _ v (fun e => h.ne (congrArg Addr.block e).symm)
 rw [e, e, e]
 exact h.c6
theorem out_six (mode : Int) (n : Nat) (l : List Ac) : (outM mode n l).sent.length = 6 := by
 unfold outM
 rw [List.length_map, List.length_range]
end Go.Proofs.YtjbnfigpflambacGreatDoor
/- Plain laws, no program: every row was written by a client that was answered so; a client gets its own settings alone. -/
namespace Go.Proofs.YtjbnfigpflambacGreatDoor
def Wrote (ds : List De) (p : Pr) : Prop := ∃ d ∈ ds, d.a.kind = 1 ∧ ((d.x.k = 10 ∧ d.x.key = p.k ∧ d.x.val = p.v) ∨ d.x.k = 8)
theorem Wrote.more {ds : List De} {p : Pr} (h : Wrote ds p) (l : List De) : Wrote (ds ++ l) p := by
 obtain ⟨d, hd, h⟩ := h
 exact ⟨d, List.mem_append_left _ hd, h⟩
def SetBy (ds : List De) (j : Nat) (p : Pr) : Prop := ∃ d ∈ ds, d.c = j ∧ d.x.k = 9 ∧ d.x.key = p.k ∧ d.x.val = p.v ∧ d.a.kind = 1
theorem SetBy.more {ds : List De} {j : Nat} {p : Pr} (h : SetBy ds j p) (l : List De) : SetBy (ds ++ l) j p := by
 obtain ⟨d, hd, h⟩ := h
 exact ⟨d, List.mem_append_left _ hd, h⟩
def Fair (ds : List De) : Prop := ∀ l1 d l2, ds = l1 ++ d :: l2 → d.x.k = 6 → d.a.kind = 2 → SetBy l1 d.c ⟨d.x.key, d.a.text⟩
theorem Fair.snoc {ds : List De} (h : Fair ds) (d : De) (hd : d.x.k = 6 → d.a.kind = 2 → SetBy ds d.c ⟨d.x.key, d.a.text⟩) : Fair (ds ++ [d]) := by
 intro l1 e l2 he h6 h2
 rcases List.append_eq_append_iff.1 he with ⟨m, e1, e2⟩ | ⟨m, e1, e2⟩
 ·rcases m with _ | ⟨a, m⟩
  ·simp only [List.nil_append, List.append_nil, List.cons.injEq] at e1 e2
   rw [e1, ← e2.1]
   rw [← e2.1] at h6 h2
   exact hd h6 h2
  ·simp at e2
 ·rcases m with _ | ⟨a, m⟩
  ·simp only [List.nil_append, List.append_nil, List.cons.injEq] at e1 e2
   rw [← e1, e2.1]
   rw [e2.1] at h6 h2
   exact hd h6 h2
  ·simp only [List.cons_append, List.cons.injEq] at e2
   rw [← e2.1] at e1
   exact h l1 e m e1 h6 h2
end Go.Proofs.YtjbnfigpflambacGreatDoor
/- The pool's outcome is the house's. -/
namespace Go.Proofs.YtjbnfigpflambacGreatDoor
open Go.RowKit
noncomputable def outH (y : Fr × Wo) : Outc := ⟨(List.range 6).map fun c => (y.1.c c).sent, y.1.deeds, y.2.rows⟩
theorem out_house (mode : Int) (n : Nat) (hn : n ≤ 8) (l : List Ac) (hl : ∀ a ∈ l, a.c.toNat < 6) : outM mode n l = outH (runM houseB (startF mode n, startH) l) := by
 have h := run_sim mode n hn l hl
 unfold outM outH
 rw [h.front, h.rb.rows]
end Go.Proofs.YtjbnfigpflambacGreatDoor
/- slices.Equal on deeds, on texts and tillermantop.same, for what is the same. -/
namespace Go.Proofs.YtjbnfigpflambacGreatDoor
open Go.ChangeShapes Go.WideShapes Go.ChangeAt Go.RowKit
structure DeAt (w : World) (p : Addr) (d : De) : Prop where
 c : w.cell? p = some (.int .i64 (d.c : Int))
 k : w.cell? ⟨p.block, p.off + 1, none⟩ = some (.int .i64 d.x.k)
 key : w.cell? ⟨p.block, p.off + 2, none⟩ = some (.string d.x.key)
 val : w.cell? ⟨p.block, p.off + 3, none⟩ = some (.string d.x.val)
 kind : w.cell? ⟨p.block, p.off + 4, none⟩ = some (.int .i64 d.a.kind)
 text : w.cell? ⟨p.block, p.off + 5, none⟩ = some (.string d.a.text)
 st : w.cell? ⟨p.block, p.off + 6, none⟩ = some (.int .i64 d.a.st)
theorem DeAt.below {w w' : World} {B : Nat} {p : Addr} {x : De} (h : DeAt w p x) (hp : p.block < B) (hb : Below B w w') : DeAt w' p x :=
 ⟨(hb.cell hp).trans h.c, (hb.cell (by exact hp)).trans h.k, (hb.cell (by exact hp)).trans h.key, (hb.cell (by exact hp)).trans h.val, (hb.cell (by exact hp)).trans h.kind, (hb.cell (by exact hp)).trans h.text, (hb.cell (by exact hp)).trans h.st⟩
theorem OwnO.most {w : World} {B : Nat} {e : TypeId} {size n : Nat} {v : Value} {xs : List Value} (h : OwnO w B e size v n xs) : n ≤ maxLen := by
 rcases h.2 with ⟨_, rfl⟩ | ⟨_, _, _, _, _, _, _, h1, h2, _⟩
 ·exact Nat.zero_le _
 ·omega
theorem own_strs {w : World} {B n : Nat} {v : Value} {l : List ByteArray} (h : OwnO w B 9 1 v n (l.map .string)) (hn : 0 < n) : ∃ g off cap, v = .slice (some ⟨g, off, none⟩) n cap ∧ ∀ j, j < l.length → w.cell? ⟨g, off + j, none⟩ = some (.string (l.getD j ByteArray.empty)) := by
 obtain ⟨A, c, e, _, r⟩ := h.reads
 rcases h.2 with ⟨_, h0⟩ | ⟨g, off, cap, cur, e2, _⟩
 ·omega
 ·obtain ⟨a, hA, _, hc⟩ := r.2 hn
  rw [e2] at e
  injection e with e3 e4 e5
  rw [hA] at e3
  injection e3 with e3
  subst e3
  refine ⟨g, off, cap, e2, fun j hj => ?_⟩
  have := hc j _ (by rw [List.getElem?_map, List.getElem?_eq_getElem hj]; rfl)
  rw [List.getD_eq_getElem?_getD, List.getElem?_eq_getElem hj]
  unfold Addr.add at this
  split at this
  ·rename_i h0
   subst h0
   exact this
  ·exact this
theorem strs_same (w : World) (B1 B2 n : Nat) (u v : Value) (l : List ByteArray) (hn : l.length = n) (hu : OwnO w B1 9 1 u n (l.map .string)) (hv : OwnO w B2 9 1 v n (l.map .string)) :
  Calls Tryz.prog 22 #[u, v] w fun e w' => e = .returned (.bool true) ∧ Below w.heap.size w w' := by
 have hm := hu.most
 unfold maxLen at hm
 rcases Nat.eq_zero_or_pos n with h0 | h0
 ·subst h0
  obtain ⟨A1, c1, rfl, _⟩ := hu.form
  obtain ⟨A2, c2, rfl, _⟩ := hv.form
  refine (Tryz.slices_Equal_string_empty A1 A2 c1 0 c2 w (by omega)).mono ?_
  rintro e w' ⟨rfl, rfl⟩
  exact ⟨by simp, Below.refl _ _⟩
 ·obtain ⟨b1, o1, c1, rfl, r1⟩ := own_strs hu h0
  obtain ⟨b2, o2, c2, rfl, r2⟩ := own_strs hv h0
  refine (Tryz.slices_Equal_string b1 o1 n c1 b2 o2 n c2 l l w (by omega) (by omega) (by omega) (by omega) r1 r2).mono ?_
  rintro e w' ⟨rfl, q, rfl⟩
  exact ⟨by simp, below_drewN (Below.refl _ _) q⟩
end Go.Proofs.YtjbnfigpflambacGreatDoor
/- Small laws on an outcome in memory that the tops share. -/
namespace Go.Proofs.YtjbnfigpflambacGreatDoor
open Go.ChangeShapes Go.WideShapes Go.ChangeAt Go.RowKit
theorem boxO_new {w w1 : World} {B : Nat} {vs vd vr : Value} {o : Outc} (h : OutR w1 w.heap.size vs vd vr o) (hb : Below w.heap.size w w1) (hB : B ≤ w.heap.size) : BoxO (w1.alloc (.cells #[vs, vd, vr] 29)) B w1.heap.size vs vd vr o :=
 ⟨Nat.le_trans hB hb.size, Blk.new w1 _ _, (h.keep (boxed w1 _)).base hB⟩
theorem outR_form {w : World} {B : Nat} {vs vd vr : Value} {o : Outc} (h : OutR w B vs vd vr o) : ∃ A1 c1 A2 c2 A3 c3, vs = .slice A1 o.sent.length c1 ∧ vd = .slice A2 o.deeds.length c2 ∧ vr = .slice A3 o.rows.length c3 := by
 obtain ⟨A1, c1, h1, _⟩ := h.sent.form
 obtain ⟨A2, c2, h2, _⟩ := h.deeds.form
 obtain ⟨A3, c3, h3⟩ := h.rows.form
 exact ⟨A1, c1, A2, c2, A3, c3, h1, h2, h3⟩
theorem DeAt.lt {w : World} {p : Addr} {x : De} (h : DeAt w p x) : p.block < w.heap.size := World.block_lt_of_cell? w _ h.c
end Go.Proofs.YtjbnfigpflambacGreatDoor
/- Plain laws on messages: what a packed text holds, and where it is cut. -/
namespace Go.Proofs.YtjbnfigpflambacGreatDoor
open Go.ChangeShapes Go.WideShapes Go.ChangeAt Go.RowKit
theorem unpack_msg (k : UInt8) (t more : ByteArray) (w : World) (ht : t.size ≤ 120) (hm : (msg k t ++ more).size ≤ maxLen) :
  Calls Tryz.prog 30 #[.string (msg k t ++ more)] w fun e w' => e = .returned (.tuple #[.int .u8 (k.toNat : Int), .string t, .int .i64 (2 + (t.size : Int))]) ∧ ∃ n, w' = w.drewN n := by
 have hsz : (msg k t ++ more).size = 2 + t.size + more.size := by rw [ByteArray.size_append, msg_size]
 obtain ⟨e0, e1⟩ := msg_at (k := k) (t := t) (more := more) (by omega) (by omega)
 have hb : (UInt8.ofNat t.size).toNat = t.size := by simp; omega
 have h := unpack_ok (msg k t ++ more) k (UInt8.ofNat t.size) w (by omega) (by omega) e0 e1 (by omega) hm
 rw [hb, msg_text] at h
 exact h
end Go.Proofs.YtjbnfigpflambacGreatDoor
/- Plain part of TopSaid, and its small contracts. -/
namespace Go.Proofs.YtjbnfigpflambacGreatDoor
open Go.RowKit
theorem tell_fit (a : An) (w : World) (h : fitA a.kind a.text a.st = true) : Calls Tryz.prog 18 #[.agg #[.int .i64 a.kind, .string a.text, .int .i64 a.st]] w fun e w' => e = .returned (.tuple #[.string (tellA a), .int .i64 0]) ∧ Below w.heap.size w w' := by
 obtain ⟨h1, h2, h3, h4, h5, h6⟩ := (fit_iff a.kind a.text a.st).1 h
 have e : tellA a = stB a.st ++ bodyB a.kind a.text := by unfold tellA tellS; rw [if_pos h]
 rw [e]
 exact tell_ok a.kind a.text a.st w h1 h2 h3 h4 h5 h6
theorem catM_sz : ∀ (ts : List ByteArray), (∀ t ∈ ts, t.size ≤ 62) → (catM ts).size ≤ ts.length * 64
 | [], _ => Nat.le_refl _
 | t :: ts, h => by
  have ih := catM_sz ts fun x hx => h x (List.mem_cons_of_mem _ hx)
  have := h t List.mem_cons_self
  rw [cat_cons, ByteArray.size_append, msg_size, List.length_cons]
  omega
theorem cat_rest (t : ByteArray) (ts : List ByteArray) : (catM (t :: ts)).extract (2 + t.size) (catM (t :: ts)).size = catM ts := by
 rw [cat_cons]
 apply arr_eq
 rw [extract_list]
 have hl : (msg 82 t ++ catM ts).data.toList = (msg 82 t).data.toList ++ (catM ts).data.toList := by simp
 have hm : (msg 82 t).data.toList.length = 2 + t.size := by
  have := msg_size (k := 82) (t := t)
  simpa using this
 rw [hl, List.drop_append, hm, Nat.sub_self, List.drop_zero, List.drop_of_length_le (by omega), List.nil_append]
 refine List.take_of_length_le ?_
 rw [ByteArray.size_append, msg_size]
 simp
theorem cat_ne (t : ByteArray) (ts : List ByteArray) : ¬ catM (t :: ts) = ⟨#[]⟩ := by
 intro h
 have := congrArg ByteArray.size h
 rw [cat_cons, ByteArray.size_append, msg_size] at this
 have e : (⟨#[]⟩ : ByteArray).size = 0 := rfl
 omega
end Go.Proofs.YtjbnfigpflambacGreatDoor
/- The walk of TopTwice: it returns true. -/
namespace Go.Proofs.YtjbnfigpflambacGreatDoor
open Go.ChangeShapes Go.WideShapes Go.ChangeAt Go.RowKit
structure TwS (wr wx : World) (z : Option Nat) (rs : List (Value × List Ac)) (X : Option (Value × Value × Value × Outc)) : Prop where
 hb : Below wr.heap.size wr wx
 bz : ∀ q, z = some q → Blk wx q 29 #[.slice none 0 0, .slice none 0 0, .slice none 0 0] ∧ wr.heap.size ≤ q
 rows : ∀ p ∈ rs, wx.ownsRow wr.heap.size 54 3 p.1 p.2.length (acV p.2)
 out : ∀ vs vd vr o, X = some (vs, vd, vr, o) → OutR wx wr.heap.size vs vd vr o
section
variable {wr wx wy : World} {z : Option Nat} {rs : List (Value × List Ac)} {X : Option (Value × Value × Value × Outc)}
theorem ownsRow_base {w : World} {B B' : Nat} {t : TypeId} {size n : Nat} {v : Value} {xs : List Value} (h : w.ownsRow B t size v n xs) (hB : B' ≤ B) : w.ownsRow B' t size v n xs := by
 refine ⟨h.1, h.2.imp id ?_⟩
 rintro ⟨g, cap, cur, e, hb, r⟩
 exact ⟨g, cap, cur, e, Nat.le_trans hB hb, r⟩
theorem own_ge {w : World} {B : Nat} {t : TypeId} {size n : Nat} {v : Value} {xs : List Value} (h : w.ownsRow B t size v n xs) : ∀ k, v.ownBlock = some k → B ≤ k := fun k hk => (OwnO.of_own h).lt k hk |>.1
theorem TwS.start (wr : World) : TwS wr wr none [] none := ⟨Below.refl _ _, fun _ h => (by cases h), fun _ h => (by cases h), fun _ _ _ _ h => (by cases h)⟩
theorem TwS.keep (h : TwS wr wx z rs X) (hb : Below wx.heap.size wx wy) : TwS wr wy z rs X :=
 ⟨below_step h.hb (Nat.le_refl _) hb, fun q hq => ⟨(h.bz q hq).1.keep hb, (h.bz q hq).2⟩, fun p hp => (Keeps.of_below hb).own (h.rows p hp), fun vs vd vr o e => (h.out vs vd vr o e).keep hb⟩
theorem TwS.fz (h : TwS wr wx none rs X) : TwS wr (wx.alloc (.cells #[.slice none 0 0, .slice none 0 0, .slice none 0 0] 29)) (some wx.heap.size) rs X := by
 have k := h.keep (boxed wx (.cells #[.slice none 0 0, .slice none 0 0, .slice none 0 0] 29))
 exact ⟨k.hb, fun q hq => (by injection hq with hq; subst hq; exact ⟨Blk.new wx _ _, h.hb.size⟩), k.rows, k.out⟩
theorem TwS.add (h : TwS wr wx z rs X) (hb : Below wx.heap.size wx wy) {v : Value} {l : List Ac} (o : wy.ownsRow wx.heap.size 54 3 v l.length (acV l)) : TwS wr wy z ((v, l) :: rs) X := by
 have k := h.keep hb
 refine ⟨k.hb, k.bz, fun p hp => ?_, k.out⟩
 rcases List.mem_cons.1 hp with rfl | hp
 ·exact ownsRow_base o h.hb.size
 ·exact k.rows p hp
structure TwN (W0 wr wy : World) (z : Nat) (vs vd vr : Value) (o : Outc) : Prop where
 hb : Below wr.heap.size wr wy
 box : BoxO wy W0.heap.size z vs vd vr o
theorem TwS.fin {W0 : World} {q : Nat} {vs vd vr : Value} {o : Outc} (h : TwS wr wx (some q) rs (some (vs, vd, vr, o))) (hW : W0.heap.size ≤ wr.heap.size) (e : wy = ((wx.setCell ⟨q, 0, none⟩ vs).setCell ⟨q, 1, none⟩ vd).setCell ⟨q, 2, none⟩ vr) : TwN W0 wr wy q vs vd vr o := by
 subst e
 obtain ⟨b, lb⟩ := h.bz _ rfl
 have s0 := b.set_ 0 vs
 have s1 := s0.set_ 1 vd
 have s2 := s1.set_ 2 vr
 have k : ∀ t, 29 ≠ t → Keeps t wx (((wx.setCell ⟨q, 0, none⟩ vs).setCell ⟨q, 1, none⟩ vd).setCell ⟨q, 2, none⟩ vr) := fun t ht =>
  ((Keeps.set_ (p := ⟨q, 0, none⟩) b ht vs).trans (Keeps.set_ (p := ⟨q, 1, none⟩) s0 ht vd)).trans (Keeps.set_ (p := ⟨q, 2, none⟩) s1 ht vr)
 exact ⟨((h.hb.setCell (p := ⟨q, 0, none⟩) lb _).setCell (p := ⟨q, 1, none⟩) lb _).setCell (p := ⟨q, 2, none⟩) lb _, Nat.le_trans hW lb, s2, ((h.out _ _ _ _ rfl).base hW).keeps (k _ (by decide)) (k _ (by decide)) (k _ (by decide))⟩
end
theorem TwS.drew (wr : World) : TwS wr wr.drew none [] none := (TwS.start wr).keep (Below.refl _ _).drew
theorem sent_at {w : World} {B n cap : Nat} {A : Option Addr} {vd vr : Value} {o : Outc} (h : OutR w B (.slice A n cap) vd vr o) (h6 : o.sent.length = 6) {k : Nat} (hk : k < 6) : n = 6 ∧ 6 ≤ cap ∧ ∃ ad, A = some ad ∧ w.cell? (ad.add k) = some (.string (o.sent.getD k ByteArray.empty)) := by
 have h1 := h.sent
 rw [h6] at h1
 obtain ⟨A', c', e, hc, r⟩ := h1.reads
 injection e with e1 e2 e3
 subst e1 e2 e3
 obtain ⟨ad, e, _, hx⟩ := r.2 (by decide)
 refine ⟨rfl, hc, ad, e, ?_⟩
 refine hx k _ ?_
 rw [List.getElem?_map, List.getElem?_eq_getElem (by omega), List.getD_eq_getElem?_getD, List.getElem?_eq_getElem (by omega)]
 rfl
end Go.Proofs.YtjbnfigpflambacGreatDoor
/- The walk of TopSaid: it returns true. -/
namespace Go.Proofs.YtjbnfigpflambacGreatDoor
open Go.ChangeShapes Go.WideShapes Go.ChangeAt Go.RowKit
theorem one_str (t : ByteArray) : ∀ u ∈ [Value.string t], u.oneCell' = true := by
 intro u hu
 rw [List.mem_singleton] at hu
 rw [hu]
 rfl
def strSz : Value → Nat
 | .string t => t.size
 | _ => 0
theorem meas_lt {S T : ByteArray} {a : Nat} (h : S.extract a S.size = T) (hz : S.size = a + T.size) (ha : 0 < a) : strSz (.string (S.extract a S.size)) < strSz (.string S) := by
 show (S.extract a S.size).size < S.size
 rw [h]
 omega
end Go.Proofs.YtjbnfigpflambacGreatDoor
/- tillermankeep.answers: the texts of a row of answers. -/
namespace Go.Proofs.YtjbnfigpflambacGreatDoor
open Go.ChangeShapes Go.WideShapes Go.ChangeAt Go.RowKit
set_option maxHeartbeats 8000000 in
set_option maxRecDepth 100000 in
theorem answers_any (w : World) (ts : List ByteArray) (h62 : ∀ t ∈ ts, t.size ≤ 62) (hn : ts.length ≤ 60000) :
  Calls Tryz.prog 21 #[.string (catM ts)] w fun e w' => ∃ v, e = .returned (.tuple #[v, .bool true]) ∧ w'.ownsRow w.heap.size 9 1 v ts.length (ts.map .string) ∧ Below w.heap.size w w' := by
 obtain ⟨i0, hi0, hz0, hz1, hz2⟩ := info_parts str_info
 have H62 := Lib.hid h62
 have HN := Lib.hid hn
 clear h62
 go_enter Tryz.func21, Tryz.ntmps21
 go_upto_region 2 with fail
 go_loopw [0, 4] (fun s u wx => ∃ (dn tl : List ByteArray), ts = dn ++ tl ∧ s = .string (catM tl) ∧ wx.ownsRow w.heap.size 9 1 u dn.length (dn.map .string) ∧ Below w.heap.size w wx) (fun s _ _ => strSz s)
 case atStart => exact ⟨[], ts, rfl, rfl, World.ownsRow_nil _ _ _ _, Below.refl _ _⟩
 case round =>
  obtain ⟨dn, tl, hts, rfl, ho, hb⟩ := hrel
  have HB := Lib.hid hb
  have HO := Lib.hid ho
  have HTS := Lib.hid hts
  rcases tl with _ | ⟨t, tl⟩
  ·rw [show catM [] = ⟨#[]⟩ from rfl]
   have HE := Lib.hid (show ts = dn by have := HTS.out; simpa using this)
   clear hts ho hb
   go_wp2_with fail
   go_ret2
   exact ⟨_, rfl, by rw [HE.out]; exact HO.out, HB.out⟩
  ·have ht62 := H62.out t (by rw [hts]; simp)
   have hl62 : ∀ x ∈ tl, x.size ≤ 62 := fun x hx => H62.out x (by rw [hts]; exact List.mem_append_right _ (List.mem_cons_of_mem _ hx))
   have hlen : dn.length + (tl.length + 1) = ts.length := by rw [hts, List.length_append, List.length_cons]
   have hcz : (catM (t :: tl)).size = 2 + t.size + (catM tl).size := by rw [cat_cons, ByteArray.size_append, msg_size]
   have hcb := catM_sz tl hl62
   have HU : Hid (∀ w : World, Calls Tryz.prog 30 #[.string (catM (t :: tl))] w fun e w' => e = .returned (.tuple #[.int .u8 82, .string t, .int .i64 (2 + (t.size : Int))]) ∧ ∃ n, w' = w.drewN n) := Lib.hid fun w => by
    rw [cat_cons]
    exact unpack_msg 82 t (catM tl) w (by omega) (by rw [← cat_cons]; unfold maxLen; omega)
   have HR := Lib.hid (cat_rest t tl)
   have hne : ¬ (catM (t :: tl)).toList = [] := fun h => cat_ne t tl (str_inj (h.trans (by rw [toList_data])))
   have hne1 : (catM (t :: tl)).toList.isEmpty = false := List.isEmpty_eq_false_iff.2 hne
   obtain ⟨S, hS⟩ : ∃ S, catM (t :: tl) = S := ⟨_, rfl⟩
   rw [hS] at hcz hne hne1 HU HR ⊢
   obtain ⟨nn, hnn⟩ : ∃ nn : Nat, 2 + t.size = nn := ⟨_, rfl⟩
   rw [show (2 + (t.size : Int)) = (nn : Int) by omega] at HU
   rw [hnn] at HR hcz
   have g5 : ¬ ((nn : Int) = 0) := by omega
   have g5' : ((nn : Int) == 0) = false := by simp; omega
   have g6 : (0 : Int) ≤ (nn : Int) := by omega
   have g7 : (nn : Int) ≤ (S.size : Int) := by omega
   have HCZ := Lib.hid hcz
   have HNN := Lib.hid (show 0 < nn by omega)
   clear hS hnn hb ho hcz hts hcb hl62 ht62
   go_wp2_with fail
   refine (HU.out _).mono ?_
   rintro e w6 ⟨rfl, nd, rfl⟩
   have bd : Below wr.heap.size wr (wr.drewN nd) := below_drewN (Below.refl _ _) nd
   have B6 := Lib.hid (below_step HB.out (Nat.le_refl _) bd)
   have O6 := Lib.hid ((Keeps.of_below bd).own HO.out)
   generalize wr.drewN nd = w6 at B6 O6 ⊢
   clear HU bd HB HO
   have RD := Lib.hid (Reads.new_ w6 9 #[.string t] (n := 1) (size := 1) rfl)
   have bb := boxed w6 (.cells #[.string t] 9)
   have B7 := Lib.hid (below_step B6.out (Nat.le_refl _) bb)
   have O7 := Lib.hid ((Keeps.of_below bb).own O6.out)
   clear bb B6 O6
   go_wp2_with (at_builtin; refine wpList_append_any _ rfl (.tmp 23) (.tmp 25) 25 rfl w.heap.size 9 i0 _ 1 16 Tryz.underlying25 hi0 hz0 hz1 hz2 rfl (by decide) _ dn.length (dn.map .string) rfl O7.out (w6.heap.size + 1) (some ⟨w6.heap.size, 0, none⟩) 1 1 [.string t] rfl RD.out (one_str t) (by unfold maxLen; omega) (by omega) B7.out.size ?_; intro v' w8 hown hgr hat)
   have B8 := Lib.hid (B7.out.grown hgr B7.out.size fun j hj => own_ge O7.out j hj)
   have O8 := Lib.hid (show w8.ownsRow w.heap.size 9 1 v' (dn ++ [t]).length ((dn ++ [t]).map .string) by rw [List.length_append, List.map_append]; exact hown)
   clear hown hgr hat B7 O7 RD
   go_wp2_with fail
   go_roundw
   case rel => exact ⟨dn ++ [t], tl, by rw [HTS.out, List.append_assoc]; rfl, congrArg Value.string HR.out, O8.out, B8.out⟩
   case measure => exact meas_lt HR.out HCZ.out HNN.out
end Go.Proofs.YtjbnfigpflambacGreatDoor
/- AloneSame: its acts and what it holds in memory. -/
namespace Go.Proofs.YtjbnfigpflambacGreatDoor
open Go.ChangeShapes Go.WideShapes Go.ChangeAt Go.RowKit
theorem one_stmt {w : World} {g : Nat} {x : St} (h : Blk w g 41 #[.int .i64 x.k, .string x.key, .string x.val]) : StL w w.heap.size (.slice (some ⟨g, 0, none⟩) 1 1) [x] := by
 have add0 : ∀ n, (⟨g, 0, none⟩ : Addr).add n = ⟨g, n, none⟩ := fun n => by unfold Addr.add; split <;> simp_all
 refine ⟨some ⟨g, 0, none⟩, 1, rfl, by simp, fun _ => ⟨_, rfl, h.lt, fun i hi => ?_⟩⟩
 obtain rfl : i = 0 := by simpa using hi
 rw [add0]
 exact ⟨h.cell_ 0 _ rfl, h.cell_ 1 _ rfl, h.cell_ 2 _ rfl⟩
def acQ (c : Nat) (x : Rw) : Ac := ⟨1, (c : Int), msgQ x.st⟩
def alx (l : List Rw) : Wo × List ByteArray := alL (l.map Rw.st)
theorem raw_text (x : Rw) : TextFor (textOf x.st) x.st := ⟨msgQ_text (Nat.le_trans (raw_msg x.k x.a x.b x.c).2 (by decide)), (raw_ok x.k x.a x.b x.c).2.1, (raw_ok x.k x.a x.b x.c).2.2⟩
theorem alx_snoc (l : List Rw) (x : Rw) : alx (l ++ [x]) = ((doW (alx l).1 0 x.st).1, (alx l).2 ++ [tellA (doW (alx l).1 0 x.st).2]) := by
 unfold alx alL
 rw [List.map_append, List.foldl_append]
 rfl
theorem one_good : Good ⟨[], [Se.new]⟩ := good_new 1 (by decide)
theorem alx_good : ∀ (l : List Rw), Good (alx l).1 ∧ (alx l).1.ses.length = 1 := by
 intro l
 induction h : l.length generalizing l with
 | zero =>
  have : l = [] := List.eq_nil_of_length_eq_zero h
  subst this
  exact ⟨one_good, rfl⟩
 | succ n ih =>
  have hn : l ≠ [] := by rintro rfl; simp at h
  obtain ⟨m, x, rfl⟩ : ∃ m x, l = m ++ [x] := ⟨l.dropLast, l.getLast hn, (List.dropLast_concat_getLast hn).symm⟩
  have hm := ih m (by simpa using h)
  rw [alx_snoc]
  exact ⟨doW_good hm.1 (by rw [hm.2]; decide) (raw_ok x.k x.a x.b x.c).1, (doW_mine _ _ _).1.trans hm.2⟩
theorem alx_len (l : List Rw) : (alx l).2.length = l.length := by
 unfold alx alL
 rw [al_len]
 simp
theorem alx_sz : ∀ (l : List Rw), ∀ t ∈ (alx l).2, t.size ≤ 62 := by
 intro l
 induction h : l.length generalizing l with
 | zero =>
  have : l = [] := List.eq_nil_of_length_eq_zero h
  subst this
  intro t ht
  cases ht
 | succ n ih =>
  have hn : l ≠ [] := by rintro rfl; simp at h
  obtain ⟨m, x, rfl⟩ : ∃ m x, l = m ++ [x] := ⟨l.dropLast, l.getLast hn, (List.dropLast_concat_getLast hn).symm⟩
  have hm := ih m (by simpa using h)
  rw [alx_snoc]
  intro t ht
  rcases List.mem_append.1 ht with ht | ht
  ·exact hm t ht
  ·rw [List.mem_singleton] at ht
   rw [ht]
   exact tell_sz _
theorem doW_fit {V : Wo} (g : Good V) {i : Nat} (hi : i < V.ses.length) {x : St} (hx : checkE x = 0) : fitA (doW V i x).2.kind (doW V i x).2.text (doW V i x).2.st = true := by
 have l : i < (did V i x).1.ses.length := by rw [(did_mine V i x).1]; exact hi
 have e : ((doW V i x).1.se i).st = (doW V i x).2.st := by
  unfold doW
  rw [se_put _ l, if_pos rfl]
 have gs := (doW_good g hi hx).se (i := i) (by rw [(doW_mine V i x).1]; exact hi)
 exact fit_of (doW_ok g hi x) (by rw [← e]; exact gs.st0) (by rw [← e]; exact gs.st2)
theorem out_alone (mode : Int) (hm : mode ≠ 3) (n : Nat) (h1 : 1 ≤ n) (hn : n ≤ 8) {c : Nat} (hc : c < 6) (l : List Rw) : (outM mode n (l.map (acQ c))).sent.getD c ByteArray.empty = catM (alx l).2 ∧ (outM mode n (l.map (acQ c))).rows = (alx l).1.rows ∧ (outM mode n (l.map (acQ c))).deeds.length = l.length := by
 have h := alone_law mode hm n h1 hn hc (l.map fun x => (textOf x.st, x.st)) (by
  intro p hp
  obtain ⟨x, _, rfl⟩ := List.mem_map.1 hp
  exact raw_text x)
 rw [List.map_map, List.map_map] at h
 have e1 : (l.map ((fun p : ByteArray × St => (⟨1, (c : Int), msg 81 p.1⟩ : Ac)) ∘ fun x => (textOf x.st, x.st))) = l.map (acQ c) := rfl
 have e2 : (l.map ((fun p : ByteArray × St => p.2) ∘ fun x : Rw => (textOf x.st, x.st))) = l.map Rw.st := rfl
 rw [e1, e2] at h
 rw [out_house mode n hn _ (by
  intro a ha
  obtain ⟨x, _, rfl⟩ := List.mem_map.1 ha
  simpa [acQ] using hc)]
 have hl : (alL (l.map Rw.st)).2.length = l.length := alx_len l
 refine ⟨?_, h.2.1, h.2.2.trans hl⟩
 unfold outH
 rw [List.getD_eq_getElem?_getD, List.getElem?_map, List.getElem?_range hc]
 exact h.1
theorem acQ_ok {c : Nat} (hc : c < 6) (x : Rw) : AcOk (acQ c x) := ⟨.inl rfl, by show (0 : Int) ≤ (c : Int); omega, by show (c : Int) < 6; omega, Nat.le_trans (raw_msg x.k x.a x.b x.c).2 (by decide)⟩
structure AlAt (W0 wx : World) (qs q : Nat) (mode : Int) (n : Nat) (V : Wo) (ts : List ByteArray) (ac : List Ac) (va vw : Value) : Prop where
 bel : Below W0.heap.size W0 wx
 box : BoxW W0.heap.size wx q V
 set : Blk wx qs 23 #[.int .i64 mode, .int .i64 (n : Nat)]
 want : wx.ownsRow W0.heap.size 9 1 vw ts.length (ts.map .string)
 acts : wx.ownsRow W0.heap.size 54 3 va ac.length (acV ac)
 lq : W0.heap.size ≤ q
theorem AlAt.keep {W0 wx wy : World} {qs q : Nat} {mode : Int} {n : Nat} {V : Wo} {ts : List ByteArray} {ac : List Ac} {va vw : Value} (h : AlAt W0 wx qs q mode n V ts ac va vw) (hb : Below wx.heap.size wx wy) : AlAt W0 wy qs q mode n V ts ac va vw :=
 ⟨below_step h.bel (Nat.le_refl _) hb, h.box.keep hb, h.set.keep hb, (Keeps.of_below hb).own h.want, (Keeps.of_below hb).own h.acts, h.lq⟩
theorem AlAt.turn {W0 wx : World} {qs q : Nat} {mode : Int} {n : Nat} {V V2 : Wo} {ts : List ByteArray} {ac : List Ac} {va vw r s : Value} {cs : List Value} (h : AlAt W0 wx qs q mode n V ts ac va vw) (o1 : OPL wx W0.heap.size r V2.rows) (o2 : OSL wx W0.heap.size s V2.ses cs) :
  AlAt W0 ((wx.setCell ⟨q, 0, none⟩ r).setCell ⟨q, 1, none⟩ s) qs q mode n V2 ts ac va vw := by
 obtain ⟨r0, s0, hb, _⟩ := h.box.box
 have ne : qs ≠ q := h.set.ne_ hb (by decide)
 have k : ∀ t, 39 ≠ t → Keeps t wx ((wx.setCell ⟨q, 0, none⟩ r).setCell ⟨q, 1, none⟩ s) := fun t ht => (Keeps.set_ (p := ⟨q, 0, none⟩) hb ht _).trans (Keeps.set_ (p := ⟨q, 1, none⟩) (hb.set_ 0 r) ht _)
 exact ⟨(h.bel.setCell (p := ⟨q, 0, none⟩) h.lq _).setCell (p := ⟨q, 1, none⟩) h.lq _, h.box.turn o1 o2, (h.set.far (p := ⟨q, 0, none⟩) ne _).far (p := ⟨q, 1, none⟩) ne _, (k _ (by decide)).own h.want, (k _ (by decide)).own h.acts, h.lq⟩
theorem AlAt.more {W0 wx wy : World} {qs q : Nat} {mode : Int} {n : Nat} {V : Wo} {ts : List ByteArray} {ac : List Ac} {va vw vw' : Value} (h : AlAt W0 wx qs q mode n V ts ac va vw) (t : ByteArray) (hg : wx.grownBy wy vw.ownBlock) (ho : wy.ownsRow W0.heap.size 9 1 vw' (ts.length + 1) (ts.map .string ++ [.string t])) :
  AlAt W0 wy qs q mode n V (ts ++ [t]) ac va vw' := by
 obtain ⟨r0, s0, hb, o1, cs, o2⟩ := h.box.box
 have kp : ∀ ty, 9 ≠ ty → Keeps ty wx wy := fun ty ht => Keeps.grown (t' := 9) hg (own_row h.want) ht
 refine ⟨h.bel.grown hg h.bel.size (own_ge h.want), ⟨r0, s0, hb.grown hg fun e => own_blk_ne h.want hb (by decide) e.symm, o1.keeps (kp _ (by decide)), cs, osl_keeps o2 (kp _ (by decide)) (kp _ (by decide))⟩, h.set.grown hg fun e => own_blk_ne h.want h.set (by decide) e.symm, ?_, (kp _ (by decide)).own h.acts, h.lq⟩
 rw [List.length_append, List.map_append]
 exact ho
theorem AlAt.act {W0 wx wy : World} {qs q : Nat} {mode : Int} {n : Nat} {V : Wo} {ts : List ByteArray} {ac : List Ac} {va va' vw : Value} (h : AlAt W0 wx qs q mode n V ts ac va vw) (a : Ac) (hg : wx.grownBy wy va.ownBlock) (ho : wy.ownsRow W0.heap.size 54 3 va' (ac.length + 1) (acV ac ++ [.int .i64 a.kind, .int .i64 a.c, .string a.data])) :
  AlAt W0 wy qs q mode n V ts (ac ++ [a]) va' vw := by
 obtain ⟨r0, s0, hb, o1, cs, o2⟩ := h.box.box
 have kp : ∀ ty, 54 ≠ ty → Keeps ty wx wy := fun ty ht => Keeps.grown (t' := 54) hg (own_row h.acts) ht
 refine ⟨h.bel.grown hg h.bel.size (own_ge h.acts), ⟨r0, s0, hb.grown hg fun e => own_blk_ne h.acts hb (by decide) e.symm, o1.keeps (kp _ (by decide)), cs, osl_keeps o2 (kp _ (by decide)) (kp _ (by decide))⟩, h.set.grown hg fun e => own_blk_ne h.acts h.set (by decide) e.symm, (kp _ (by decide)).own h.want, ?_, h.lq⟩
 rw [List.length_append, acV_app]
 exact ho
end Go.Proofs.YtjbnfigpflambacGreatDoor
