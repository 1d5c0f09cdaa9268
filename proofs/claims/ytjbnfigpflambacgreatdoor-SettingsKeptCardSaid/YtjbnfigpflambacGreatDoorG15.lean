/- A server's session in the midst of a statement: a world of the call's own, in memory; what stores into it do. back.value, told, failed, keep; (server).put and (server).end. -/
import Derived.Test.YtjbnfigpflambacGreatDoorG10
import Derived.Test.YtjbnfigpflambacGreatDoorG14
/- A server's session in the midst of a statement: a world of the call's own, in memory; what stores into it do. -/
namespace Go.Proofs.YtjbnfigpflambacGreatDoor
open Go.ChangeShapes Go.WideShapes Go.ChangeAt Go.RowKit
def anV (a : An) : Value := .agg #[.int .i64 a.kind, .string a.text, .int .i64 a.st]
structure Only2 (a b : Nat) (w w' : World) : Prop where
 os : w'.os = w.os
 tape : w'.tape = w.tape
 output : w'.output = w.output
 size : w.heap.size ≤ w'.heap.size
 block : ∀ k, k < w.heap.size → k ≠ a → k ≠ b → w'.heap[k]? = w.heap[k]?
section
variable {a b : Nat} {w w' u : World}
theorem Only2.of_below (h : Below w.heap.size w w') : Only2 a b w w' := ⟨h.os, h.tape, h.output, h.size, fun k hk _ _ => h.block k hk⟩
theorem Only2.refl (a b : Nat) (w : World) : Only2 a b w w := .of_below (Below.refl _ _)
theorem Only2.trans (h : Only2 a b w w') (k : Only2 a b w' u) : Only2 a b w u :=
 ⟨k.os.trans h.os, k.tape.trans h.tape, k.output.trans h.output, Nat.le_trans h.size k.size, fun i hi ha hb => (k.block i (Nat.lt_of_lt_of_le hi h.size) ha hb).trans (h.block i hi ha hb)⟩
theorem Only2.below (h : Only2 a b w w') (k : Below w'.heap.size w' u) : Only2 a b w u := h.trans (.of_below k)
theorem Only2.alloc (h : Only2 a b w w') (o : Obj) : Only2 a b w (w'.alloc o) := h.below (boxed w' o)
theorem Only2.drew (h : Only2 a b w w') : Only2 a b w w'.drew := h.below (Below.refl _ _).drew
theorem Only2.set_ (h : Only2 a b w w') {p : Addr} (hp : p.block = a ∨ p.block = b) (x : Value) : Only2 a b w (w'.setCell p x) :=
 h.trans ⟨rfl, rfl, rfl, by simp [World.setCell], fun k _ ha hb => Below.heap_setCell w' p x k (by rcases hp with e | e <;> rw [e] <;> assumption)⟩
theorem Only2.set_new (h : Only2 a b w w') {p : Addr} (hp : w.heap.size ≤ p.block) (x : Value) : Only2 a b w (w'.setCell p x) :=
 ⟨h.os, h.tape, h.output, by simpa [World.setCell] using h.size, fun k hk ha hb => (Below.heap_setCell w' p x k (by omega)).trans (h.block k hk ha hb)⟩
theorem Only2.bel {B : Nat} {w0 : World} (h : Only2 a b w w') (hb : Below B w0 w) (hB : B ≤ w.heap.size) (ha : B ≤ a) (hb2 : B ≤ b) : Below B w0 w' :=
 ⟨h.os.trans hb.os, h.tape.trans hb.tape, h.output.trans hb.output, Nat.le_trans hb.size h.size, fun k hk => (h.block k (by omega) (by omega) (by omega)).trans (hb.block k hk)⟩
theorem Only2.blk {g : Nat} {t : TypeId} {cs : Array Value} (h : Only2 a b w w') (hg : Blk w g t cs) (ha : g ≠ a) (hb : g ≠ b) : Blk w' g t cs := (h.block g hg.lt ha hb).trans hg
end
theorem own_setC {w : World} {base g n cap size m : Nat} {e : TypeId} {xs : List Value} (h : w.ownsRow base e size (.slice (some ⟨g, 0, none⟩) n cap) n xs) (u : Value) : (w.setCell ⟨g, m, none⟩ u).ownsRow base e size (.slice (some ⟨g, 0, none⟩) n cap) n (xs.set m u) := by
 rcases h.2 with ⟨e, _⟩ | ⟨g', cap', cur, e, hBg, hg, hn, hm, hcs, hx⟩
 ·cases e
 ·injection e with e1 e2 e3
  injection e1 with e1
  injection e1 with e1
  subst e1 e3
  refine ⟨by rw [List.length_set]; exact h.1, .inr ⟨g, cap, cur.setIfInBounds m u, rfl, hBg, ?_, hn, hm, by rw [Array.size_setIfInBounds, hcs], ?_⟩⟩
  ·exact Blk.set_ (w := w) (g := g) (cs := cur) hg m u
  ·rw [Array.toList_setIfInBounds, List.take_set, hx]
theorem SesC.set_ {w : World} {B : Nat} {s' : Se} {u : Value} {j : Nat} (hj : j < 5) : ∀ {ss : List Se} {cs : List Value}, SesC w B cs ss → ∀ (i : Nat) (hi : i < ss.length),
  (∀ a b c d, OPL w B a ss[i].set → OPL w B b ss[i].pre → OPL w B c ss[i].sav → OPL w B d ss[i].wri → ∃ a' b' c' d', [Value.int .i64 ss[i].st, a, b, c, d].set j u = [.int .i64 s'.st, a', b', c', d'] ∧ OPL w B a' s'.set ∧ OPL w B b' s'.pre ∧ OPL w B c' s'.sav ∧ OPL w B d' s'.wri ∧ (-9223372036854775808 ≤ s'.st ∧ s'.st ≤ 9223372036854775807)) →
  SesC w B (cs.set (i * 5 + j) u) (ss.set i s')
 | s :: ss, _, ⟨a, b, c, d, rest, e, h1, h2, h3, h4, h5, h6⟩, i, hi, H => by
  subst e
  rcases i with _ | i
  ·obtain ⟨a', b', c', d', e, k⟩ := H a b c d h1 h2 h3 h4
   have e2 : (Value.int .i64 s.st :: a :: b :: c :: d :: rest).set (0 * 5 + j) u = [Value.int .i64 s'.st, a', b', c', d'] ++ rest := by
    rw [← e]
    have : (Value.int .i64 s.st :: a :: b :: c :: d :: rest) = [Value.int .i64 s.st, a, b, c, d] ++ rest := rfl
    rw [this, Nat.zero_mul, Nat.zero_add, List.set_append_left _ _ (by simpa using hj)]
    rfl
   rw [e2]
   exact ⟨a', b', c', d', rest, rfl, k.1, k.2.1, k.2.2.1, k.2.2.2.1, k.2.2.2.2, h6⟩
  ·have e1 : (i + 1) * 5 + j = (i * 5 + j) + 5 := by omega
   rw [e1]
   exact ⟨a, b, c, d, rest.set (i * 5 + j) u, rfl, h1, h2, h3, h4, h5, SesC.set_ hj h6 i (by simpa using hi) H⟩
structure SvAt (w0 w : World) (bv bw g cap i : Nat) (W : Wo) : Prop where
 bel : Below w0.heap.size w0 w
 srv : Blk w bv 129 #[.pointer (some ⟨bw, 0, none⟩), .int .i64 (i : Nat)]
 box : ∃ r, Blk w bw 39 #[r, .slice (some ⟨g, 0, none⟩) W.ses.length cap] ∧ OPL w w0.heap.size r W.rows
 ses : ∃ cs, OSL w w0.heap.size (.slice (some ⟨g, 0, none⟩) W.ses.length cap) W.ses cs
 hi : i < W.ses.length
 lv : w0.heap.size ≤ bv
 lw : w0.heap.size ≤ bw
section
variable {w0 w w' : World} {bv bw g cap i : Nat} {W : Wo}
theorem SvAt.lg (h : SvAt w0 w bv bw g cap i W) : w0.heap.size ≤ g ∧ g < w.heap.size := by
 obtain ⟨cs, hs⟩ := h.ses
 exact hs.own.lt g rfl
theorem SvAt.rowg (h : SvAt w0 w bv bw g cap i W) : ∃ cs, Blk w g 133 cs := by
 obtain ⟨cs, hs⟩ := h.ses
 rcases hs.own.2 with ⟨e, _⟩ | ⟨g', cap', cur, e, hBg, hg, _⟩
 ·cases e
 ·injection e with e1 e2 e3
  injection e1 with e1
  injection e1 with e1
  subst e1
  exact ⟨cur, hg⟩
theorem SvAt.gw (h : SvAt w0 w bv bw g cap i W) : bw ≠ g := by
 obtain ⟨r, hb, _⟩ := h.box
 obtain ⟨cs, hg⟩ := h.rowg
 exact hb.ne_ hg (by decide)
theorem SvAt.gv (h : SvAt w0 w bv bw g cap i W) : bv ≠ g := by
 obtain ⟨cs, hg⟩ := h.rowg
 exact h.srv.ne_ hg (by decide)
theorem SvAt.wv (h : SvAt w0 w bv bw g cap i W) : bv ≠ bw := by
 obtain ⟨r, hb, _⟩ := h.box
 exact h.srv.ne_ hb (by decide)
theorem SvAt.keep (h : SvAt w0 w bv bw g cap i W) (hb : Below w.heap.size w w') : SvAt w0 w' bv bw g cap i W := by
 obtain ⟨r, h1, h2⟩ := h.box
 obtain ⟨cs, h3⟩ := h.ses
 exact ⟨below_step h.bel (Nat.le_refl _) hb, h.srv.keep hb, ⟨r, h1.keep hb, h2.keeps (.of_below hb)⟩, ⟨cs, (Keeps.of_below hb).own h3.own, h3.ses.keeps (.of_below hb)⟩, h.hi, h.lv, h.lw⟩
theorem SvAt.put_new (h : SvAt w0 w bv bw g cap i W) {s' : Se} {u : Value} {j : Nat} (hj : j < 5) (hb : Below w.heap.size (w.setCell ⟨g, i * 5 + j, none⟩ u) w')
  (H : ∀ a b c d, OPL w' w0.heap.size a (W.se i).set → OPL w' w0.heap.size b (W.se i).pre → OPL w' w0.heap.size c (W.se i).sav → OPL w' w0.heap.size d (W.se i).wri → ∃ a' b' c' d', [Value.int .i64 (W.se i).st, a, b, c, d].set j u = [.int .i64 s'.st, a', b', c', d'] ∧ OPL w' w0.heap.size a' s'.set ∧ OPL w' w0.heap.size b' s'.pre ∧ OPL w' w0.heap.size c' s'.sav ∧ OPL w' w0.heap.size d' s'.wri ∧ (-9223372036854775808 ≤ s'.st ∧ s'.st ≤ 9223372036854775807)) :
  SvAt w0 w' bv bw g cap i (W.put i s') := by
 obtain ⟨r, h1, h2⟩ := h.box
 obtain ⟨cs, h3⟩ := h.ses
 obtain ⟨cg, hg⟩ := h.rowg
 have hz : (w.setCell ⟨g, i * 5 + j, none⟩ u).heap.size = w.heap.size := by simp [World.setCell]
 have hb' : Below (w.setCell ⟨g, i * 5 + j, none⟩ u).heap.size (w.setCell ⟨g, i * 5 + j, none⟩ u) w' := by rw [hz]; exact hb
 have hse : W.se i = W.ses[i]'h.hi := getD_at h.hi _
 have kp : Keeps 60 w w' := (Keeps.set_ (p := ⟨g, i * 5 + j, none⟩) hg (by decide) u).trans (.of_below hb')
 have hl : (W.put i s').ses.length = W.ses.length := put_length _ _ _
 refine ⟨below_step (h.bel.setCell h.lg.1 _) (Nat.le_refl _) hb', (h.srv.far (p := ⟨g, i * 5 + j, none⟩) h.gv _).keep hb', ⟨r, ?_, h2.keeps kp⟩, ⟨cs.set (i * 5 + j) u, ?_, ?_⟩, by rw [hl]; exact h.hi, h.lv, h.lw⟩
 ·rw [hl]
  exact (h1.far (p := ⟨g, i * 5 + j, none⟩) h.gw _).keep hb'
 ·rw [hl]
  exact (Keeps.of_below hb').own (own_setC h3.own u)
 ·refine SesC.set_ hj (SesC.keeps kp h3.ses) i h.hi ?_
  rw [← hse]
  exact H
theorem SvAt.put_ (h : SvAt w0 w bv bw g cap i W) {s' : Se} {u : Value} {j : Nat} (hj : j < 5)
  (H : ∀ (w' : World) a b c d, Keeps 60 w w' → OPL w' w0.heap.size a (W.se i).set → OPL w' w0.heap.size b (W.se i).pre → OPL w' w0.heap.size c (W.se i).sav → OPL w' w0.heap.size d (W.se i).wri → ∃ a' b' c' d', [Value.int .i64 (W.se i).st, a, b, c, d].set j u = [.int .i64 s'.st, a', b', c', d'] ∧ OPL w' w0.heap.size a' s'.set ∧ OPL w' w0.heap.size b' s'.pre ∧ OPL w' w0.heap.size c' s'.sav ∧ OPL w' w0.heap.size d' s'.wri ∧ (-9223372036854775808 ≤ s'.st ∧ s'.st ≤ 9223372036854775807)) :
  SvAt w0 (w.setCell ⟨g, i * 5 + j, none⟩ u) bv bw g cap i (W.put i s') := by
 obtain ⟨cg, hg⟩ := h.rowg
 exact h.put_new hj (Below.refl _ _) fun a b c d h1 h2 h3 h4 => H _ a b c d (Keeps.set_ (p := ⟨g, i * 5 + j, none⟩) hg (by decide) u) h1 h2 h3 h4
theorem SvAt.rows_new (h : SvAt w0 w bv bw g cap i W) {u : Value} {l : List Pr} (hb : Below w.heap.size (w.setCell ⟨bw, 0, none⟩ u) w') (hu : OPL w' w0.heap.size u l) : SvAt w0 w' bv bw g cap i ⟨l, W.ses⟩ := by
 obtain ⟨r, h1, h2⟩ := h.box
 obtain ⟨cs, h3⟩ := h.ses
 have hz : (w.setCell ⟨bw, 0, none⟩ u).heap.size = w.heap.size := by simp [World.setCell]
 have hb' : Below (w.setCell ⟨bw, 0, none⟩ u).heap.size (w.setCell ⟨bw, 0, none⟩ u) w' := by rw [hz]; exact hb
 have kp : ∀ t, 39 ≠ t → Keeps t w w' := fun t ht => (Keeps.set_ (p := ⟨bw, 0, none⟩) h1 ht u).trans (.of_below hb')
 exact ⟨below_step (h.bel.setCell h.lw _) (Nat.le_refl _) hb', (h.srv.far (p := ⟨bw, 0, none⟩) h.wv _).keep hb', ⟨u, (h1.set_ 0 u).keep hb', hu⟩, ⟨cs, (kp _ (by decide)).own h3.own, h3.ses.keeps (kp _ (by decide))⟩, h.hi, h.lv, h.lw⟩
theorem below_set {B : Nat} {a b : World} (h : Below B a b) (p : Addr) (u : Value) : Below B (a.setCell p u) (b.setCell p u) := by
 refine ⟨h.os, h.tape, h.output, by simpa [World.setCell] using h.size, fun k hk => ?_⟩
 simp only [World.setCell, Array.getElem?_modify]
 rw [h.block k hk]
theorem Only2.of_set {a b : Nat} {w w' : World} {p : Addr} {u : Value} (hp : p.block = a ∨ p.block = b) (h : Below w.heap.size (w.setCell p u) w') : Only2 a b w w' := by
 have hz : (w.setCell p u).heap.size = w.heap.size := by simp [World.setCell]
 exact ((Only2.refl a b w).set_ hp u).trans (.of_below (by rw [hz]; exact h))
structure Vw (w : World) (B bv bw g cap i n : Nat) (rows : List Pr) (s : Se) (Ar : Option Addr) (cr : Nat) (A1 : Option Addr) (k1 : Nat) (A2 : Option Addr) (k2 : Nat) (A3 : Option Addr) (k3 : Nat) (A4 : Option Addr) (k4 : Nat) : Prop where
 s0 : w.cell? ⟨bv, 0, none⟩ = some (.pointer (some ⟨bw, 0, none⟩))
 s1 : w.cell? ⟨bv, 1, none⟩ = some (.int .i64 (i : Nat))
 b0 : w.cell? ⟨bw, 0, none⟩ = some (.slice Ar rows.length cr)
 b1 : w.cell? ⟨bw, 1, none⟩ = some (.slice (some ⟨g, 0, none⟩) n cap)
 c0 : w.cell? ⟨g, i * 5, none⟩ = some (.int .i64 s.st)
 c1 : w.cell? ⟨g, i * 5 + 1, none⟩ = some (.slice A1 s.set.length k1)
 c2 : w.cell? ⟨g, i * 5 + 2, none⟩ = some (.slice A2 s.pre.length k2)
 c3 : w.cell? ⟨g, i * 5 + 3, none⟩ = some (.slice A3 s.sav.length k3)
 c4 : w.cell? ⟨g, i * 5 + 4, none⟩ = some (.slice A4 s.wri.length k4)
 fb : ∀ j, w.frozen? ⟨bw, j, none⟩ = false
 fg : ∀ j, w.frozen? ⟨g, j, none⟩ = false
 o0 : OPL w B (.slice Ar rows.length cr) rows
 o1 : OPL w B (.slice A1 s.set.length k1) s.set
 o2 : OPL w B (.slice A2 s.pre.length k2) s.pre
 o3 : OPL w B (.slice A3 s.sav.length k3) s.sav
 o4 : OPL w B (.slice A4 s.wri.length k4) s.wri
theorem Vw.keep {B n : Nat} {rows : List Pr} {s : Se} {Ar A1 A2 A3 A4 : Option Addr} {cr k1 k2 k3 k4 : Nat} (h : Vw w B bv bw g cap i n rows s Ar cr A1 k1 A2 k2 A3 k3 A4 k4) (hb : Below w.heap.size w w') : Vw w' B bv bw g cap i n rows s Ar cr A1 k1 A2 k2 A3 k3 A4 k4 :=
 ⟨keep_cell hb h.s0, keep_cell hb h.s1, keep_cell hb h.b0, keep_cell hb h.b1, keep_cell hb h.c0, keep_cell hb h.c1, keep_cell hb h.c2, keep_cell hb h.c3, keep_cell hb h.c4,
  fun j => (hb.frozen (p := ⟨bw, j, none⟩) (show (⟨bw, 0, none⟩ : Addr).block < _ from World.block_lt_of_cell? w _ h.b0)).trans (h.fb j), fun j => (hb.frozen (p := ⟨g, j, none⟩) (show (⟨g, i * 5, none⟩ : Addr).block < _ from World.block_lt_of_cell? w _ h.c0)).trans (h.fg j),
  h.o0.keeps (.of_below hb), h.o1.keeps (.of_below hb), h.o2.keeps (.of_below hb), h.o3.keeps (.of_below hb), h.o4.keeps (.of_below hb)⟩
theorem SvAt.view (h : SvAt w0 w bv bw g cap i W) : ∃ Ar cr A1 k1 A2 k2 A3 k3 A4 k4, Vw w w0.heap.size bv bw g cap i W.ses.length W.rows (W.se i) Ar cr A1 k1 A2 k2 A3 k3 A4 k4 := by
 obtain ⟨r, h1, h2⟩ := h.box
 obtain ⟨cs, h3⟩ := h.ses
 obtain ⟨cg, hg⟩ := h.rowg
 obtain ⟨a, b, c, d, k0, k1, k2, k3, k4, o1, o2, o3, o4, o5⟩ := SesC.at_ h3.ses i h.hi
 have hse : W.se i = W.ses[i]'h.hi := getD_at h.hi _
 rw [← hse] at k0 o1 o2 o3 o4
 have hc := h3.own.cells (g := g) rfl
 have hadd : ∀ n, (⟨g, 0, none⟩ : Addr).add n = ⟨g, n, none⟩ := fun n => by unfold Addr.add; split <;> simp_all
 obtain ⟨Ar, cr, rfl⟩ := h2.form
 obtain ⟨A1, c1, rfl⟩ := o1.form
 obtain ⟨A2, c2, rfl⟩ := o2.form
 obtain ⟨A3, c3, rfl⟩ := o3.form
 obtain ⟨A4, c4, rfl⟩ := o4.form
 refine ⟨Ar, cr, A1, c1, A2, c2, A3, c3, A4, c4, h.srv.cell_ 0 _ rfl, h.srv.cell_ 1 _ rfl, h1.cell_ 0 _ rfl, h1.cell_ 1 _ rfl, ?_, ?_, ?_, ?_, ?_, h1.frozen, hg.frozen, h2, o1, o2, o3, o4⟩
 ·rw [← hadd]; exact hc _ _ k0
 ·rw [← hadd]; exact hc _ _ k1
 ·rw [← hadd]; exact hc _ _ k2
 ·rw [← hadd]; exact hc _ _ k3
 ·rw [← hadd]; exact hc _ _ k4
theorem SvAt.sl (h : SvAt w0 w bv bw g cap i W) (hz : W.ses.length ≤ 1000) : SL w w.heap.size (.slice (some ⟨g, 0, none⟩) W.ses.length cap) W.ses := by
 obtain ⟨cs, h3⟩ := h.ses
 exact h3.sl (by omega)
theorem SvAt.wl (h : SvAt w0 w bv bw g cap i W) (hz : W.ses.length ≤ 1000) {r : Value} (hr : OPL w w0.heap.size r W.rows) : WL w w.heap.size r (.slice (some ⟨g, 0, none⟩) W.ses.length cap) W := ⟨hr.pl, h.sl hz⟩
theorem SvAt.st64 (h : SvAt w0 w bv bw g cap i W) : -9223372036854775808 ≤ (W.se i).st ∧ (W.se i).st ≤ 9223372036854775807 := by
 obtain ⟨cs, h3⟩ := h.ses
 obtain ⟨a, b, c, d, _, _, _, _, _, _, _, _, _, o5⟩ := SesC.at_ h3.ses i h.hi
 have hse : W.se i = W.ses[i]'h.hi := getD_at h.hi _
 rw [hse]
 exact o5
theorem put_self (W : Wo) {i : Nat} (hi : i < W.ses.length) (s : Se) : (W.put i s).se i = s := by rw [se_put W hi, if_pos rfl]
theorem put_put (W : Wo) (i : Nat) (s t : Se) : (W.put i s).put i t = W.put i t := by
 unfold Wo.put
 rw [List.set_set]
theorem SvAt.fin3 (h : SvAt w0 w bv bw g cap i W) : SvAt w0 (((w.setCell ⟨g, i * 5, none⟩ (.int .i64 0)).setCell ⟨g, i * 5 + 3, none⟩ (.slice none 0 0)).setCell ⟨g, i * 5 + 4, none⟩ (.slice none 0 0)) bv bw g cap i (W.put i ⟨0, (W.se i).set, (W.se i).pre, [], []⟩) := by
 have h1 : SvAt w0 (w.setCell ⟨g, i * 5, none⟩ (.int .i64 0)) bv bw g cap i (W.put i ⟨0, (W.se i).set, (W.se i).pre, (W.se i).sav, (W.se i).wri⟩) :=
  h.put_ (j := 0) (by decide) fun w' a b c d hk h1 h2 h3 h4 => ⟨a, b, c, d, rfl, h1, h2, h3, h4, show (-9223372036854775808 : Int) ≤ 0 by decide, show (0 : Int) ≤ 9223372036854775807 by decide⟩
 have h2 := h1.put_ (j := 3) (u := .slice none 0 0) (s' := ⟨0, (W.se i).set, (W.se i).pre, [], (W.se i).wri⟩) (by decide) fun w' a b c d hk k1 k2 k3 k4 => by
  rw [put_self W h.hi] at k1 k2 k3 k4 ⊢
  exact ⟨a, b, _, d, rfl, k1, k2, OPL.nil_ _ _, k4, show (-9223372036854775808 : Int) ≤ 0 by decide, show (0 : Int) ≤ 9223372036854775807 by decide⟩
 rw [put_put] at h2
 have h3 := h2.put_ (j := 4) (u := .slice none 0 0) (s' := ⟨0, (W.se i).set, (W.se i).pre, [], []⟩) (by decide) fun w' a b c d hk k1 k2 k3 k4 => by
  rw [put_self W h.hi] at k1 k2 k3 k4 ⊢
  exact ⟨a, b, c, _, rfl, k1, k2, k3, OPL.nil_ _ _, show (-9223372036854775808 : Int) ≤ 0 by decide, show (0 : Int) ≤ 9223372036854775807 by decide⟩
 rw [put_put] at h3
 exact h3
def SvR (w0 w : World) (bv bw g cap i : Nat) (R : Wo × An) (e : Ending) (w' : World) : Prop := e = .returned (anV R.2) ∧ SvAt w0 w' bv bw g cap i R.1 ∧ Only2 bw g w w'
structure Mth (w0 w wx : World) (bv bw g cap i b : Nat) (W : Wo) : Prop where
 sv : SvAt w0 wx bv bw g cap i W
 res : Blk wx b 46 #[.int .i64 0, .string ⟨#[]⟩, .int .i64 0]
 only : Only2 bw g w wx
 hb : w.heap.size ≤ b
 h0 : w0.heap.size ≤ b
theorem Mth.start (h : SvAt w0 w bv bw g cap i W) : Mth w0 w (w.alloc (.cells #[.int .i64 0, .string ⟨#[]⟩, .int .i64 0] 46)) bv bw g cap i w.heap.size W :=
 ⟨h.keep (boxed w _), Blk.new w _ _, .of_below (boxed w _), Nat.le_refl _, h.bel.size⟩
theorem Mth.keep {wx wy : World} {b : Nat} (h : Mth w0 w wx bv bw g cap i b W) (hb : Below wx.heap.size wx wy) : Mth w0 w wy bv bw g cap i b W :=
 ⟨h.sv.keep hb, h.res.keep hb, h.only.below hb, h.hb, h.h0⟩
theorem Mth.ng {wx : World} {b : Nat} (h : Mth w0 w wx bv bw g cap i b W) : b ≠ g ∧ g ≠ b := by
 obtain ⟨cs, hg⟩ := h.sv.rowg
 exact ⟨h.res.ne_ hg (by decide), (h.res.ne_ hg (by decide)).symm⟩
theorem Mth.nw {wx : World} {b : Nat} (h : Mth w0 w wx bv bw g cap i b W) : b ≠ bw ∧ bw ≠ b := by
 obtain ⟨r, h1, _⟩ := h.sv.box
 exact ⟨h.res.ne_ h1 (by decide), (h.res.ne_ h1 (by decide)).symm⟩
theorem Mth.set_4 {wx : World} {b : Nat} {u : Value} {l : List Pr} (h : Mth w0 w wx bv bw g cap i b W) (hu : OPL wx w0.heap.size u l) : Mth w0 w (wx.setCell ⟨g, i * 5 + 4, none⟩ u) bv bw g cap i b (W.put i ⟨(W.se i).st, (W.se i).set, (W.se i).pre, (W.se i).sav, l⟩) :=
 ⟨h.sv.put_ (j := 4) (by decide) fun w' a b c d hk h1 h2 h3 h4 => ⟨a, b, c, u, rfl, h1, h2, h3, hu.keeps hk, h.sv.st64⟩, h.res.far (p := ⟨g, i * 5 + 4, none⟩) h.ng.1 _, h.only.set_ (.inr rfl) _, h.hb, h.h0⟩
theorem Mth.set_r {wx : World} {b : Nat} {u : Value} {l : List Pr} (h : Mth w0 w wx bv bw g cap i b W) (hu : OPL wx w0.heap.size u l) : Mth w0 w (wx.setCell ⟨bw, 0, none⟩ u) bv bw g cap i b ⟨l, W.ses⟩ := by
 obtain ⟨r, h1, _⟩ := h.sv.box
 exact ⟨h.sv.rows_new (Below.refl _ _) (hu.keeps (Keeps.set_ (p := ⟨bw, 0, none⟩) h1 (by decide) u)), h.res.far (p := ⟨bw, 0, none⟩) h.nw.1 _, h.only.set_ (.inl rfl) _, h.hb, h.h0⟩
theorem Mth.step {wx wy : World} {b : Nat} {W' : Wo} (h : Mth w0 w wx bv bw g cap i b W) (hs : SvAt w0 wy bv bw g cap i W') (ho : Only2 bw g wx wy) : Mth w0 w wy bv bw g cap i b W' :=
 ⟨hs, ho.blk h.res h.nw.1 h.ng.1, h.only.trans ho, h.hb, h.h0⟩
theorem Mth.begin_ {wx : World} {b : Nat} {u : Value} (h : Mth w0 w wx bv bw g cap i b W) (hu : OPL wx w0.heap.size u (W.se i).set) : Mth w0 w ((wx.setCell ⟨g, i * 5, none⟩ (.int .i64 1)).setCell ⟨g, i * 5 + 3, none⟩ u) bv bw g cap i b (W.put i ⟨1, (W.se i).set, (W.se i).pre, (W.se i).set, (W.se i).wri⟩) := by
 obtain ⟨cg, hg⟩ := h.sv.rowg
 have kp := Keeps.set_ (t' := 133) (t := 60) (p := ⟨g, i * 5, none⟩) hg (by decide) (.int .i64 1)
 have h1 : SvAt w0 (wx.setCell ⟨g, i * 5, none⟩ (.int .i64 1)) bv bw g cap i (W.put i ⟨1, (W.se i).set, (W.se i).pre, (W.se i).sav, (W.se i).wri⟩) :=
  h.sv.put_ (j := 0) (by decide) fun w' a b c d hk h1 h2 h3 h4 => ⟨a, b, c, d, rfl, h1, h2, h3, h4, show (-9223372036854775808 : Int) ≤ 1 by decide, show (1 : Int) ≤ 9223372036854775807 by decide⟩
 have h2 := h1.put_ (j := 3) (u := u) (s' := ⟨1, (W.se i).set, (W.se i).pre, (W.se i).set, (W.se i).wri⟩) (by decide) fun w' a b c d hk k1 k2 k3 k4 => by
  rw [put_self W h.sv.hi] at k1 k2 k3 k4 ⊢
  exact ⟨a, b, _, d, rfl, k1, k2, (hu.keeps kp).keeps hk, k4, show (-9223372036854775808 : Int) ≤ 1 by decide, show (1 : Int) ≤ 9223372036854775807 by decide⟩
 rw [put_put] at h2
 exact ⟨h2, (h.res.far (p := ⟨g, i * 5, none⟩) h.ng.1 _).far (p := ⟨g, i * 5 + 3, none⟩) h.ng.1 _, (h.only.set_ (.inr rfl) _).set_ (.inr rfl) _, h.hb, h.h0⟩
theorem Mth.reset_ {wx : World} {b : Nat} (h : Mth w0 w wx bv bw g cap i b W) : Mth w0 w ((wx.setCell ⟨g, i * 5 + 1, none⟩ (.slice none 0 0)).setCell ⟨g, i * 5 + 2, none⟩ (.slice none 0 0)) bv bw g cap i b (W.put i ⟨(W.se i).st, [], [], (W.se i).sav, (W.se i).wri⟩) := by
 have h1 := h.sv.put_ (j := 1) (u := .slice none 0 0) (s' := ⟨(W.se i).st, [], (W.se i).pre, (W.se i).sav, (W.se i).wri⟩) (by decide) fun w' a b c d hk h1 h2 h3 h4 => ⟨_, b, c, d, rfl, OPL.nil_ _ _, h2, h3, h4, h.sv.st64⟩
 have h2 := h1.put_ (j := 2) (u := .slice none 0 0) (s' := ⟨(W.se i).st, [], [], (W.se i).sav, (W.se i).wri⟩) (by decide) fun w' a b c d hk k1 k2 k3 k4 => by
  rw [put_self W h.sv.hi] at k1 k2 k3 k4 ⊢
  exact ⟨a, _, c, d, rfl, k1, OPL.nil_ _ _, k3, k4, h.sv.st64⟩
 rw [put_put] at h2
 exact ⟨h2, (h.res.far (p := ⟨g, i * 5 + 1, none⟩) h.ng.1 _).far (p := ⟨g, i * 5 + 2, none⟩) h.ng.1 _, (h.only.set_ (.inr rfl) _).set_ (.inr rfl) _, h.hb, h.h0⟩
theorem Mth.new_1 {wx wy : World} {b : Nat} {u : Value} {l : List Pr} (h : Mth w0 w wx bv bw g cap i b W) (hb : Below wx.heap.size (wx.setCell ⟨g, i * 5 + 1, none⟩ u) wy) (hu : OPL wy w0.heap.size u l) : SvAt w0 wy bv bw g cap i (W.put i ⟨(W.se i).st, l, (W.se i).pre, (W.se i).sav, (W.se i).wri⟩) ∧ Only2 bw g wx wy :=
 ⟨h.sv.put_new (j := 1) (by decide) hb fun a b c d h1 h2 h3 h4 => ⟨_, b, c, d, rfl, hu, h2, h3, h4, h.sv.st64⟩, Only2.of_set (.inr rfl) hb⟩
theorem Mth.new_2 {wx wy : World} {b : Nat} {u : Value} {l : List Pr} (h : Mth w0 w wx bv bw g cap i b W) (hb : Below wx.heap.size (wx.setCell ⟨g, i * 5 + 2, none⟩ u) wy) (hu : OPL wy w0.heap.size u l) : SvAt w0 wy bv bw g cap i (W.put i ⟨(W.se i).st, (W.se i).set, l, (W.se i).sav, (W.se i).wri⟩) ∧ Only2 bw g wx wy :=
 ⟨h.sv.put_new (j := 2) (by decide) hb fun a b c d h1 h2 h3 h4 => ⟨a, _, c, d, rfl, h1, hu, h3, h4, h.sv.st64⟩, Only2.of_set (.inr rfl) hb⟩
theorem Mth.fin {wx : World} {b : Nat} (h : Mth w0 w wx bv bw g cap i b W) (R : Wo × An) (hR : R.1 = W) (x y z : Value) (e : Ending) (he : e = .returned (anV R.2)) :
  SvR w0 w bv bw g cap i R e (((wx.setCell ⟨b, 0, none⟩ x).setCell ⟨b, 1, none⟩ y).setCell ⟨b, 2, none⟩ z) := by
 have hbl : ∀ w' : World, SvAt w0 w' bv bw g cap i W → ∀ cs, Blk w' b 46 cs → ∀ j u, SvAt w0 (w'.setCell ⟨b, j, none⟩ u) bv bw g cap i W := by
  intro w' hs cs hb j u
  obtain ⟨r, h1, h2⟩ := hs.box
  obtain ⟨cs', h3⟩ := hs.ses
  have kp : ∀ t, 46 ≠ t → Keeps t w' (w'.setCell ⟨b, j, none⟩ u) := fun t ht => Keeps.set_ (p := ⟨b, j, none⟩) hb ht u
  refine ⟨hs.bel.setCell h.h0 _, hs.srv.far (p := ⟨b, j, none⟩) (hs.srv.ne_ hb (by decide)) _, ⟨r, h1.far (p := ⟨b, j, none⟩) (h1.ne_ hb (by decide)) _, h2.keeps (kp _ (by decide))⟩, ⟨cs', (kp _ (by decide)).own h3.own, h3.ses.keeps (kp _ (by decide))⟩, hs.hi, hs.lv, hs.lw⟩
 subst hR
 exact ⟨he, hbl _ (hbl _ (hbl _ h.sv _ h.res 0 x) _ (h.res.set_ 0 x) 1 y) _ ((h.res.set_ 0 x).set_ 1 y) 2 z, ((h.only.set_new h.hb _).set_new h.hb _).set_new h.hb _⟩
end
end Go.Proofs.YtjbnfigpflambacGreatDoor
/- back.value, told, failed, keep; (server).put and (server).end. -/
namespace Go.Proofs.YtjbnfigpflambacGreatDoor
open Go.ChangeShapes Go.WideShapes Go.ChangeAt Go.RowKit
def valV : Option ByteArray → Value
 | some v => .tuple #[.string v, .bool true]
 | none => .tuple #[.string ⟨#[]⟩, .bool false]
theorem failed_any (t : ByteArray) (w : World) : Calls Tryz.prog 94 #[.string t] w fun e w' => e = .returned (.agg #[.int .i64 4, .string t, .int .i64 0]) ∧ Below w.heap.size w w' := by
 go_enter Tryz.func94, Tryz.ntmps94
 go_wp2_with fail
 refine bodyPost_ret (v := .agg #[.int .i64 4, .string t, .int .i64 0]) (by simp [results, Tryz.results94, go_sem]) rfl ⟨rfl, boxed _ _⟩
theorem told_some (v : ByteArray) (w : World) : Calls Tryz.prog 96 #[.string v, .bool true] w fun e w' => e = .returned (.agg #[.int .i64 2, .string v, .int .i64 0]) ∧ Below w.heap.size w w' := by
 go_enter Tryz.func96, Tryz.ntmps96
 go_wp2_with fail
 refine bodyPost_ret (v := .agg #[.int .i64 2, .string v, .int .i64 0]) (by simp [results, Tryz.results96, go_sem]) rfl ⟨rfl, boxed _ _⟩
theorem told_none (v : ByteArray) (w : World) : Calls Tryz.prog 96 #[.string v, .bool false] w fun e w' => e = .returned (.agg #[.int .i64 3, .string ⟨#[]⟩, .int .i64 0]) ∧ Below w.heap.size w w' := by
 go_enter Tryz.func96, Tryz.ntmps96
 go_wp2_with fail
 refine bodyPost_ret (v := .agg #[.int .i64 3, .string ⟨#[]⟩, .int .i64 0]) (by simp [results, Tryz.results96, go_sem]) rfl ⟨rfl, boxed _ _⟩
set_option maxHeartbeats 1000000 in
set_option maxRecDepth 100000 in
theorem bvalue_any (w : World) (v : Value) (l : List Pr) (k : ByteArray) (h : PL w w.heap.size v l) (hs : Sorted l) :
  Calls Tryz.prog 97 #[v, .string k] w fun e w' => e = .returned (valV (atP l k)) ∧ Below w.heap.size w w' := by
 have H := Lib.hid h
 have HS := Lib.hid hs
 obtain ⟨A, c, rfl, hc, hr, hf⟩ := h
 have HR := Lib.hid hr
 obtain ⟨z, hz⟩ : ∃ z, valV (atP l k) = z := ⟨_, rfl⟩
 rw [hz]
 have HZ := Lib.hid hz
 clear hs hc hr hf hz
 go_enter Tryz.func97, Tryz.ntmps97
 go_wp2_with fail
 refine (find_any _ _ l k H.out).mono ?_
 rintro e w1 ⟨i, b, rfl, hf, b1⟩
 have HF := Lib.hid hf
 have HB := Lib.hid b1
 clear hf b1
 cases b with
 | true =>
  obtain ⟨hi, hik⟩ := HF.out.here rfl
  obtain ⟨ad, hA, hBl, x1, x2⟩ := pair_at (HR.out.below HB.out) hi
  subst hA
  obtain ⟨u, hu⟩ : ∃ u, l[i].v = u := ⟨_, rfl⟩
  rw [hu] at x2
  have e1 := HZ.out
  obtain ⟨e2, e3⟩ := HF.out.sorted HS.out
  subst e2
  rw [at_pos HS.out k hi hik, hu] at e1
  have HE := Lib.hid e1
  have g1 : ((posP l k : Nat) : Int) < (l.length : Int) := by omega
  have g2 : (0 : Int) ≤ ((posP l k : Nat) : Int) := by omega
  clear x1 hu hik e1 e3
  obtain ⟨q, hq⟩ : ∃ q, posP l k = q := ⟨_, rfl⟩
  rw [hq] at x2 g1 g2 ⊢
  clear hq
  go_wp2_with fail
  go_ret2
  exact ⟨by rw [← HE.out]; rfl, HB.out⟩
 | false =>
  have e1 := HZ.out
  rw [at_none (HF.out.sorted HS.out).2.symm] at e1
  have HE := Lib.hid e1
  clear e1
  go_wp2_with fail
  go_ret2
  exact ⟨by rw [← HE.out]; rfl, HB.out⟩
def KeepR (w : World) (B : Nat) (p : Addr) (l : List Pr) (k v : ByteArray) (e : Ending) (w' : World) : Prop :=
 (keepP l k v = none ∧ e = .returned (anV (noA tFull)) ∧ Below w.heap.size w w') ∨
 (∃ u, keepP l k v = some (plusP l k v) ∧ e = .returned (anV okA) ∧ OPL w' B u (plusP l k v) ∧ Below w.heap.size (w.setCell p u) w')
set_option maxHeartbeats 1000000 in
set_option maxRecDepth 100000 in
theorem keep_any (w : World) (g o B : Nat) (u : Value) (l : List Pr) (k v : ByteArray) (hc : w.cell? ⟨g, o, none⟩ = some u) (hf : w.frozen? ⟨g, o, none⟩ = false) (h : PL w w.heap.size u l) (hs : Sorted l) (hl : l.length ≤ 1000) (hk : k.size ≤ maxLen) (hv : v.size ≤ maxLen) (hB : B ≤ w.heap.size) (t : TypeId) (cs : Array Value) (hg : Blk w g t cs) (ht : t ≠ 60) :
  Calls Tryz.prog 98 #[.pointer (some ⟨g, o, none⟩), .int .i64 6, .string k, .string v] w (KeepR w B ⟨g, o, none⟩ l k v) := by
 obtain ⟨A, c, hu⟩ := h.form
 subst hu
 obtain ⟨n, hn⟩ : ∃ n, l.length = n := ⟨_, rfl⟩
 rw [hn] at hl hc h
 have H := Lib.hid h
 have HS := Lib.hid hs
 have HKV := Lib.hid (And.intro hk hv)
 have hgl : g < w.heap.size := World.block_lt_of_cell? w _ hc
 have hne := Nat.ne_of_lt hgl
 have HN := Lib.hid hn
 have HC := Lib.hid hc
 have HG := Lib.hid hg
 have HT := Lib.hid ht
 clear h hs hk hv hn hg ht
 go_enter Tryz.func98, Tryz.ntmps98
 go_wp2_with fail
 refine (find_any _ _ l k ((H.out.below (boxed _ _)).more (by simp))).mono ?_
 rintro e w1 ⟨i, b, rfl, hfd, b1⟩
 have HF := Lib.hid hfd
 have RB := Blk.keep (Blk.new w 46 #[.int .i64 0, .string ⟨#[]⟩, .int .i64 0]) b1
 have y0 := RB.cell_ 0 _ rfl
 have y1 := RB.cell_ 1 _ rfl
 have y2 := RB.cell_ 2 _ rfl
 have f0 := RB.frozen
 have R1 := Lib.hid RB
 have hb1 := below_of_alloc (Nat.le_refl _) b1
 have hc1 := keep_cell hb1 hc
 have hf1 := keep_frozen hb1 hc hf
 have HB1 := Lib.hid hb1
 clear b1 hb1 hc hf hfd RB
 cases b with
 | false =>
  have hno := (HF.out.sorted HS.out).2.symm
  by_cases h6 : n = 6
  ·have HK := Lib.hid (show keepP l k v = none by unfold keepP; rw [if_pos ⟨hno, by rw [HN.out]; exact h6⟩])
   subst h6
   clear hno
   go_wp2_with fail
   refine (failed_any _ _).mono ?_
   rintro e w2 ⟨rfl, b2⟩
   have RB := R1.out.keep b2
   have z0 := RB.cell_ 0 _ rfl
   have z1 := RB.cell_ 1 _ rfl
   have z2 := RB.cell_ 2 _ rfl
   have fz := RB.frozen
   have R2 := Lib.hid RB
   have HB2 := Lib.hid (below_step HB1.out (Nat.le_refl _) b2)
   clear b2 RB y0 y1 y2 f0 hc1 hf1
   go_wp2_with fail
   have RB := ((R2.out.set_ 0 (.int .i64 4)).set_ 1 (.string ⟨#[102, 117, 108, 108]⟩)).set_ 2 (.int .i64 0)
   have t0 := RB.cell_ 0 _ rfl
   have t1 := RB.cell_ 1 _ rfl
   have t2 := RB.cell_ 2 _ rfl
   clear z0 z1 z2
   refine bodyPost_ret (v := .agg #[.int .i64 4, .string ⟨#[102, 117, 108, 108]⟩, .int .i64 0]) (by simp [results, Tryz.results98, go_sem, t0, t1, t2]) rfl (.inl ⟨HK.out, rfl, ?_⟩)
   exact ((HB2.out.setCell (Nat.le_refl _) _).setCell (Nat.le_refl _) _).setCell (Nat.le_refl _) _
  ·have HK := Lib.hid (show keepP l k v = some (plusP l k v) by unfold keepP; rw [if_neg (fun h => h6 (by rw [← HN.out]; exact h.2))])
   have g1 : ((n : Int) == 6) = false := by simp; omega
   clear hno h6
   go_wp2_with fail
   refine (with_any _ _ l k v ((H.out.below HB1.out).more HB1.out.size) HS.out (by rw [HN.out]; omega) HKV.out.1 HKV.out.2).mono ?_
   rintro e w2 ⟨u2, rfl, ho, b2⟩
   have HO := Lib.hid (ho.base (Nat.le_trans hB HB1.out.size))
   obtain ⟨A2, c2, rfl⟩ := ho.form
   have RB := R1.out.keep b2
   have z0 := RB.cell_ 0 _ rfl
   have z1 := RB.cell_ 1 _ rfl
   have z2 := RB.cell_ 2 _ rfl
   have fz := RB.frozen
   have hc2 := keep_cell b2 hc1
   have hf2 := keep_frozen b2 hc1 hf1
   have R2 := Lib.hid RB
   have HB2 := Lib.hid (below_step HB1.out (Nat.le_refl _) b2)
   obtain ⟨m, hm⟩ : ∃ m, (plusP l k v).length = m := ⟨_, rfl⟩
   rw [hm] at HO ⊢
   clear b2 RB y0 y1 y2 f0 hc1 hf1 ho hm
   go_wp2_with fail
   have G2 := (HG.out.below HB2.out hgl)
   have RB1 := R2.out.far (p := ⟨g, o, none⟩) (Ne.symm hne) (.slice A2 m c2)
   have RB := ((RB1.set_ 0 (.int .i64 1)).set_ 1 (.string ⟨#[]⟩)).set_ 2 (.int .i64 0)
   have t0 := RB.cell_ 0 _ rfl
   have t1 := RB.cell_ 1 _ rfl
   have t2 := RB.cell_ 2 _ rfl
   clear z0 z1 z2
   refine bodyPost_ret (v := .agg #[.int .i64 1, .string ⟨#[]⟩, .int .i64 0]) (by simp [results, Tryz.results98, go_sem, t0, t1, t2]) rfl (.inr ⟨.slice A2 m c2, HK.out, rfl, ?_, ?_⟩)
   ·exact HO.out.keeps ((((Keeps.set_ (p := ⟨g, o, none⟩) G2 HT.out _).trans (Keeps.set_ (p := ⟨w.heap.size, 0, none⟩) RB1 (by decide) _)).trans (Keeps.set_ (p := ⟨w.heap.size, 1, none⟩) (RB1.set_ 0 _) (by decide) _)).trans (Keeps.set_ (p := ⟨w.heap.size, 2, none⟩) ((RB1.set_ 0 _).set_ 1 _) (by decide) _))
   ·exact (((below_set HB2.out _ _).setCell (Nat.le_refl _) _).setCell (Nat.le_refl _) _).setCell (Nat.le_refl _) _
 | true =>
  have HK := Lib.hid (show keepP l k v = some (plusP l k v) by unfold keepP; rw [if_neg (fun h => by rw [← (HF.out.sorted HS.out).2] at h; exact absurd h.1 (by decide))])
  go_wp2_with fail
  refine (with_any _ _ l k v ((H.out.below HB1.out).more HB1.out.size) HS.out (by rw [HN.out]; omega) HKV.out.1 HKV.out.2).mono ?_
  rintro e w2 ⟨u2, rfl, ho, b2⟩
  have HO := Lib.hid (ho.base (Nat.le_trans hB HB1.out.size))
  obtain ⟨A2, c2, rfl⟩ := ho.form
  have RB := R1.out.keep b2
  have z0 := RB.cell_ 0 _ rfl
  have z1 := RB.cell_ 1 _ rfl
  have z2 := RB.cell_ 2 _ rfl
  have fz := RB.frozen
  have hc2 := keep_cell b2 hc1
  have hf2 := keep_frozen b2 hc1 hf1
  have R2 := Lib.hid RB
  have HB2 := Lib.hid (below_step HB1.out (Nat.le_refl _) b2)
  obtain ⟨m, hm⟩ : ∃ m, (plusP l k v).length = m := ⟨_, rfl⟩
  rw [hm] at HO ⊢
  clear b2 RB y0 y1 y2 f0 hc1 hf1 ho hm
  go_wp2_with fail
  have G2 := (HG.out.below HB2.out hgl)
  have RB1 := R2.out.far (p := ⟨g, o, none⟩) (Ne.symm hne) (.slice A2 m c2)
  have RB := ((RB1.set_ 0 (.int .i64 1)).set_ 1 (.string ⟨#[]⟩)).set_ 2 (.int .i64 0)
  have t0 := RB.cell_ 0 _ rfl
  have t1 := RB.cell_ 1 _ rfl
  have t2 := RB.cell_ 2 _ rfl
  clear z0 z1 z2
  refine bodyPost_ret (v := .agg #[.int .i64 1, .string ⟨#[]⟩, .int .i64 0]) (by simp [results, Tryz.results98, go_sem, t0, t1, t2]) rfl (.inr ⟨.slice A2 m c2, HK.out, rfl, ?_, ?_⟩)
  ·exact HO.out.keeps ((((Keeps.set_ (p := ⟨g, o, none⟩) G2 HT.out _).trans (Keeps.set_ (p := ⟨w.heap.size, 0, none⟩) RB1 (by decide) _)).trans (Keeps.set_ (p := ⟨w.heap.size, 1, none⟩) (RB1.set_ 0 _) (by decide) _)).trans (Keeps.set_ (p := ⟨w.heap.size, 2, none⟩) ((RB1.set_ 0 _).set_ 1 _) (by decide) _))
  ·exact (((below_set HB2.out _ _).setCell (Nat.le_refl _) _).setCell (Nat.le_refl _) _).setCell (Nat.le_refl _) _
end Go.Proofs.YtjbnfigpflambacGreatDoor
