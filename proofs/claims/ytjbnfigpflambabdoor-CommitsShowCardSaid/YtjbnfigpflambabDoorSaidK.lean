/- Helpers for laws that say statements: lists of statements, boxes beside a box that is stored. -/
import Derived.Test.YtjbnfigpflambabDoorSaid
import Derived.Test.YtjbnfigpflambabDoorEq
import Derived.Test.YtjbnfigpflambabDoorUn
namespace Go.Proofs.YtjbnfigpflambabDoor
open Go.ChangeShapes Go.WideShapes Go.ChangeAt Go.RowKit

theorem add0 (g n : Nat) : (⟨g, 0, none⟩ : Addr).add n = ⟨g, n, none⟩ := by unfold Addr.add; split <;> simp_all
theorem StL.one {w : World} {g : Nat} {x : St} (h : Blk w g 23 #[.int .i64 x.k, .string x.key, .string x.val]) : StL w w.heap.size (.slice (some ⟨g, 0, none⟩) 1 1) [x] := by
  refine ⟨some ⟨g, 0, none⟩, 1, rfl, by simp, fun _ => ⟨_, rfl, h.lt, fun i hi => ?_⟩⟩
  obtain rfl : i = 0 := by simpa using hi
  rw [add0]
  exact ⟨h.cell_ 0 _ rfl, h.cell_ 1 _ rfl, h.cell_ 2 _ rfl⟩
theorem StL.three {w : World} {g : Nat} {x y z : St} (h : Blk w g 23 #[.int .i64 x.k, .string x.key, .string x.val, .int .i64 y.k, .string y.key, .string y.val, .int .i64 z.k, .string z.key, .string z.val]) : StL w w.heap.size (.slice (some ⟨g, 0, none⟩) 3 3) [x, y, z] := by
  refine ⟨some ⟨g, 0, none⟩, 3, rfl, by simp, fun _ => ⟨_, rfl, h.lt, fun i hi => ?_⟩⟩
  have hi : i < 3 := hi
  rw [add0]
  rcases i with _ | _ | _ | i
  · exact ⟨h.cell_ 0 _ rfl, h.cell_ 1 _ rfl, h.cell_ 2 _ rfl⟩
  · exact ⟨h.cell_ 3 _ rfl, h.cell_ 4 _ rfl, h.cell_ 5 _ rfl⟩
  · exact ⟨h.cell_ 6 _ rfl, h.cell_ 7 _ rfl, h.cell_ 8 _ rfl⟩
  · omega
theorem BoxW.opens {B : Nat} {w : World} {q n : Nat} {V : Wo} (h : BoxW B w q V) (hl : V.ses.length = n) (hn : 0 < n) (hn2 : n ≤ 1000) : ∃ A k g cap, Blk w q 31 #[.slice A V.rows.length k, .slice (some ⟨g, 0, none⟩) n cap] ∧ ∀ u, Below w.heap.size w u → WL u u.heap.size (.slice A V.rows.length k) (.slice (some ⟨g, 0, none⟩) n cap) V := by
  obtain ⟨r, s, b, o1, cs, o2⟩ := h.box
  obtain ⟨A, k, rfl⟩ := o1.form
  obtain ⟨g, cap, rfl⟩ := o2.form (by omega)
  rw [hl] at b o2
  exact ⟨A, k, g, cap, b, fun u hb => ⟨(o1.keeps (.of_below hb)).pl, (osl_keeps o2 (.of_below hb) (.of_below hb)).sl (by omega)⟩⟩
theorem SL.seat0 {w : World} {B g n cap : Nat} {ss : List Se} (h : SL w B (.slice (some ⟨g, 0, none⟩) n cap) ss) (hi : 0 < ss.length) : SeAt w B ⟨g, 0, none⟩ ss[0] := by
  obtain ⟨A, c, e, _, _, hs⟩ := h
  obtain ⟨ad, hA, hB, hse⟩ := hs hi
  injection e with e1 e2 e3
  rw [hA] at e1
  injection e1 with e1
  subst e1
  have := hse 0 hi
  rw [add0] at this
  exact this
/-- a box of a world beside another that is stored -/
theorem BoxW.off {B : Nat} {w : World} {p q : Nat} {V : Wo} {r s : Value} {c : Array Value} (h : BoxW B w p V) (hq : Blk w q 31 c) (hne : p ≠ q) : BoxW B ((w.setCell ⟨q, 0, none⟩ r).setCell ⟨q, 1, none⟩ s) p V := by
  obtain ⟨r0, s0, b, o1, cs, o2⟩ := h.box
  have k : ∀ t, 31 ≠ t → Keeps t w ((w.setCell ⟨q, 0, none⟩ r).setCell ⟨q, 1, none⟩ s) := fun t ht => (Keeps.set_ (p := ⟨q, 0, none⟩) hq ht _).trans (Keeps.set_ (p := ⟨q, 1, none⟩) (hq.set_ 0 r) ht _)
  exact ⟨r0, s0, (b.far (p := ⟨q, 0, none⟩) hne _).far (p := ⟨q, 1, none⟩) hne _, o1.keeps (k _ (by decide)), cs, osl_keeps o2 (k _ (by decide)) (k _ (by decide))⟩
/-- a box of a world beside an answer that is stored -/
theorem BoxW.offA {B : Nat} {w : World} {p q : Nat} {V : Wo} {x y z : Value} {c : Array Value} (h : BoxW B w p V) (hq : Blk w q 48 c) : BoxW B (((w.setCell ⟨q, 0, none⟩ x).setCell ⟨q, 1, none⟩ y).setCell ⟨q, 2, none⟩ z) p V := by
  obtain ⟨r0, s0, b, o1, cs, o2⟩ := h.box
  have hne := b.ne_ hq (by decide)
  have k : ∀ t, 48 ≠ t → Keeps t w (((w.setCell ⟨q, 0, none⟩ x).setCell ⟨q, 1, none⟩ y).setCell ⟨q, 2, none⟩ z) := fun t ht =>
    ((Keeps.set_ (p := ⟨q, 0, none⟩) hq ht _).trans (Keeps.set_ (p := ⟨q, 1, none⟩) (hq.set_ 0 x) ht _)).trans (Keeps.set_ (p := ⟨q, 2, none⟩) ((hq.set_ 0 x).set_ 1 y) ht _)
  exact ⟨r0, s0, ((b.far (p := ⟨q, 0, none⟩) hne _).far (p := ⟨q, 1, none⟩) hne _).far (p := ⟨q, 2, none⟩) hne _, o1.keeps (k _ (by decide)), cs, osl_keeps o2 (k _ (by decide)) (k _ (by decide))⟩
end Go.Proofs.YtjbnfigpflambabDoor
