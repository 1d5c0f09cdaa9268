/- An argument that is a slice of raw things. -/
import Derived.Test.YtjbnfigpflambabDoorOpen
import Derived.Test.YtjbnfigpflambabDoorBackS
namespace Go.Proofs.YtjbnfigpflambabDoor
open Go.ChangeShapes Go.WideShapes Go.ChangeAt Go.RowKit Go.Deep Go.Joins

structure Rw where
  (k a b c : Int)
def Rw.st (x : Rw) : St := rawS x.k x.a x.b x.c
structure Rw.Wf (x : Rw) : Prop where
  k : (Lit.int .i64 x.k).wf = true
  a : (Lit.int .i64 x.a).wf = true
  b : (Lit.int .i64 x.b).wf = true
  c : (Lit.int .i64 x.c).wf = true
instance : Inhabited Rw := ⟨⟨0, 0, 0, 0⟩⟩
structure RwAt (w : World) (p : Addr) (x : Rw) : Prop where
  k : w.cell? p = some (.int .i64 x.k)
  a : w.cell? ⟨p.block, p.off + 1, none⟩ = some (.int .i64 x.a)
  b : w.cell? ⟨p.block, p.off + 2, none⟩ = some (.int .i64 x.b)
  c : w.cell? ⟨p.block, p.off + 3, none⟩ = some (.int .i64 x.c)
def RL (w : World) (B : Nat) (v : Value) (l : List Rw) : Prop :=
  ∃ A cap, v = .slice A l.length cap ∧ l.length ≤ cap ∧ cap ≤ maxLen ∧ (0 < l.length → ∃ ad, A = some ad ∧ ad.block < B ∧ ∀ i (h : i < l.length), RwAt w (ad.add (i * 4)) l[i]) ∧ ∀ x ∈ l, x.Wf
theorem RwAt.below {w w' : World} {B : Nat} {p : Addr} {x : Rw} (h : RwAt w p x) (hp : p.block < B) (hb : Below B w w') : RwAt w' p x :=
  ⟨(hb.cell hp).trans h.k, (hb.cell (by exact hp)).trans h.a, (hb.cell (by exact hp)).trans h.b, (hb.cell (by exact hp)).trans h.c⟩
theorem RL.below {w w' : World} {B : Nat} {v : Value} {l : List Rw} (h : RL w B v l) (hb : Below B w w') : RL w' B v l := by
  obtain ⟨A, cap, e, h1, h2, h3, h4⟩ := h
  refine ⟨A, cap, e, h1, h2, fun hn => ?_, h4⟩
  obtain ⟨ad, e, hB, hi⟩ := h3 hn
  exact ⟨ad, e, hB, fun i h => (hi i h).below (by rw [block_of_add]; exact hB) hb⟩
theorem RL.more {w : World} {B B' : Nat} {v : Value} {l : List Rw} (h : RL w B v l) (hB : B ≤ B') : RL w B' v l := by
  obtain ⟨A, cap, e, h1, h2, h3, h4⟩ := h
  exact ⟨A, cap, e, h1, h2, fun hn => (by obtain ⟨ad, e, hb, hi⟩ := h3 hn; exact ⟨ad, e, by omega, hi⟩), h4⟩
set_option maxRecDepth 100000 in
theorem open_raws {H : Type} {enc : TypeId × Value → H} {W : World} {base base' : Nat} {sp : Nat → Bool} {held : Bool} {v : Value} {d : DataW H} {p : List MemPlace} (hv : Value.okWide Tryd.prog W .any base 53 v) (k : DataW.Trod enc Tryd.prog W base' sp held 53 v d p) :
    ∃ l, RL W W.heap.size v l := by
  obtain ⟨a0, len, cap, rfl⟩ := okWide_slice Tryd.underlying53 hv
  obtain ⟨fuel, h⟩ := k
  rcases open_slice_fields Tryd.underlying53 Tryd.underlying42 (by kernel_rfl) (by kernel_rfl) h with ⟨hc, _⟩ | ⟨a, len', cap', m, D, Pl, hc, hb, hl, hm, hmm, hx, hf⟩
  · simp only [Value.cells, List.cons.injEq, Value.slice.injEq, and_true] at hc
    obtain ⟨rfl, rfl, rfl⟩ := hc
    exact ⟨[], none, 0, rfl, Nat.le_refl _, Nat.zero_le _, fun h => absurd h (by simp), by simp⟩
  · simp only [Value.cells, List.cons.injEq, Value.slice.injEq, and_true] at hc
    obtain ⟨rfl, rfl, rfl⟩ := hc
    have hlm : len ≤ m := by rw [hmm]; split <;> omega
    have each : ∀ i, i < len → ∃ x : Rw, RwAt W (a.add (i * 4)) x ∧ x.Wf := by
      intro i hi
      obtain ⟨ys, n', hDi, _, hyl, hj⟩ := hf i (by omega)
      obtain ⟨v0, y0, c0, _, t0⟩ := hj 0 _ rfl
      obtain ⟨v1, y1, c1, _, t1⟩ := hj 1 _ rfl
      obtain ⟨v2, y2, c2, _, t2⟩ := hj 2 _ rfl
      obtain ⟨v3, y3, c3, _, t3⟩ := hj 3 _ rfl
      obtain ⟨q0, e0, _, w0⟩ := DataW.trod_int Tryd.underlying3 t0
      obtain ⟨q1, e1, _, w1⟩ := DataW.trod_int Tryd.underlying3 t1
      obtain ⟨q2, e2, _, w2⟩ := DataW.trod_int Tryd.underlying3 t2
      obtain ⟨q3, e3, _, w3⟩ := DataW.trod_int Tryd.underlying3 t3
      obtain rfl : v0 = _ := by simpa using e0
      obtain rfl : v1 = _ := by simpa using e1
      obtain rfl : v2 = _ := by simpa using e2
      obtain rfl : v3 = _ := by simpa using e3
      have ea : ∀ j, (⟨(a.add (i * 4)).block, (a.add (i * 4)).off + (j + 1), none⟩ : Addr) = a.add (i * 4 + (j + 1)) := fun j => by rw [← add_of_add]; rfl
      exact ⟨⟨q0, q1, q2, q3⟩, ⟨c0, by rw [ea 0]; exact c1, by rw [ea 1]; exact c2, by rw [ea 2]; exact c3⟩, ⟨w0, w1, w2, w3⟩⟩
    obtain ⟨f, hfp⟩ := choose_lt each
    have hlen : ((List.range len).map f).length = len := by simp
    refine ⟨(List.range len).map f, some a, cap, by rw [hlen], by rw [hlen]; exact hl, hm, fun hn => ⟨a, rfl, ?_, fun i hi => ?_⟩, fun x hx => ?_⟩
    · have := World.block_lt_of_cell? W _ (hfp 0 (by rw [hlen] at hn; exact hn)).1.k
      rwa [block_of_add] at this
    · rw [getElem_map_range]
      exact (hfp i (by rw [hlen] at hi; exact hi)).1
    · obtain ⟨i, hi, rfl⟩ := List.mem_map.1 hx
      exact (hfp i (List.mem_range.1 hi)).2
end Go.Proofs.YtjbnfigpflambabDoor
