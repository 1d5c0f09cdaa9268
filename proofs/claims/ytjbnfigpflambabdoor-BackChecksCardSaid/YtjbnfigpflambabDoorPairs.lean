/- Slices of pairs in memory: what reads as a list of pairs; copies of such slices; the laws' comparison. -/
import Derived.Test.YtjbnfigpflambabDoorBlk
import Derived.Test.YtjbnfigpflambabDoorWo
import Derived.Deep.QuietTactic
import Derived.BigQuiet
import Derived.WalkSpells
import Derived.WalkLawsBesides
import Derived.Deep.RegionHeld3
namespace Go.Proofs.YtjbnfigpflambabDoor
open Go.ChangeShapes Go.WideShapes Go.ChangeAt Go.RowKit

def cellsP (l : List Pr) : List Value := l.flatMap fun p => [.string p.k, .string p.v]
theorem cellsP_length (l : List Pr) : (cellsP l).length = l.length * 2 := by
  induction l with
  | nil => rfl
  | cons p l ih => simp only [cellsP, List.flatMap_cons, List.length_append, List.length_cons, List.length_nil] at ih ⊢; omega
theorem cellsP_at (l : List Pr) (i : Nat) (h : i < l.length) : (cellsP l)[i * 2]? = some (.string l[i].k) ∧ (cellsP l)[i * 2 + 1]? = some (.string l[i].v) := by
  induction l generalizing i with
  | nil => simp at h
  | cons p l ih =>
    have e : cellsP (p :: l) = .string p.k :: .string p.v :: cellsP l := rfl
    rw [e]
    rcases i with _ | i
    · exact ⟨rfl, rfl⟩
    · have := ih i (by simpa using h)
      have e1 : (i + 1) * 2 = i * 2 + 2 := by omega
      rw [e1]
      simpa using this
theorem cellsP_one (l : List Pr) : ∀ u ∈ cellsP l, u.oneCell' = true := by
  intro u hu
  unfold cellsP at hu
  obtain ⟨p, _, hp⟩ := List.mem_flatMap.1 hu
  simp only [List.mem_cons, List.not_mem_nil, or_false] at hp
  rcases hp with rfl | rfl <;> rfl
/-- pairs whose bytes the model can hold -/
def Fits (l : List Pr) : Prop := l.length ≤ 4398046510976 ∧ ∀ p ∈ l, p.k.size ≤ maxLen ∧ p.v.size ≤ maxLen
/-- a value that reads as a list of pairs, below a block -/
def PL (w : World) (B : Nat) (v : Value) (l : List Pr) : Prop := ∃ A c, v = .slice A l.length c ∧ l.length ≤ c ∧ Reads w B 2 A l.length (cellsP l) ∧ Fits l
theorem PL.below {w w' : World} {B : Nat} {v : Value} {l : List Pr} (h : PL w B v l) (hb : Below B w w') : PL w' B v l := by
  obtain ⟨A, c, h1, h2, h3, h4⟩ := h
  exact ⟨A, c, h1, h2, h3.below hb, h4⟩
theorem PL.more {w : World} {B B' : Nat} {v : Value} {l : List Pr} (h : PL w B v l) (hB : B ≤ B') : PL w B' v l := by
  obtain ⟨A, c, h1, h2, h3, h4⟩ := h
  exact ⟨A, c, h1, h2, h3.more hB, h4⟩
theorem PL.keep {w w' : World} {v : Value} {l : List Pr} (h : PL w w.heap.size v l) (hb : Below w.heap.size w w') : PL w' w'.heap.size v l := (h.below hb).more hb.size
theorem PL.alloc {w : World} {B : Nat} {v : Value} {l : List Pr} (h : PL w B v l) (hB : B ≤ w.heap.size) (o : Obj) : PL (w.alloc o) B v l := h.below ((Below.refl _ _).alloc hB o)
theorem PL.drewN {w : World} {B : Nat} {v : Value} {l : List Pr} (h : PL w B v l) (n : Nat) : PL (w.drewN n) B v l := h.below (below_drewN (Below.refl _ _) n)
theorem PL.fits {w : World} {B : Nat} {v : Value} {l : List Pr} (h : PL w B v l) : Fits l := by
  obtain ⟨_, _, _, _, _, h⟩ := h
  exact h
theorem PL.form {w : World} {B : Nat} {v : Value} {l : List Pr} (h : PL w B v l) : ∃ A c, v = .slice A l.length c := by
  obtain ⟨A, c, h, _⟩ := h
  exact ⟨A, c, h⟩
theorem PL.nil_ (w : World) (B : Nat) : PL w B (.slice none 0 0) [] := ⟨none, 0, rfl, Nat.le_refl _, .none_, by simp, by simp⟩
theorem pair_info : (Tryd.prog.info? 66).map (fun i => (i.zero, i.size, i.bytes)) = some (some (.agg #[.string ⟨#[]⟩, .string ⟨#[]⟩]), 2, 32) := by kernel_rfl
/-- what the call made and owns reads as pairs -/
theorem PL.of_own {w : World} {base : Nat} {v : Value} {l : List Pr} (h : w.ownsRow base 66 2 v l.length (cellsP l)) (hf : Fits l) : PL w w.heap.size v l := by
  rcases h.2 with ⟨rfl, h0⟩ | ⟨g, cap, cur, hv, _, _, hn, _⟩
  · have : l = [] := List.eq_nil_of_length_eq_zero h0
    subst this
    exact .nil_ _ _
  · subst hv
    exact ⟨_, cap, rfl, hn, Reads.of_own h, hf⟩
theorem own_empty (w : World) (t : TypeId) (B : Nat) (hB : B ≤ w.heap.size) : (w.alloc (.cells #[] t)).ownsRow B t 2 (.slice (some ⟨w.heap.size, 0, none⟩) 0 0) 0 [] :=
  World.ownsRow_made w #[] 0 hB (Nat.zero_le _) rfl
set_option maxHeartbeats 1000000 in
/-- slices.Clone -/
theorem clone_any (w : World) (v : Value) (l : List Pr) (h : PL w w.heap.size v l) :
    Calls Tryd.prog 70 #[v] w fun e w' => ∃ v', e = .returned v' ∧ w'.ownsRow w.heap.size 66 2 v' l.length (cellsP l) ∧ Below w.heap.size w w' := by
  obtain ⟨i0, hi0, hz0, hz1, hz2⟩ := info_parts pair_info
  have hnil := fun (w : World) (a : Option Addr) (n c n' c' : Nat) => Lib.run_eql_slice_nil (P := Tryd.prog) w 28 66 a n c n' c' Tryd.underlying28
  obtain ⟨A, c, rfl, hc, hr, hf⟩ := h
  rcases A with _ | ad
  · have h0 : l.length = 0 := by
      rcases Nat.eq_zero_or_pos l.length with h | h
      · exact h
      · obtain ⟨ad, e, _⟩ := hr.2 h
        cases e
    have : l = [] := List.eq_nil_of_length_eq_zero h0
    subst this
    clear hr hf
    go_enter Tryd.func70, Tryd.ntmps70
    go_wp2_with fail
    go_ret
    exact ⟨_, rfl, World.ownsRow_nil _ _ _ _, Below.refl _ _⟩
  · have HR := Lib.hid hr
    have HF := Lib.hid hf
    clear hr hf
    go_enter Tryd.func70, Tryd.ntmps70
    go_wp2_with (at_builtin; refine wpList_append_any _ rfl (.tmp 5) (.tmp 6) 28 rfl w.heap.size 66 i0 _ 2 32 Tryd.underlying28 hi0 hz0 hz1 hz2 rfl (by decide) (.slice (some ⟨w.heap.size, 0, none⟩) 0 0) 0 [] rfl (own_empty w _ _ (Nat.le_refl _)) w.heap.size (some ad) l.length c (cellsP l) rfl (HR.out.alloc (Nat.le_refl _) _) (cellsP_one l) (by have := HF.out.1; unfold maxLen; omega) (by have := HF.out.1; omega) (by simp) ?_; intro v' w1 hown hgr hat)
    have hb : Below w.heap.size w w1 := (boxed w _).grown hgr (by simp) (fun k hk => Nat.le_of_eq (by simpa [Value.ownBlock] using hk))
    have HO := Lib.hid hown
    have HB := Lib.hid hb
    clear hown hgr hat hb
    go_wp2_with fail
    go_ret
    exact ⟨_, rfl, by simpa using HO.out, HB.out⟩
/-- a pair's two cells -/
theorem pair_at {w : World} {B : Nat} {A : Option Addr} {l : List Pr} (h : Reads w B 2 A l.length (cellsP l)) {k : Nat} (hk : k < l.length) :
    ∃ ad, A = some ad ∧ ad.block < B ∧ w.cell? (ad.add (k * 2)) = some (.string l[k].k) ∧ w.cell? ⟨(ad.add (k * 2)).block, (ad.add (k * 2)).off + 1, none⟩ = some (.string l[k].v) := by
  obtain ⟨ad, hA, hB, hcell⟩ := h.2 (by omega)
  obtain ⟨p1, p2⟩ := cellsP_at l k hk
  exact ⟨ad, hA, hB, hcell _ _ p1, by have h := hcell _ _ p2; rw [← add_of_add] at h; exact h⟩
theorem same_pairs (w : World) (B B' : Nat) (u v : Value) (l : List Pr) (hu : PL w B u l) (hv : PL w B' v l) :
    Calls Tryd.prog 53 #[u, v] w fun e w' => e = .returned (.bool true) ∧ ∃ n, w' = w.drewN n := by
  obtain ⟨A, c, rfl, hc, hr, hf⟩ := hu
  obtain ⟨A', c', rfl, hc', hr', _⟩ := hv
  have hl : l.length ≤ 4398046510976 := hf.1
  have HR := Lib.hid hr
  have HR' := Lib.hid hr'
  clear hr hr' hf hc hc'
  go_enter Tryd.func53, Tryd.ntmps53
  go_wp2_with fail
  go_loopw [5] (fun i wx => ∃ k n : Nat, k ≤ l.length ∧ i = .int .i64 k ∧ wx = w.drewN n) (fun i _ => l.length - (intOf i).toNat)
  case atStart => exact ⟨0, 0, Nat.zero_le _, rfl, rfl⟩
  case round =>
    obtain ⟨k, n, hk, rfl, rfl⟩ := hrel
    by_cases hlt : k < l.length
    · obtain ⟨ad, hA, -, c1, c2⟩ := pair_at HR.out hlt
      obtain ⟨ad', hA', -, c3, c4⟩ := pair_at HR'.out hlt
      subst hA hA'
      obtain ⟨x, hx⟩ : ∃ x, l[k].k = x := ⟨_, rfl⟩
      obtain ⟨y, hy⟩ : ∃ y, l[k].v = y := ⟨_, rfl⟩
      rw [hx] at c1 c3
      rw [hy] at c2 c4
      clear hx hy
      have g1 : (k : Int) < (l.length : Int) := by omega
      have g2 : (0 : Int) ≤ (k : Int) := by omega
      go_wp2_with fail
      go_quiet (fail)
      go_wp2_with fail
      go_roundw
      case rel => exact ⟨k + 1, _, by omega, by go_num, rfl⟩
      case measure => simp [intOf]; omega
    · obtain rfl : k = l.length := by omega
      go_wp2_with fail
      go_ret
      exact ⟨rfl, _, rfl⟩

/-! sessions and worlds -/
/-- a session's five cells, at an address -/
structure SeAt (w : World) (B : Nat) (a : Addr) (s : Se) : Prop where
  st : w.cell? a = some (.int .i64 s.st)
  set : ∃ v, w.cell? ⟨a.block, a.off + 1, none⟩ = some v ∧ PL w B v s.set
  pre : ∃ v, w.cell? ⟨a.block, a.off + 2, none⟩ = some v ∧ PL w B v s.pre
  sav : ∃ v, w.cell? ⟨a.block, a.off + 3, none⟩ = some v ∧ PL w B v s.sav
  wri : ∃ v, w.cell? ⟨a.block, a.off + 4, none⟩ = some v ∧ PL w B v s.wri
  i64 : -9223372036854775808 ≤ s.st ∧ s.st ≤ 9223372036854775807
/-- a value that reads as a list of sessions -/
def SL (w : World) (B : Nat) (v : Value) (ss : List Se) : Prop :=
  ∃ A c, v = .slice A ss.length c ∧ ss.length ≤ c ∧ ss.length ≤ 1353245080300 ∧ (0 < ss.length → ∃ ad, A = some ad ∧ ad.block < B ∧ ∀ i (h : i < ss.length), SeAt w B (ad.add (i * 5)) ss[i])
structure WL (w : World) (B : Nat) (r s : Value) (W : Wo) : Prop where
  rows : PL w B r W.rows
  ses : SL w B s W.ses
section
variable {w w' : World} {B B' : Nat}
theorem SeAt.below {a : Addr} {s : Se} (h : SeAt w B a s) (ha : a.block < B) (hb : Below B w w') : SeAt w' B a s := by
  obtain ⟨h0, ⟨v1, c1, p1⟩, ⟨v2, c2, p2⟩, ⟨v3, c3, p3⟩, ⟨v4, c4, p4⟩, h5⟩ := h
  exact ⟨(hb.cell ha).trans h0, ⟨v1, (hb.cell (by exact ha)).trans c1, p1.below hb⟩, ⟨v2, (hb.cell (by exact ha)).trans c2, p2.below hb⟩, ⟨v3, (hb.cell (by exact ha)).trans c3, p3.below hb⟩, ⟨v4, (hb.cell (by exact ha)).trans c4, p4.below hb⟩, h5⟩
theorem SeAt.more {a : Addr} {s : Se} (h : SeAt w B a s) (hB : B ≤ B') : SeAt w B' a s := by
  obtain ⟨h0, ⟨v1, c1, p1⟩, ⟨v2, c2, p2⟩, ⟨v3, c3, p3⟩, ⟨v4, c4, p4⟩, h5⟩ := h
  exact ⟨h0, ⟨v1, c1, p1.more hB⟩, ⟨v2, c2, p2.more hB⟩, ⟨v3, c3, p3.more hB⟩, ⟨v4, c4, p4.more hB⟩, h5⟩
theorem SL.below {v : Value} {ss : List Se} (h : SL w B v ss) (hb : Below B w w') : SL w' B v ss := by
  obtain ⟨A, c, h1, h2, h3, h4⟩ := h
  refine ⟨A, c, h1, h2, h3, fun hn => ?_⟩
  obtain ⟨ad, e, hB, hs⟩ := h4 hn
  exact ⟨ad, e, hB, fun i hi => (hs i hi).below (by rw [block_of_add]; exact hB) hb⟩
theorem SL.more {v : Value} {ss : List Se} (h : SL w B v ss) (hB : B ≤ B') : SL w B' v ss := by
  obtain ⟨A, c, h1, h2, h3, h4⟩ := h
  refine ⟨A, c, h1, h2, h3, fun hn => ?_⟩
  obtain ⟨ad, e, hb, hs⟩ := h4 hn
  exact ⟨ad, e, Nat.lt_of_lt_of_le hb hB, fun i hi => (hs i hi).more hB⟩
theorem WL.below {r s : Value} {W : Wo} (h : WL w B r s W) (hb : Below B w w') : WL w' B r s W := ⟨h.rows.below hb, h.ses.below hb⟩
theorem WL.more {r s : Value} {W : Wo} (h : WL w B r s W) (hB : B ≤ B') : WL w B' r s W := ⟨h.rows.more hB, h.ses.more hB⟩
theorem WL.keep {r s : Value} {W : Wo} (h : WL w w.heap.size r s W) (hb : Below w.heap.size w w') : WL w' w'.heap.size r s W := (h.below hb).more hb.size
end
set_option maxHeartbeats 4000000 in
set_option maxRecDepth 100000 in
theorem same_world (w : World) (r s r' s' : Value) (W : Wo) (h : WL w w.heap.size r s W) (h' : WL w w.heap.size r' s' W) :
    Calls Tryd.prog 25 #[.agg #[r, s], .agg #[r', s']] w fun e w' => e = .returned (.bool true) ∧ Below w.heap.size w w' := by
  have HW := Lib.hid h
  have HW' := Lib.hid h'
  obtain ⟨A, c, rfl, hc, hn, hs⟩ := h.ses
  obtain ⟨A', c', rfl, hc', hn', hs'⟩ := h'.ses
  have HS := Lib.hid hs
  have HS' := Lib.hid hs'
  clear h h' hs hs' hc hc'
  obtain ⟨n, hN⟩ : ∃ n, W.ses.length = n := ⟨_, rfl⟩
  rw [hN] at hn hn' ⊢
  have HN := Lib.hid hN
  clear hN
  go_enter Tryd.func25, Tryd.ntmps25
  go_wp2_with fail
  refine (same_pairs _ _ _ _ _ W.rows ((HW.out.rows.below (boxed2 _ _ _))) ((HW'.out.rows.below (boxed2 _ _ _)))).mono ?_
  rintro e w1 ⟨rfl, n1, rfl⟩
  go_wp2_with fail
  go_loopw [5] (fun i wx => ∃ k : Nat, k ≤ n ∧ i = .int .i64 k ∧ Below w.heap.size w wx ∧ wx.cell? ⟨w.heap.size, 1, none⟩ = some (.slice A n c) ∧ wx.cell? ⟨w.heap.size + 1, 1, none⟩ = some (.slice A' n c') ∧ w.heap.size + 2 ≤ wx.heap.size) (fun i _ => n - (intOf i).toNat)
  case atStart => exact ⟨0, Nat.zero_le _, rfl, below_drewN (boxed2 _ _ _) _, by go_simp, by go_simp, by simp [World.drewN]⟩
  case round =>
    obtain ⟨k, hk, rfl, hb, hx, hy, hz⟩ := hrel
    by_cases hlt : k < n
    · have hlt' : k < W.ses.length := by rw [HN.out]; exact hlt
      obtain ⟨ad, hA, hB, hse⟩ := HS.out (by omega)
      obtain ⟨ad', hA', hB', hse'⟩ := HS'.out (by omega)
      subst hA hA'
      have q := (hse k hlt').below (by rw [block_of_add]; exact hB) hb
      have q' := (hse' k hlt').below (by rw [block_of_add]; exact hB') hb
      obtain ⟨t, ht⟩ : ∃ t, W.ses[k] = t := ⟨_, rfl⟩
      rw [ht] at q q'
      obtain ⟨c0, ⟨v1, c1, p1⟩, ⟨v2, c2, p2⟩, ⟨v3, c3, p3⟩, ⟨v4, c4, p4⟩, i1, i2⟩ := q
      obtain ⟨d0, ⟨u1, d1, r1⟩, ⟨u2, d2, r2⟩, ⟨u3, d3, r3⟩, ⟨u4, d4, r4⟩, -, -⟩ := q'
      obtain ⟨_, _, rfl⟩ := p1.form
      obtain ⟨_, _, rfl⟩ := p2.form
      obtain ⟨_, _, rfl⟩ := p3.form
      obtain ⟨_, _, rfl⟩ := p4.form
      obtain ⟨_, _, rfl⟩ := r1.form
      obtain ⟨_, _, rfl⟩ := r2.form
      obtain ⟨_, _, rfl⟩ := r3.form
      obtain ⟨_, _, rfl⟩ := r4.form
      have P1 := Lib.hid (And.intro p1 r1)
      have P2 := Lib.hid (And.intro p2 r2)
      have P3 := Lib.hid (And.intro p3 r3)
      have P4 := Lib.hid (And.intro p4 r4)
      have HB := Lib.hid hb
      have g1 : (k : Int) < (n : Int) := by omega
      have g2 : (0 : Int) ≤ (k : Int) := by omega
      have l1 : w.heap.size < wr.heap.size := by omega
      have l2 : w.heap.size + 1 < wr.heap.size := by omega
      have l3 : (ad.add (k * 5)).block < wr.heap.size := World.block_lt_of_cell? wr _ c0
      have l4 : (ad'.add (k * 5)).block < wr.heap.size := World.block_lt_of_cell? wr _ d0
      have l5 : w.heap.size ≤ wr.heap.size := by omega
      have l6 : ∀ o : Obj, w.heap.size ≤ (wr.alloc o).heap.size := fun o => by simp; omega
      have L6 := Lib.hid l6
      clear p1 p2 p3 p4 r1 r2 r3 r4 ht hse hse' hb hB hB' hlt' l6
      go_wp2_with fail
      refine (same_pairs _ _ _ _ _ _ ((P1.out.1.alloc l5 _).alloc (L6.out _) _) ((P1.out.2.alloc l5 _).alloc (L6.out _) _)).mono ?_
      rintro e w1 ⟨rfl, q1, rfl⟩
      go_wp2_with fail
      refine (same_pairs _ _ _ _ _ _ (((P2.out.1.alloc l5 _).alloc (L6.out _) _).drewN _) (((P2.out.2.alloc l5 _).alloc (L6.out _) _).drewN _)).mono ?_
      rintro e w1 ⟨rfl, q2, rfl⟩
      go_wp2_with fail
      refine (same_pairs _ _ _ _ _ _ (((P3.out.1.alloc l5 _).alloc (L6.out _) _).drewN _) (((P3.out.2.alloc l5 _).alloc (L6.out _) _).drewN _)).mono ?_
      rintro e w1 ⟨rfl, q3, rfl⟩
      go_wp2_with fail
      refine (same_pairs _ _ _ _ _ _ (((P4.out.1.alloc l5 _).alloc (L6.out _) _).drewN _) (((P4.out.2.alloc l5 _).alloc (L6.out _) _).drewN _)).mono ?_
      rintro e w1 ⟨rfl, q4, rfl⟩
      go_wp2_with fail
      go_roundw
      case rel =>
        refine ⟨k + 1, by omega, by go_num, below_drewN ((HB.out.alloc l5 _).alloc (L6.out _) _) _, ?_, ?_, ?_⟩
        · go_simp
        · go_simp
        · simp [World.drewN]; omega
      case measure => simp [intOf]; omega
    · obtain rfl : k = n := by omega
      have HB := Lib.hid hb
      clear hb
      go_wp2_with fail
      go_ret
      exact ⟨rfl, HB.out⟩
end Go.Proofs.YtjbnfigpflambabDoor
