/- An argument that is a world (slices of pairs, and of sessions over such slices), opened to its cells. -/
import Derived.Test.YtjbnfigpflambabDoorPairs
import Derived.Deep.Slices
import Derived.Deep.Fields
import Derived.ChangeSame
import Derived.SizedLaws
namespace Go.Proofs.YtjbnfigpflambabDoor
open Go.ChangeShapes Go.WideShapes Go.ChangeAt Go.RowKit Go.Deep Go.Joins

section
variable {H : Type} {enc : TypeId × Value → H} {P : Program} {w : World} {base : Nat} {spare : Nat → Bool} {held : Bool}
theorem open_slice_fields {t e : TypeId} {fs : Array Field} {fuel : Nat} {cs : List Value} {x : DataW H × List MemPlace} (ht : P.underlying t = some (.slice e)) (he : P.underlying e = some (.struct fs))
    (hone : oneCellFields P fs = true) (hC : P.cellsOf e = fs.size) (h : DataW.trod enc P w base spare held fuel t cs = some x) :
    (cs = [.slice none 0 0] ∧ x = (.nil, [])) ∨
    ∃ (a : Addr) (len cap m : Nat) (D : Nat → DataW H) (Pl : Nat → List MemPlace), cs = [.slice (some a) len cap] ∧ base ≤ a.block ∧ len ≤ cap ∧ cap ≤ maxLen ∧ m = (if spare a.block then cap else len) ∧
      x = (.slice ((List.range len).map D) ((List.range (m - len)).map fun j => D (len + j)), MemPlace.row a (m * fs.size) ++ (List.range m).flatMap Pl) ∧
      ∀ i, i < m → ∃ (ys : List (DataW H × List MemPlace)) (n : Nat), D i = .agg (ys.map (·.1)) ∧ Pl i = ys.flatMap (·.2) ∧ ys.length = fs.size ∧
        ∀ (j : Nat) (f : Field), fs[j]? = some f → ∃ (v : Value) (y : DataW H × List MemPlace), w.cell? (a.add (i * fs.size + j)) = some v ∧ ys[j]? = some y ∧ DataW.trod enc P w base spare held n f.type [v] = some y := by
  rcases open_slice ht h with h0 | ⟨a, len, cap, m, n, D, Pl, hcs, hb, hl, hm, hmm, hx, hi⟩
  · exact .inl h0
  · refine .inr ⟨a, len, cap, m, D, Pl, hcs, hb, hl, hm, hmm, by rw [hC] at hx; exact hx, fun i him => ?_⟩
    obtain ⟨cs', hc, ht'⟩ := hi i him
    rw [hC] at hc
    obtain ⟨ys, n', hn', hy, hlen, hyl, hf⟩ := DataW.trod_struct he ht'
    obtain ⟨_, hcl, hat⟩ := World.cells?_some hc
    simp only [Prod.mk.injEq] at hy
    refine ⟨ys, n', hy.1, hy.2, hyl, fun j f hj => ?_⟩
    obtain ⟨ho, hk⟩ := hone_of hone j f hj
    have hjl : j < fs.size := (Array.getElem?_eq_some_iff.1 hj).1
    have hcell := hat j hjl
    have hv : cs'[j]? = some (cs'[j]'(by omega)) := List.getElem?_eq_getElem (by omega)
    have h1 := hf j f hj
    rw [ho, hk] at h1
    have hone' : (cs'.drop j).take 1 = [cs'[j]'(by omega)] := by
      rw [List.drop_eq_getElem_cons (by omega)]
      rfl
    rw [hone'] at h1
    have hys : ys[j]? = some (ys[j]'(by omega)) := List.getElem?_eq_getElem (by omega)
    refine ⟨_, _, ?_, hys, h1.trans hys⟩
    rw [← Go.Deep.add_add, hcell, hv]
end

theorem weightsAll_mem {H : Type} {P : Program} {e : TypeId} : ∀ {l : List (DataW H)} {d : DataW H}, d ∈ l → ∀ {q : Nat}, q ∈ d.weights P e → q ∈ DataW.weightsAll P e l
  | x :: l, d, h, q, hq => by
    simp only [DataW.weightsAll, List.mem_append]
    rcases List.mem_cons.1 h with rfl | h
    · exact .inl hq
    · exact .inr (weightsAll_mem h hq)
theorem cellsP_get {l : List Pr} {j : Nat} {u : Value} (h : (cellsP l)[j]? = some u) : ∃ i, ∃ hi : i < l.length, (j = i * 2 ∧ u = .string l[i].k) ∨ (j = i * 2 + 1 ∧ u = .string l[i].v) := by
  induction l generalizing j with
  | nil => simp [cellsP] at h
  | cons p l ih =>
    have e : cellsP (p :: l) = .string p.k :: .string p.v :: cellsP l := rfl
    rw [e] at h
    rcases j with _ | _ | j
    · simp at h
      exact ⟨0, by simp, .inl ⟨rfl, h.symm⟩⟩
    · simp at h
      exact ⟨0, by simp, .inr ⟨rfl, h.symm⟩⟩
    · simp only [List.getElem?_cons_succ] at h
      obtain ⟨i, hi, h⟩ := ih h
      refine ⟨i + 1, by simpa using hi, ?_⟩
      rcases h with ⟨h1, h2⟩ | ⟨h1, h2⟩
      · exact .inl ⟨by omega, by simpa using h2⟩
      · exact .inr ⟨by omega, by simpa using h2⟩
instance : Inhabited Pr := ⟨Pr.no⟩
instance : Inhabited Se := ⟨Se.new⟩
section
variable {H : Type} {enc : TypeId × Value → H} {W : World} {base : Nat} {sp : Nat → Bool} {held : Bool}
theorem getElem_map_range {α : Type} (f : Nat → α) (n i : Nat) (h : i < ((List.range n).map f).length) : ((List.range n).map f)[i] = f i := by simp
theorem pl_of_cells {a : Addr} {cap : Nat} {l : List Pr} (hl : l.length ≤ cap) (hz : l.length ≤ 4398046510976) (h : ∀ i (hi : i < l.length), W.cell? (a.add (i * 2)) = some (.string l[i].k) ∧ W.cell? (a.add (i * 2 + 1)) = some (.string l[i].v) ∧ l[i].k.size ≤ maxLen ∧ l[i].v.size ≤ maxLen) :
    PL W W.heap.size (.slice (some a) l.length cap) l := by
  refine ⟨some a, cap, rfl, hl, ⟨cellsP_length l, fun hn => ⟨a, rfl, ?_, fun j u hu => ?_⟩⟩, hz, fun p hp => ?_⟩
  · have := World.block_lt_of_cell? W _ (h 0 hn).1
    rwa [block_of_add] at this
  · obtain ⟨i, hi, ⟨rfl, rfl⟩ | ⟨rfl, rfl⟩⟩ := cellsP_get hu
    · exact (h i hi).1
    · exact (h i hi).2.1
  · obtain ⟨i, hi, rfl⟩ := List.getElem_of_mem hp
    exact (h i hi).2.2
set_option maxRecDepth 100000 in
theorem open_pl {n : Nat} {c : Value} {y : DataW H × List MemPlace} (h : DataW.trod enc Tryd.prog W base sp held n 28 [c] = some y) (hz : ∀ m ∈ y.1.weights Tryd.prog 28, m ≤ reachBytes) : ∃ l, PL W W.heap.size c l := by
  rcases open_slice_fields Tryd.underlying28 Tryd.underlying66 (by kernel_rfl) (by kernel_rfl) h with ⟨hc, rfl⟩ | ⟨a, len, cap, m, D, Pl, hc, hb, hl, hm, hmm, rfl, hf⟩
  · obtain rfl : c = _ := by simpa using hc
    exact ⟨[], PL.nil_ _ _⟩
  · obtain rfl : c = _ := by simpa using hc
    have hlm : len ≤ m := by rw [hmm]; split <;> omega
    have each : ∀ i, i < len → ∃ p : Pr, W.cell? (a.add (i * 2)) = some (.string p.k) ∧ W.cell? (a.add (i * 2 + 1)) = some (.string p.v) ∧ p.k.size ≤ maxLen ∧ p.v.size ≤ maxLen := by
      intro i hi
      obtain ⟨ys, n', _, _, _, hj⟩ := hf i (by omega)
      obtain ⟨v0, y0, c0, _, t0⟩ := hj 0 _ rfl
      obtain ⟨v1, y1, c1, _, t1⟩ := hj 1 _ rfl
      obtain ⟨s0, e0, _, w0⟩ := DataW.trod_string Tryd.underlying9 t0
      obtain ⟨s1, e1, _, w1⟩ := DataW.trod_string Tryd.underlying9 t1
      obtain rfl : v0 = _ := by simpa using e0
      obtain rfl : v1 = _ := by simpa using e1
      exact ⟨⟨s0, s1⟩, c0, c1, w0, w1⟩
    obtain ⟨f, hfp⟩ := choose_lt each
    have hlen : ((List.range len).map f).length = len := by simp
    have hzz : len ≤ 4398046510976 := by
      have := hz ((((List.range len).map D).length + ((List.range (m - len)).map fun j => D (len + j)).length) * Tryd.prog.bytesOf 66) (by simp [DataW.weights, Tryd.underlying28])
      have hb : Tryd.prog.bytesOf 66 = 32 := by kernel_rfl
      rw [hb] at this
      simp only [List.length_map, List.length_range, reachBytes] at this
      omega
    refine ⟨(List.range len).map f, ?_⟩
    have := pl_of_cells (W := W) (a := a) (cap := cap) (l := (List.range len).map f) (by rw [hlen]; exact hl) (by rw [hlen]; exact hzz) fun i hi => by
      rw [getElem_map_range]
      exact hfp i (by rw [hlen] at hi; exact hi)
    rw [hlen] at this
    exact this
set_option maxRecDepth 100000 in
theorem open_sl {n : Nat} {c : Value} {y : DataW H × List MemPlace} (h : DataW.trod enc Tryd.prog W base sp held n 29 [c] = some y) (hz : ∀ m ∈ y.1.weights Tryd.prog 29, m ≤ reachBytes) : ∃ ss, SL W W.heap.size c ss := by
  rcases open_slice_fields Tryd.underlying29 Tryd.underlying58 (by kernel_rfl) (by kernel_rfl) h with ⟨hc, rfl⟩ | ⟨a, len, cap, m, D, Pl, hc, hb, hl, hm, hmm, rfl, hf⟩
  · obtain rfl : c = _ := by simpa using hc
    exact ⟨[], none, 0, rfl, Nat.le_refl _, Nat.zero_le _, fun h => absurd h (by simp)⟩
  · obtain rfl : c = _ := by simpa using hc
    have hlm : len ≤ m := by rw [hmm]; split <;> omega
    have hzz : len ≤ 1353245080300 := by
      have := hz ((((List.range len).map D).length + ((List.range (m - len)).map fun j => D (len + j)).length) * Tryd.prog.bytesOf 58) (by simp [DataW.weights, Tryd.underlying29])
      have hb : Tryd.prog.bytesOf 58 = 104 := by kernel_rfl
      rw [hb] at this
      simp only [List.length_map, List.length_range, reachBytes] at this
      omega
    have hD : ∀ i, i < len → ∀ q ∈ (D i).weights Tryd.prog 58, q ≤ reachBytes := by
      intro i hi q hq
      refine hz q ?_
      simp only [DataW.weights, Tryd.underlying29, List.mem_cons, List.mem_append]
      exact .inr (.inl (weightsAll_mem (List.mem_map.2 ⟨i, List.mem_range.2 hi, rfl⟩) hq))
    have each : ∀ i, i < len → ∃ s : Se, SeAt W W.heap.size (a.add (i * 5)) s := by
      intro i hi
      obtain ⟨ys, n', hDi, _, hyl, hj⟩ := hf i (by omega)
      have hw := hD i hi
      rw [hDi] at hw
      obtain ⟨v0, y0, c0, g0, t0⟩ := hj 0 _ rfl
      obtain ⟨v1, y1, c1, g1, t1⟩ := hj 1 _ rfl
      obtain ⟨v2, y2, c2, g2, t2⟩ := hj 2 _ rfl
      obtain ⟨v3, y3, c3, g3, t3⟩ := hj 3 _ rfl
      obtain ⟨v4, y4, c4, g4, t4⟩ := hj 4 _ rfl
      have hwe : ∀ (j : Nat) (t : TypeId) (y : DataW H × List MemPlace), #[3, 28, 28, 28, 28].toList[j]? = some t → ys[j]? = some y → ∀ q ∈ y.1.weights Tryd.prog t, q ≤ reachBytes := by
        intro j t y ht hy q hq
        refine hw q ?_
        simp only [DataW.weights, Tryd.underlying58]
        exact DataW.weights_mem_each (j := j) (t := t) (d := y.1) ht (by simp [hy]) q hq
      obtain ⟨q0, e0, _, w0⟩ := DataW.trod_int Tryd.underlying3 t0
      obtain rfl : v0 = _ := by simpa using e0
      obtain ⟨l1, p1⟩ := open_pl t1 (hwe 1 _ _ rfl g1)
      obtain ⟨l2, p2⟩ := open_pl t2 (hwe 2 _ _ rfl g2)
      obtain ⟨l3, p3⟩ := open_pl t3 (hwe 3 _ _ rfl g3)
      obtain ⟨l4, p4⟩ := open_pl t4 (hwe 4 _ _ rfl g4)
      have ea : ∀ j, (⟨(a.add (i * 5)).block, (a.add (i * 5)).off + (j + 1), none⟩ : Addr) = a.add (i * 5 + (j + 1)) := fun j => by rw [← add_of_add]; rfl
      exact ⟨⟨q0, l1, l2, l3, l4⟩, c0, ⟨v1, by rw [ea 0]; exact c1, p1⟩, ⟨v2, by rw [ea 1]; exact c2, p2⟩, ⟨v3, by rw [ea 2]; exact c3, p3⟩, ⟨v4, by rw [ea 3]; exact c4, p4⟩, wf_i64 w0⟩
    obtain ⟨f, hfp⟩ := choose_lt each
    have hlen : ((List.range len).map f).length = len := by simp
    refine ⟨(List.range len).map f, some a, cap, by rw [hlen], by rw [hlen]; exact hl, by rw [hlen]; exact hzz, fun hn => ⟨a, rfl, ?_, fun i hi => ?_⟩⟩
    · have := World.block_lt_of_cell? W _ (hfp 0 (by rw [hlen] at hn; exact hn)).st
      rwa [block_of_add] at this
    · rw [getElem_map_range]
      exact hfp i (by rw [hlen] at hi; exact hi)
end
set_option maxRecDepth 100000 in
theorem open_world {H : Type} {enc : TypeId × Value → H} {W : World} {base base' : Nat} {sp : Nat → Bool} {held : Bool} {v : Value} {d : DataW H} {p : List MemPlace} (hv : Value.okWide Tryd.prog W .any base 31 v) (k : DataW.Trod enc Tryd.prog W base' sp held 31 v d p)
    (hz : ∀ m ∈ d.weights Tryd.prog 31, m ≤ reachBytes) : ∃ r s V, v = .agg #[r, s] ∧ WL W W.heap.size r s V := by
  obtain ⟨c0, c1, y0, y1, n, rfl, rfl, _, h0, h1⟩ := Go.Joins.open_agg2 Tryd.underlying31 (by kernel_rfl) (by kernel_rfl) hv k
  have hw : ∀ (j : Nat) (t : TypeId) (y : DataW H × List MemPlace), [28, 29][j]? = some t → [y0, y1][j]? = some y → ∀ q ∈ y.1.weights Tryd.prog t, q ≤ reachBytes := by
    intro j t y ht hy q hq
    refine hz q ?_
    simp only [DataW.weights, Tryd.underlying31]
    refine DataW.weights_mem_each (j := j) (t := t) (d := y.1) ht ?_ q hq
    rcases j with _ | _ | j
    · simp at hy; subst hy; rfl
    · simp at hy; subst hy; rfl
    · simp at hy
  obtain ⟨l, hl⟩ := open_pl h0 (hw 0 _ _ rfl rfl)
  obtain ⟨ss, hs⟩ := open_sl h1 (hw 1 _ _ rfl rfl)
  exact ⟨c0, c1, ⟨l, ss⟩, rfl, hl, hs⟩
end Go.Proofs.YtjbnfigpflambabDoor
