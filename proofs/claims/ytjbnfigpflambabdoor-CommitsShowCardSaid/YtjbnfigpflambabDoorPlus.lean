/- back.with: pairs with one more, in memory of its own. -/
import Derived.Test.YtjbnfigpflambabDoorWith
namespace Go.Proofs.YtjbnfigpflambabDoor
open Go.ChangeShapes Go.WideShapes Go.ChangeAt Go.RowKit

theorem insert_any (w : World) (B : Nat) (v : Value) (l : List Pr) (i vb c : Nat) (p : Pr) (h : OPL w B v l) (hl : l.length < 4398046510976) (hp : p.k.size ≤ maxLen ∧ p.v.size ≤ maxLen) (hi : i ≤ l.length) (hB : B ≤ w.heap.size)
    (hv : Blk w vb 66 #[.string p.k, .string p.v]) (hne : v.ownBlock ≠ some vb) :
    Calls Tryd.prog 102 #[v, .int .i64 (i : Nat), .slice (some ⟨vb, 0, none⟩) 1 c] w fun e w' => ∃ v', e = .returned v' ∧ OPL w' B v' (insP l i p) ∧ Below B w w' := by
  rcases Nat.lt_or_eq_of_le hi with hlt | rfl
  · rcases h.own.2 with ⟨_, h0⟩ | ⟨g, cap, cur, rfl, hBg, hg, hn, hm, hcs, hx⟩
    · omega
    · have hvg : vb ≠ g := fun e => hne (by simp [Value.ownBlock, e])
      by_cases hc : cap = l.length
      · subst hc
        exact insert_grow w B g l.length i cur l vb c p hg rfl hx h.fits hl hp hlt hB hv
      · exact insert_shift w B g l.length cap i cur l vb c p hg hBg rfl (by omega) hm hcs hx h.fits hl hp hlt hB hv hvg
  · exact insert_end w B v l vb c p h hl hp hB hv
theorem cellsP_set (l : List Pr) (i : Nat) (v : ByteArray) (h : i < l.length) : cellsP (l.set i ⟨l[i].k, v⟩) = (cellsP l).set (i * 2 + 1) (.string v) := by
  induction l generalizing i with
  | nil => simp at h
  | cons p l ih =>
    rcases i with _ | i
    · rfl
    · have e : (i + 1) * 2 + 1 = (i * 2 + 1) + 2 := by omega
      have := ih i (by simpa using h)
      show cellsP (p :: l.set i _) = _
      have e1 : ∀ m : List Pr, cellsP (p :: m) = .string p.k :: .string p.v :: cellsP m := fun m => rfl
      rw [e1, e1, e, List.set_cons_succ, List.set_cons_succ, ← this]
      rfl
/-- a value stored into a pair of the call's own -/
theorem own_set {w : World} {B g n cap i : Nat} {l : List Pr} {v : ByteArray} (h : OPL w B (.slice (some ⟨g, 0, none⟩) n cap) l) (hn : l.length = n) (hi : i < l.length) (hv : v.size ≤ maxLen) : OPL (w.setCell ⟨g, i * 2 + 1, none⟩ (.string v)) B (.slice (some ⟨g, 0, none⟩) n cap) (l.set i ⟨l[i].k, v⟩) := by
  subst hn
  rcases h.own.2 with ⟨e, _⟩ | ⟨g', cap', cur, e, hBg, hg, hn, hm, hcs, hx⟩
  · cases e
  · injection e with e1 e2 e3
    injection e1 with e1
    injection e1 with e1
    subst e1 e3
    refine ⟨?_, ?_⟩
    · rw [List.length_set]
      refine own_of_row hBg (cur := cur.setIfInBounds (i * 2 + 1) (.string v)) ?_ hn hm (by rw [Array.size_setIfInBounds, hcs]) ?_ (by rw [cellsP_length, List.length_set])
      · have := Blk.set_ (w := w) (g := g) (t := 66) (cs := cur) hg (i * 2 + 1) (.string v)
        exact this
      · rw [cellsP_set l i v hi, Array.toList_setIfInBounds, List.take_set, hx]
    · refine ⟨by rw [List.length_set]; exact h.fits.1, fun q hq => ?_⟩
      rcases List.mem_or_eq_of_mem_set hq with hq | rfl
      · exact h.fits.2 q hq
      · exact ⟨(h.fits.2 _ (List.getElem_mem hi)).1, hv⟩
theorem fits_plus {l : List Pr} {k v : ByteArray} (hs : Sorted l) (h : Fits l) (hl : l.length < 4398046510976) (hk : k.size ≤ maxLen) (hv : v.size ≤ maxLen) : Fits (plusP l k v) := by
  refine ⟨by rw [plus_length l k v hs]; split <;> omega, fun q hq => ?_⟩
  rcases plus_mem hq with rfl | ⟨hq, _⟩
  · exact ⟨hk, hv⟩
  · exact h.2 q hq
set_option maxHeartbeats 1000000 in
set_option maxRecDepth 100000 in
theorem with_any (w : World) (v : Value) (l : List Pr) (k u : ByteArray) (h : PL w w.heap.size v l) (hs : Sorted l) (hl : l.length < 4398046510976) (hk : k.size ≤ maxLen) (hu : u.size ≤ maxLen) :
    Calls Tryd.prog 90 #[v, .string k, .string u] w fun e w' => ∃ v', e = .returned v' ∧ OPL w' w.heap.size v' (plusP l k u) ∧ Below w.heap.size w w' := by
  have H := Lib.hid h
  have HS := Lib.hid hs
  have HU := Lib.hid hu
  have HK := Lib.hid hk
  clear h hs hu hk
  go_enter Tryd.func90, Tryd.ntmps90
  go_wp2_with fail
  refine (clone_own _ w.heap.size v l H.out (Nat.le_refl _)).mono ?_
  rintro e w1 ⟨v1, rfl, ho1, hb1⟩
  have HO1 := Lib.hid ho1
  have HB1 := Lib.hid hb1
  clear ho1 hb1
  go_wp2_with fail
  refine (find_any _ _ l k HO1.out.pl).mono ?_
  rintro e w2 ⟨i, b, rfl, hf, hb2⟩
  have HO2 := Lib.hid (HO1.out.keeps (.of_below hb2))
  have HB2 := Lib.hid (below_step HB1.out (Nat.le_refl _) hb2)
  have HF := Lib.hid hf
  clear hf hb2
  cases b with
  | true =>
    obtain ⟨hi, hik⟩ := HF.out.here rfl
    have h0 := HO2.out.own.2
    rcases h0 with ⟨_, h0⟩ | ⟨g, cap, cur, rfl, hBg, hg, hn, hm, hcs, hx⟩
    · omega
    have hc := (cell_of_row w2 g (i * 2 + 1) cur 66 (0, 0) hg).trans (Array.getElem?_eq_getElem (by omega))
    have hfz : ∀ j, w2.frozen? ⟨g, j, none⟩ = false := fun j => Blk.frozen (t := 66) (cs := cur) hg j
    obtain ⟨x, hx0⟩ : ∃ x, cur[i * 2 + 1] = x := ⟨_, rfl⟩
    rw [hx0] at hc
    have e1 : l.set i ⟨l[i].k, u⟩ = plusP l k u := by
      obtain ⟨e1, e2⟩ := HF.out.sorted HS.out
      subst e1
      rw [plus_there HS.out k u hi hik, hik]
    have HFIN := Lib.hid (show OPL (w2.setCell ⟨g, i * 2 + 1, none⟩ (.string u)) w.heap.size (.slice (some ⟨g, 0, none⟩) l.length cap) (plusP l k u) by rw [← e1]; exact own_set HO2.out rfl hi HU.out)
    have HBF := Lib.hid (HB2.out.setCell (p := ⟨g, i * 2 + 1, none⟩) hBg (.string u))
    have g1 : (i : Int) < (l.length : Int) := by omega
    have g2 : (0 : Int) ≤ (i : Int) := by omega
    clear e1 hx0 hx hcs hn hg hik hm
    go_wp2_with fail
    go_ret
    exact ⟨_, rfl, HFIN.out, HBF.out⟩
  | false =>
    obtain ⟨A, cap, rfl⟩ := HO2.out.form
    have hi := HF.out.le
    have e1 : insP l i ⟨k, u⟩ = plusP l k u := by
      obtain ⟨e1, e2⟩ := HF.out.sorted HS.out
      subst e1
      rw [plus_new HS.out k u e2.symm]
      rfl
    have HE := Lib.hid e1
    clear e1
    go_wp2_with fail
    refine (insert_any _ w.heap.size _ l i _ _ ⟨k, u⟩ (HO2.out.keeps (.alloc _ _)) hl ⟨HK.out, HU.out⟩ hi (Nat.le_trans HB2.out.size (by simp)) (Blk.new _ _ _) ?_).mono ?_
    · intro e
      have := (HO2.out.own.lt _ e).2
      omega
    rintro e w3 ⟨v3, rfl, ho3, hb3⟩
    rw [HE.out] at ho3
    have HO3 := Lib.hid ho3
    have HB3 := Lib.hid ((HB2.out.alloc HB2.out.size _).trans hb3)
    clear ho3 hb3
    go_wp2_with fail
    go_ret
    exact ⟨_, rfl, HO3.out, HB3.out⟩
end Go.Proofs.YtjbnfigpflambabDoor
