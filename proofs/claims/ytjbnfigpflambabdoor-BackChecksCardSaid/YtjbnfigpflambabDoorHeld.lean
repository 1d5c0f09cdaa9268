/- back.held: has another session a write of a row? -/
import Derived.Test.YtjbnfigpflambabDoorFind
namespace Go.Proofs.YtjbnfigpflambabDoor
open Go.ChangeShapes Go.WideShapes Go.ChangeAt Go.RowKit

/-- are all sessions' writes sorted? -/
def SortedW (ss : List Se) : Prop := ∀ j, Sorted (ss.getD j Se.new).wri
/-- what held says: yes only if it is so; where all writes are sorted: just if it is so -/
structure HeldR (ss : List Se) (i : Nat) (key : ByteArray) (b : Bool) : Prop where
  here : b = true → heldB ss i key = true
  sorted : SortedW ss → b = heldB ss i key
theorem heldR_yes {ss : List Se} {i k : Nat} {key : ByteArray} (hk : k < ss.length) (hne : k ≠ i) (h : hasK ss[k].wri key = true) : HeldR ss i key true := by
  have e : heldB ss i key = true := (held_iff _ _ _).2 ⟨k, hk, hne, by rw [getD_at hk]; exact h⟩
  exact ⟨fun _ => e, fun _ => e.symm⟩
theorem heldR_no {ss : List Se} {i : Nat} {key : ByteArray} (h : SortedW ss → ∀ j, j < ss.length → j ≠ i → hasK (ss.getD j Se.new).wri key = false) : HeldR ss i key false := by
  refine ⟨(fun e => by cases e), fun hs => ?_⟩
  cases e : heldB ss i key with
  | false => rfl
  | true =>
    obtain ⟨j, hj, hne, hk⟩ := (held_iff _ _ _).1 e
    rw [h hs j hj hne] at hk
    cases hk
set_option maxHeartbeats 4000000 in
set_option maxRecDepth 100000 in
theorem held_any (w : World) (r s : Value) (ss : List Se) (i : Nat) (key : ByteArray) (h : SL w w.heap.size s ss) (_hr : r.oneCell' = true) (_hi : i ≤ 1000) :
    Calls Tryd.prog 33 #[.agg #[r, s], .int .i64 (i : Nat), .string key] w fun e w' => ∃ b, e = .returned (.bool b) ∧ HeldR ss i key b ∧ Below w.heap.size w w' := by
  obtain ⟨A, c, rfl, hc, hn, hs⟩ := h
  have HS := Lib.hid hs
  clear hs hc
  obtain ⟨n, hN⟩ : ∃ n, ss.length = n := ⟨_, rfl⟩
  rw [hN] at hn ⊢
  have HN := Lib.hid hN
  clear hN
  go_enter Tryd.func33, Tryd.ntmps33
  go_wp2_with fail
  go_loopw [14] (fun q wx => ∃ k : Nat, k ≤ n ∧ q = .int .i64 k ∧ Hid (SortedW ss → ∀ j, j < k → j ≠ i → hasK (ss.getD j Se.new).wri key = false) ∧ Below w.heap.size w wx) (fun q _ => n - (intOf q).toNat)
  case atStart => exact ⟨0, Nat.zero_le _, rfl, Lib.hid (fun _ j hj => absurd hj (Nat.not_lt_zero _)), boxed _ _⟩
  case round =>
    obtain ⟨k, hk, rfl, HG, hb⟩ := hrel
    by_cases hlt : k < n
    · have hkl : k < ss.length := by rw [HN.out]; exact hlt
      obtain ⟨ad, hA, hB, hse⟩ := HS.out (by rw [HN.out]; omega)
      subst hA
      have q := (hse k hkl).below (by rw [block_of_add]; exact hB) hb
      obtain ⟨t, ht⟩ : ∃ t, ss[k] = t := ⟨_, rfl⟩
      rw [ht] at q
      obtain ⟨x0, ⟨v1, x1, p1⟩, ⟨v2, x2, p2⟩, ⟨v3, x3, p3⟩, ⟨v4, x4, p4⟩, -, -⟩ := q
      obtain ⟨A1, z1, rfl⟩ := p1.form
      obtain ⟨A2, z2, rfl⟩ := p2.form
      obtain ⟨A3, z3, rfl⟩ := p3.form
      obtain ⟨A4, z4, rfl⟩ := p4.form
      have P4 := Lib.hid ((p4.more hb.size).alloc (Nat.le_refl _) (.cells #[.int .i64 t.st, .slice A1 t.set.length z1, .slice A2 t.pre.length z2, .slice A3 t.sav.length z3, .slice A4 t.wri.length z4] 58))
      have HT := Lib.hid ht
      have HB := Lib.hid hb
      have g1 : (k : Int) < (n : Int) := by omega
      have g2 : (0 : Int) ≤ (k : Int) := by omega
      have l3 : (ad.add (k * 5)).block < wr.heap.size := World.block_lt_of_cell? wr _ x0
      clear p1 p2 p3 p4 ht hse hb hB
      go_wp2_with fail
      refine (find_any _ _ t.wri key (P4.out.more (by simp))).mono ?_
      rintro e w1 ⟨ix, there, rfl, hf, b1⟩
      have HF := Lib.hid hf
      have HB1 := Lib.hid (below_step HB.out (Nat.le_refl _) (below_of_alloc (Nat.le_refl _) b1))
      clear hf b1
      cases there with
      | true =>
        by_cases hki : k = i
        · have e1 : ((k : Int) != (i : Int)) = false := by simp [hki]
          have e2 : (k != i) = false := by simp [hki]
          have HG2 := Lib.hid (show SortedW ss → ∀ j, j < k + 1 → j ≠ i → hasK (ss.getD j Se.new).wri key = false from fun hs j hj hne => HG.out hs j (by omega) hne)
          clear hki
          go_wp2_with fail
          go_roundw
          case rel => exact ⟨k + 1, by omega, by go_num, HG2, HB1.out⟩
          case measure => simp [intOf]; omega
        · have e1 : ((k : Int) != (i : Int)) = true := by simp; omega
          have e2 : (k != i) = true := by simp [hki]
          have HR := Lib.hid (heldR_yes (key := key) hkl hki (by
            rw [HT.out]
            obtain ⟨hx, e⟩ := HF.out.here rfl
            exact (hasK_iff _ _).2 (List.mem_map.2 ⟨_, List.getElem_mem hx, e⟩)))
          clear hki
          go_wp2_with fail
          go_ret
          exact ⟨true, rfl, HR.out, HB1.out⟩
      | false =>
        have HG2 := Lib.hid (show SortedW ss → ∀ j, j < k + 1 → j ≠ i → hasK (ss.getD j Se.new).wri key = false from fun hs j hj hne => by
          rcases Nat.lt_succ_iff_lt_or_eq.1 hj with hj | rfl
          · exact HG.out hs j hj hne
          · have h1 := hs j
            rw [getD_at hkl, HT.out] at h1 ⊢
            exact (HF.out.sorted h1).2.symm)
        go_wp2_with fail
        go_roundw
        case rel => exact ⟨k + 1, by omega, by go_num, HG2, HB1.out⟩
        case measure => simp [intOf]; omega
    · obtain rfl : k = n := by omega
      have HR := Lib.hid (heldR_no (key := key) (fun hs j hj hne => HG.out hs j (by rw [← HN.out]; exact hj) hne))
      have HB := Lib.hid hb
      clear hb
      go_wp2_with fail
      go_ret
      exact ⟨false, rfl, HR.out, HB.out⟩
end Go.Proofs.YtjbnfigpflambabDoor
