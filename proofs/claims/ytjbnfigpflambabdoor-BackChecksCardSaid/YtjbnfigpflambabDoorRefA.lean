/- The reference's at and isHeld. -/
import Derived.Test.YtjbnfigpflambabDoorPairs
import Derived.Test.YtjbnfigpflambabDoorWo
import Derived.Deep.CutBlock
namespace Go.Proofs.YtjbnfigpflambabDoor
open Go.ChangeShapes Go.WideShapes Go.ChangeAt Go.RowKit

theorem ref_str_no {a b : ByteArray} (h : ¬ a = b) : (a.toList == b.toList) = false := by
  cases hh : (a.toList == b.toList) with
  | false => rfl
  | true => exact absurd (str_inj (by simpa using hh)) h
theorem hasK_at {l : List Pr} {key : ByteArray} {k : Nat} (hk : k < l.length) (h : l[k].k = key) : hasK l key = true := by
  unfold hasK
  exact List.any_eq_true.2 ⟨l[k], List.getElem_mem _, by simpa using h⟩
theorem hasK_no {l : List Pr} {key : ByteArray} (h : ∀ j (hj : j < l.length), ¬ l[j].k = key) : hasK l key = false := by
  unfold hasK
  refine List.any_eq_false.2 fun p hp => ?_
  obtain ⟨j, hj, rfl⟩ := List.getElem_of_mem hp
  simpa using h j hj
set_option maxHeartbeats 2000000 in
set_option maxRecDepth 100000 in
theorem refat_any (w : World) (v : Value) (l : List Pr) (key : ByteArray) (h : PL w w.heap.size v l) :
    Calls Tryd.prog 59 #[v, .string key] w fun e w' => ∃ x, e = .returned (.tuple #[.string x, .bool (hasK l key)]) ∧ Below w.heap.size w w' := by
  obtain ⟨A, c, rfl, hc, hr, hf⟩ := h
  have hl : l.length ≤ 4398046510976 := hf.1
  have HR := Lib.hid hr
  obtain ⟨n, hN⟩ : ∃ n, l.length = n := ⟨_, rfl⟩
  rw [hN] at hl ⊢
  have HN := Lib.hid hN
  clear hr hf hc hN
  go_enter Tryd.func59, Tryd.ntmps59
  go_wp2_with fail
  go_loopw [6] (fun i wx => ∃ k : Nat, k ≤ n ∧ i = .int .i64 k ∧ Below w.heap.size w wx ∧ Hid (∀ j (hj : j < l.length), j < k → ¬ l[j].k = key)) (fun i _ => n - (intOf i).toNat)
  case atStart => exact ⟨0, Nat.zero_le _, rfl, Below.refl _ _, Lib.hid (fun j _ hj => absurd hj (Nat.not_lt_zero _))⟩
  case round =>
    obtain ⟨k, hk, rfl, hb, HJ⟩ := hrel
    by_cases hlt : k < n
    · have g1 : (k : Int) < (n : Int) := by omega
      have g2 : (0 : Int) ≤ (k : Int) := by omega
      have hkl : k < l.length := by rw [HN.out]; exact hlt
      have hr := HR.out
      obtain ⟨ad, hA, _, x0, x1⟩ := pair_at (hr.below hb) hkl
      subst hA
      obtain ⟨p, hp⟩ : ∃ p, l[k] = p := ⟨_, rfl⟩
      rw [hp] at x0 x1
      have HP := Lib.hid hp
      have HB := Lib.hid hb
      have HK := Lib.hid hkl
      obtain ⟨pk, pv⟩ := p
      simp only at x0 x1
      clear hp hr hb
      by_cases he : pk = key
      · subst he
        have HF := Lib.hid (show hasK l pk = true from hasK_at HK.out (by rw [HP.out]))
        go_wp2_with fail
        go_ret2
        exact ⟨pv, by rw [HF.out]; rfl, HB.out⟩
      · have n1 := ref_str_no he
        have HF := Lib.hid (show ∀ j (hj : j < l.length), j < k + 1 → ¬ l[j].k = key by
          intro j hj hjm
          rcases Nat.lt_succ_iff_lt_or_eq.1 hjm with h | h
          · exact HJ.out j hj h
          · subst h; rw [HP.out]; exact he)
        go_wp2_with fail
        go_roundw
        case rel => exact ⟨k + 1, by omega, by go_num, HB.out, HF⟩
        case measure => simp [intOf]; omega
    · have g1 : (n : Int) ≤ (k : Int) := by omega
      have HF := Lib.hid (show hasK l key = false from hasK_no fun j hj => HJ.out j hj (by rw [HN.out] at hj; omega))
      have HB := Lib.hid hb
      clear hb
      go_wp2_with fail
      go_ret2
      exact ⟨⟨#[]⟩, by rw [HF.out]; rfl, HB.out⟩
theorem heldB_no {ss : List Se} {me : Nat} {key : ByteArray} (h : ∀ j, j < ss.length → j ≠ me → hasK (ss.getD j Se.new).wri key = false) : heldB ss me key = false := by
  cases e : heldB ss me key with
  | false => rfl
  | true =>
    obtain ⟨j, hj, hne, hk⟩ := (held_iff _ _ _).1 e
    rw [h j hj hne] at hk
    cases hk
theorem heldB_yes {ss : List Se} {me k : Nat} {key : ByteArray} (hk : k < ss.length) (hne : k ≠ me) (h : hasK ss[k].wri key = true) : heldB ss me key = true :=
  (held_iff _ _ _).2 ⟨k, hk, hne, by rw [getD_at hk]; exact h⟩
set_option maxHeartbeats 4000000 in
set_option maxRecDepth 100000 in
theorem refheld_any (w : World) (Ar : Option Addr) (nr cr : Nat) (s : Value) (ss : List Se) (me : Nat) (key : ByteArray) (h : SL w w.heap.size s ss) (_hme : me ≤ 1000) :
    Calls Tryd.prog 37 #[.agg #[.slice Ar nr cr, s], .int .i64 (me : Nat), .string key] w fun e w' => e = .returned (.bool (heldB ss me key)) ∧ Below w.heap.size w w' := by
  obtain ⟨A, c, rfl, hc, hn, hs⟩ := h
  have HS := Lib.hid hs
  clear hs hc
  obtain ⟨n, hN⟩ : ∃ n, ss.length = n := ⟨_, rfl⟩
  rw [hN] at hn ⊢
  have HN := Lib.hid hN
  have B0 := Lib.hid (boxed w (.cells #[.slice Ar nr cr, .slice A n c] 31))
  have X0 := Lib.hid (Blk.new w 31 #[.slice Ar nr cr, .slice A n c])
  clear hN
  obtain ⟨q, hq⟩ : ∃ q, w.heap.size = q := ⟨_, rfl⟩
  rw [hq] at X0
  go_enter Tryd.func37, Tryd.ntmps37
  go_wp2_with fail
  go_loopw [7] (fun y wx => ∃ k : Nat, k ≤ n ∧ y = .int .i64 k ∧ Hid (∀ j, j < k → j ≠ me → hasK (ss.getD j Se.new).wri key = false) ∧ Below w.heap.size w wx ∧ Blk wx q 31 #[.slice Ar nr cr, .slice A n c]) (fun y _ => n - (intOf y).toNat)
  case atStart => exact ⟨0, Nat.zero_le _, rfl, Lib.hid (fun j hj => absurd hj (Nat.not_lt_zero _)), B0.out, X0.out⟩
  case round =>
    obtain ⟨k, hk, rfl, HG, hb, hx⟩ := hrel
    have f1 := hx.cell_ 1 _ rfl
    have HX := Lib.hid hx
    by_cases hlt : k < n
    · have hkl : k < ss.length := by rw [HN.out]; exact hlt
      obtain ⟨ad, hA, hB, hse⟩ := HS.out (by rw [HN.out]; omega)
      subst hA
      have y := (hse k hkl).below (by rw [block_of_add]; exact hB) hb
      obtain ⟨t, ht⟩ : ∃ t, ss[k] = t := ⟨_, rfl⟩
      rw [ht] at y
      obtain ⟨x0, -, -, -, ⟨v4, x4, p4⟩, -, -⟩ := y
      obtain ⟨A4, z4, rfl⟩ := p4.form
      have P4 := Lib.hid (p4.more hb.size)
      have HT := Lib.hid ht
      have HB := Lib.hid hb
      have HK := Lib.hid hkl
      have g1 : (k : Int) < (n : Int) := by omega
      have g2 : (0 : Int) ≤ (k : Int) := by omega
      clear p4 ht hse hb hB hx
      go_wp2_with fail
      refine (refat_any _ _ t.wri key P4.out).mono ?_
      rintro e w1 ⟨xv, rfl, b1⟩
      have HB1 := Lib.hid (below_step HB.out (Nat.le_refl _) b1)
      have HX1 := Lib.hid (HX.out.keep b1)
      obtain ⟨b, hbk⟩ : ∃ b, hasK t.wri key = b := ⟨_, rfl⟩
      rw [hbk]
      have HF := Lib.hid hbk
      clear b1 x0 x4 f1 hbk
      cases b with
      | true =>
        by_cases hki : k = me
        · have e1 : ((k : Int) != (me : Int)) = false := by simp [hki]
          have e2 : (k != me) = false := by simp [hki]
          have HG2 := Lib.hid (show ∀ j, j < k + 1 → j ≠ me → hasK (ss.getD j Se.new).wri key = false from fun j hj hne => HG.out j (by omega) hne)
          clear hki
          go_wp2_with fail
          go_roundw
          case rel => exact ⟨k + 1, by omega, by go_num, HG2, HB1.out, HX1.out⟩
          case measure => simp [intOf]; omega
        · have e1 : ((k : Int) != (me : Int)) = true := by simp; omega
          have e2 : (k != me) = true := by simp [hki]
          have HR := Lib.hid (heldB_yes (key := key) HK.out hki (by rw [HT.out]; exact HF.out))
          clear hki
          go_wp2_with fail
          go_ret
          exact ⟨by rw [HR.out]; rfl, HB1.out⟩
      | false =>
        have HG2 := Lib.hid (show ∀ j, j < k + 1 → j ≠ me → hasK (ss.getD j Se.new).wri key = false from fun j hj hne => by
          rcases Nat.lt_succ_iff_lt_or_eq.1 hj with hj | rfl
          · exact HG.out j hj hne
          · rw [getD_at HK.out, HT.out]
            exact HF.out)
        go_wp2_with fail
        go_roundw
        case rel => exact ⟨k + 1, by omega, by go_num, HG2, HB1.out, HX1.out⟩
        case measure => simp [intOf]; omega
    · have g1 : (n : Int) ≤ (k : Int) := by omega
      have HR := Lib.hid (heldB_no (ss := ss) (me := me) (key := key) (fun j hj hne => HG.out j (by rw [HN.out] at hj; omega) hne))
      have HB := Lib.hid hb
      clear hb hx
      go_wp2_with fail
      go_ret
      exact ⟨by rw [HR.out]; rfl, HB.out⟩
end Go.Proofs.YtjbnfigpflambabDoor
