/- back.find: a key among pairs by binary search; what it finds is there, and on a sorted list it finds what there is. -/
import Derived.Test.YtjbnfigpflambabDoorCopy
import Derived.Test.YtjbnfigpflambabDoorShelf
namespace Go.Proofs.YtjbnfigpflambabDoor
open Go.ChangeShapes Go.WideShapes Go.ChangeAt Go.RowKit

theorem cmp_any (a b key : ByteArray) (w : World) :
    Calls Tryd.prog 81 #[.agg #[.string a, .string b], .string key] w fun e w' => e = .returned (.int .i64 (cmpS a key)) ∧ Below w.heap.size w w' := by
  go_enter Tryd.func81, Tryd.ntmps81
  go_wp2_with fail
  refine (Tryd.strings_Compare a key _).mono ?_
  rintro e w' ⟨rfl, rfl⟩
  go_wp2_with fail
  go_ret
  exact ⟨rfl, boxed _ _⟩
/-- what a search gives -/
structure Found (l : List Pr) (key : ByteArray) (i : Nat) (b : Bool) : Prop where
  le : i ≤ l.length
  here : b = true → ∃ h : i < l.length, l[i].k = key
  sorted : Sorted l → i = posP l key ∧ b = hasK l key
/-- the search's two ends -/
structure Ends (l : List Pr) (key : ByteArray) (lo hi : Nat) : Prop where
  le : lo ≤ hi
  len : hi ≤ l.length
  pos : Sorted l → lo ≤ posP l key ∧ posP l key ≤ hi
theorem Ends.right {l : List Pr} {key : ByteArray} {lo hi m : Nat} (h : Ends l key lo hi) (_ : lo ≤ m) (_ : m < hi) (hm : m < l.length) (hc : ltS l[m].k key = true) : Ends l key (m + 1) hi :=
  ⟨by omega, h.len, fun hs => by
    have := pos_lt hs key m hm
    rw [hc] at this
    have : m < posP l key := by simpa using this.symm
    exact ⟨this, (h.pos hs).2⟩⟩
theorem Ends.left {l : List Pr} {key : ByteArray} {lo hi m : Nat} (h : Ends l key lo hi) (h1 : lo ≤ m) (_h2 : m < hi) (hm : m < l.length) (hc : ltS l[m].k key = false) : Ends l key lo m :=
  ⟨h1, by omega, fun hs => by
    have := pos_lt hs key m hm
    rw [hc] at this
    have : ¬ m < posP l key := by simpa using this.symm
    exact ⟨(h.pos hs).1, by omega⟩⟩
theorem Ends.found {l : List Pr} {key : ByteArray} {i : Nat} (h : Ends l key i i) (hi : i < l.length) : Found l key i (decide (l[i].k = key)) := by
  refine ⟨h.len, fun e => ⟨hi, by simpa using e⟩, fun hs => ?_⟩
  have hp : posP l key = i := by have := h.pos hs; omega
  refine ⟨hp.symm, ?_⟩
  rw [Bool.eq_iff_iff, decide_eq_true_eq, has_pos hs]
  simp only [hp]
  exact ⟨fun e => ⟨hi, e⟩, fun ⟨_, e⟩ => e⟩
theorem Ends.missed {l : List Pr} {key : ByteArray} {i : Nat} (h : Ends l key i i) (hi : ¬ i < l.length) : Found l key i false := by
  refine ⟨h.len, (fun e => by cases e), fun hs => ?_⟩
  have hp : posP l key = i := by have := h.pos hs; omega
  refine ⟨hp.symm, ?_⟩
  cases e : hasK l key with
  | false => rfl
  | true =>
    obtain ⟨h1, _⟩ := (has_pos hs key).1 e
    omega
set_option maxHeartbeats 4000000 in
set_option maxRecDepth 100000 in
theorem search_any (w : World) (v : Value) (l : List Pr) (key : ByteArray) (h : PL w w.heap.size v l) :
    Calls Tryd.prog 80 #[v, .string key, .func (.func 81) #[] #[]] w fun e w' => ∃ i b, e = .returned (.tuple #[.int .i64 (i : Nat), .bool b]) ∧ Found l key i b ∧ Below w.heap.size w w' := by
  obtain ⟨A, c, rfl, hc, hr, hf⟩ := h
  have hl : l.length ≤ 4398046510976 := hf.1
  have HR := Lib.hid hr
  obtain ⟨n, hN⟩ : ∃ n, l.length = n := ⟨_, rfl⟩
  rw [hN] at hl ⊢
  have HN := Lib.hid hN
  clear hr hf hc hN
  go_enter Tryd.func80, Tryd.ntmps80
  go_wp2_with fail
  go_loopw [9, 10] (fun a b wx => ∃ lo hi : Nat, a = .int .i64 lo ∧ b = .int .i64 hi ∧ Ends l key lo hi ∧ Below w.heap.size w wx) (fun a b _ => (intOf b).toNat - (intOf a).toNat)
  case atStart => exact ⟨0, n, rfl, rfl, ⟨Nat.zero_le _, by rw [HN.out]; exact Nat.le_refl _, fun _ => ⟨Nat.zero_le _, by rw [← HN.out]; exact pos_le _ _⟩⟩, Below.refl _ _⟩
  case round =>
    obtain ⟨lo, hi, rfl, rfl, hE, hb⟩ := hrel
    have h1 := hE.le
    have h2 : hi ≤ n := by rw [← HN.out]; exact hE.len
    by_cases hlt : lo < hi
    · have hm : (lo + hi) / 2 < l.length := by rw [HN.out]; omega
      obtain ⟨ad, hA, -, c1, c2⟩ := pair_at (HR.out.below hb) hm
      subst hA
      obtain ⟨p, hp⟩ : ∃ p, l[(lo + hi) / 2] = p := ⟨_, rfl⟩
      rw [hp] at c1 c2
      have HE := Lib.hid hE
      have HB := Lib.hid hb
      have g1 : (0 : Int) ≤ ((lo : Int) + (hi : Int)) / 2 := by omega
      have g2 : ((lo : Int) + (hi : Int)) / 2 < (n : Int) := by omega
      have hcm := cmpS_neg p.k key
      have hcall := fun w => cmp_any p.k p.v key w
      obtain ⟨z, hz⟩ : ∃ z, cmpS p.k key = z := ⟨_, rfl⟩
      rw [hz] at hcm hcall
      have HC := Lib.hid hcall
      have HP := Lib.hid hp
      cases hless : ltS p.k key with
      | true =>
        rw [hless] at hcm
        have hn : z < 0 := by simpa using hcm
        have HL := Lib.hid hless
        clear hcm hz hcall hless hp hE hb
        go_wp2_with fail
        refine (HC.out _).mono ?_
        rintro e w1 ⟨rfl, b1⟩
        have B1 := Lib.hid (below_step HB.out (Nat.le_refl _) b1)
        clear b1
        go_wp2_with fail
        go_roundw
        case rel => exact ⟨(lo + hi) / 2 + 1, hi, by go_num, rfl, HE.out.right (by omega) (by omega) hm (by rw [HP.out]; exact HL.out), B1.out⟩
        case measure => simp [intOf]; omega
      | false =>
        rw [hless] at hcm
        have hn : 0 ≤ z := by simpa using hcm
        have HL := Lib.hid hless
        clear hcm hz hcall hless hp hE hb
        go_wp2_with fail
        refine (HC.out _).mono ?_
        rintro e w1 ⟨rfl, b1⟩
        have B1 := Lib.hid (below_step HB.out (Nat.le_refl _) b1)
        clear b1
        go_wp2_with fail
        go_roundw
        case rel => exact ⟨lo, (lo + hi) / 2, rfl, by go_num, HE.out.left (by omega) (by omega) hm (by rw [HP.out]; exact HL.out), B1.out⟩
        case measure => simp [intOf]; omega
    · obtain rfl : hi = lo := by omega
      have HE := Lib.hid hE
      have HB := Lib.hid hb
      by_cases hin : hi < n
      · have hm : hi < l.length := by rw [HN.out]; exact hin
        obtain ⟨ad, hA, -, c1, c2⟩ := pair_at (HR.out.below hb) hm
        subst hA
        obtain ⟨p, hp⟩ : ∃ p, l[hi] = p := ⟨_, rfl⟩
        rw [hp] at c1 c2
        have hcm := cmpS_zero p.k key
        have hcall := fun w => cmp_any p.k p.v key w
        obtain ⟨z, hz⟩ : ∃ z, cmpS p.k key = z := ⟨_, rfl⟩
        rw [hz] at hcm hcall
        obtain ⟨b, hbb⟩ : ∃ b, decide (p.k = key) = b := ⟨_, rfl⟩
        rw [hbb] at hcm
        have HC := Lib.hid hcall
        have hfound := hE.found hm
        rw [hp, hbb] at hfound
        have HF := Lib.hid hfound
        have g1 : (0 : Int) ≤ (hi : Int) := by omega
        have g2 : (hi : Int) < (n : Int) := by omega
        clear hz hcall hp hE hb hbb hfound
        go_wp2_with fail
        refine (HC.out _).mono ?_
        rintro e w1 ⟨rfl, b1⟩
        have B1 := Lib.hid (below_step HB.out (Nat.le_refl _) b1)
        clear b1
        go_wp2_with fail
        go_ret2
        exact ⟨hi, b, rfl, HF.out, B1.out⟩
      · have hm : ¬ hi < l.length := by rw [HN.out]; exact hin
        have HF := Lib.hid (hE.missed hm)
        clear hE hb hm
        go_wp2_with fail
        go_ret2
        exact ⟨hi, false, rfl, HF.out, HB.out⟩
theorem find_any (w : World) (v : Value) (l : List Pr) (key : ByteArray) (h : PL w w.heap.size v l) :
    Calls Tryd.prog 58 #[v, .string key] w fun e w' => ∃ i b, e = .returned (.tuple #[.int .i64 (i : Nat), .bool b]) ∧ Found l key i b ∧ Below w.heap.size w w' := by
  have H := Lib.hid h
  clear h
  go_enter Tryd.func58, Tryd.ntmps58
  go_wp2_with fail
  refine (search_any _ _ l key H.out).mono ?_
  rintro e w1 ⟨i, b, rfl, hf, b1⟩
  have HF := Lib.hid hf
  have HB := Lib.hid b1
  clear hf b1
  go_wp2_with fail
  go_ret2
  exact ⟨i, b, rfl, HF.out, HB.out⟩
end Go.Proofs.YtjbnfigpflambabDoor
