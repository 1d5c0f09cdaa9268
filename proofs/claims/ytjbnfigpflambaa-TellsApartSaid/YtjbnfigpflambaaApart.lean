/- The walk of TellsApart: it returns true, out of the contracts of picked and Tell. -/
import Derived.Test.YtjbnfigpflambaaTell
import Derived.Test.YtjbnfigpflambaaPick
import Derived.WalkLawsBesides
import Derived.WalkSpells
import Derived.Deep.DeepCutAuto
namespace Go.Proofs.Ytjbnfigpflambaa
open Go.ChangeShapes Go.WideShapes Go.ChangeAt Go.RowKit

def Fit (k : Int) (t : ByteArray) : Prop := ((k = 2 ∨ k = 4) ↔ t.toList ≠ []) ∧ t.size ≤ 60
def hasB (k : Int) : Bool := (k == 2) || (k == 4)
theorem min20 {t : ByteArray} (h : 20 < (t.size : Int)) : (t.extract 0 20).size ≤ 20 := by rw [ByteArray.size_extract]; omega
theorem fit_no {k : Int} (h : hasB k = false) : Fit k ⟨#[]⟩ := by
  simp only [hasB, Bool.or_eq_false_iff, beq_eq_false_iff_ne] at h
  exact ⟨by rw [toList_data]; simp [h.1, h.2], by show 0 ≤ 60; omega⟩
theorem fit_yes {k : Int} {t : ByteArray} (hb : hasB k = true) (ht : t.size ≤ 20) : Fit k (⟨#[120]⟩ ++ t) := by
  have h : k = 2 ∨ k = 4 := by simpa [hasB] using hb
  refine ⟨?_, ?_⟩
  · rw [toList_data]
    simp [h]
  · rw [ByteArray.size_append]
    show 1 + t.size ≤ 60
    omega

theorem app_list (a b : ByteArray) : (a ++ b).data.toList = a.data.toList ++ b.data.toList := by simp
theorem stB_list (i : Int) : (stB i).data.toList = [if i = 0 then 73 else if i = 1 then 84 else 70] := by
  unfold stB
  split
  · rfl
  · split <;> rfl
theorem stB_inj {i j : Int} (i1 : 0 ≤ i) (i2 : i ≤ 2) (j1 : 0 ≤ j) (j2 : j ≤ 2) (h : (if i = 0 then 73 else if i = 1 then 84 else 70 : UInt8) = (if j = 0 then 73 else if j = 1 then 84 else 70)) : i = j := by
  rcases three i1 i2 with rfl | rfl | rfl <;> rcases three j1 j2 with rfl | rfl | rfl <;> first | rfl | (revert h; decide)
theorem bodyB_inj {k l : Int} {t u : ByteArray} (k1 : 1 ≤ k) (k2 : k ≤ 4) (l1 : 1 ≤ l) (l2 : l ≤ 4) (ht : Fit k t) (hu : Fit l u) (h : (bodyB k t).data.toList = (bodyB l u).data.toList) : k = l ∧ t.data.toList = u.data.toList := by
  obtain ⟨ht, -⟩ := ht
  obtain ⟨hu, -⟩ := hu
  rw [toList_data] at ht hu
  rcases four k1 k2 with rfl | rfl | rfl | rfl <;> rcases four l1 l2 with rfl | rfl | rfl | rfl <;> simp [bodyB] at h ht hu ⊢ <;> simp_all
theorem tell_inj {i j k l : Int} {t u : ByteArray} (i1 : 0 ≤ i) (i2 : i ≤ 2) (j1 : 0 ≤ j) (j2 : j ≤ 2) (k1 : 1 ≤ k) (k2 : k ≤ 4) (l1 : 1 ≤ l) (l2 : l ≤ 4) (ht : Fit k t) (hu : Fit l u)
    (h : (stB i ++ bodyB k t).toList = (stB j ++ bodyB l u).toList) : i = j ∧ k = l ∧ t.toList = u.toList := by
  rw [toList_data, toList_data, app_list, app_list, stB_list, stB_list] at h
  simp only [List.cons_append, List.nil_append, List.cons.injEq] at h
  obtain ⟨h1, h2⟩ := bodyB_inj k1 k2 l1 l2 ht hu h.2
  exact ⟨stB_inj i1 i2 j1 j2 h.1, h1, by rw [toList_data, toList_data]; exact h2⟩
theorem tellsApart_1 (W : World) (k l : Int) (s t : ByteArray) (i j : Int) (hk : (Lit.int .i64 k).wf = true) (hl : (Lit.int .i64 l).wf = true) (hi : (Lit.int .i64 i).wf = true) (hj : (Lit.int .i64 j).wf = true)
    (hs : s.size ≤ 140737488351232) (ht : t.size ≤ 140737488351232) (ka la ia ja : Int) (ek : Hid (pick k 4 = ka)) (el : Hid (pick l 4 = la)) (ei : Hid (pick i 3 = ia)) (ej : Hid (pick j 3 = ja))
    (k1 : 0 ≤ ka) (k2 : ka ≤ 3) (l1 : 0 ≤ la) (l2 : la ≤ 3) (i1 : 0 ≤ ia) (i2 : ia ≤ 2) (j1 : 0 ≤ ja) (j2 : ja ≤ 2) :
    Calls Try.prog 8 #[.int .i64 k, .int .i64 l, .string s, .string t, .int .i64 i, .int .i64 j] W fun e w' => e = .returned (.bool true) ∧ Below W.heap.size W w' := by
  have Hk := Lib.hid hk
  have Hl := Lib.hid hl
  have Hi := Lib.hid hi
  have Hj := Lib.hid hj
  clear hk hl hi hj
  go_enter Try.func8, Try.ntmps8
  go_wp2_with fail
  refine (picked_is _ _ _ _ Hk.out (by omega) (by omega) ek.out).mono ?_
  rintro e w1 ⟨rfl, rfl⟩
  go_wp2_with fail
  refine (picked_is _ _ _ _ Hi.out (by omega) (by omega) ei.out).mono ?_
  rintro e w1 ⟨rfl, rfl⟩
  go_wp2_with fail
  refine (picked_is _ _ _ _ Hl.out (by omega) (by omega) el.out).mono ?_
  rintro e w1 ⟨rfl, rfl⟩
  go_wp2_with fail
  refine (picked_is _ _ _ _ Hj.out (by omega) (by omega) ej.out).mono ?_
  rintro e w1 ⟨rfl, rfl⟩
  go_upto_region 3 with fail
  go_cut [38] (fun c wx => c = .bool (hasB (1 + ka)) ∧ wx = (W.alloc (.cells #[.int .i64 (1 + ka), .string ⟨#[]⟩, .int .i64 ia] 37)).alloc (.cells #[.int .i64 (1 + la), .string ⟨#[]⟩, .int .i64 ja] 37))
  case first =>
    by_cases h2 : 1 + ka = 2
    · have b2 : (1 + ka == 2) = true := by simp [h2]
      have hb : hasB (1 + ka) = true := by unfold hasB; rw [b2]; rfl
      have Hb := Lib.hid hb
      clear h2 hb
      go_wp2_with fail
      go_meet
      exact ⟨by rw [Hb.out], rfl⟩
    · have b2 : (1 + ka == 2) = false := by simp [h2]
      cases b4 : (1 + ka == 4) with
      | true =>
        have hb : hasB (1 + ka) = true := by unfold hasB; rw [b4]; simp
        have Hb := Lib.hid hb
        clear h2 hb
        go_wp2_with fail
        go_meet
        exact ⟨by rw [Hb.out], rfl⟩
      | false =>
        have hb : hasB (1 + ka) = false := by unfold hasB; rw [b4, b2]; rfl
        have Hb := Lib.hid hb
        clear h2 hb
        go_wp2_with fail
        go_meet
        exact ⟨by rw [Hb.out], rfl⟩
  case rest =>
    obtain ⟨rfl, rfl⟩ := hcut
    go_upto_if 38 with fail
    go_cut [] (fun wx => ∃ TA : ByteArray, Fit (1 + ka) TA ∧ wx = (W.alloc (.cells #[.int .i64 (1 + ka), .string TA, .int .i64 ia] 37)).alloc (.cells #[.int .i64 (1 + la), .string ⟨#[]⟩, .int .i64 ja] 37))
    case first =>
      cases hb : hasB (1 + ka) with
      | false =>
        go_wp2_with fail
        go_meet
        exact ⟨_, fit_no hb, rfl⟩
      | true =>
        go_wp2_with fail
        · go_meet
          exact ⟨_, fit_yes hb (min20 (by assumption)), rfl⟩
        · go_meet
          exact ⟨_, fit_yes hb (by omega), rfl⟩
    case rest =>
      obtain ⟨TA, hTA, rfl⟩ := hcut
      go_upto_region 5 with fail
      go_cut [53] (fun c wx => c = .bool (hasB (1 + la)) ∧ wx = (W.alloc (.cells #[.int .i64 (1 + ka), .string TA, .int .i64 ia] 37)).alloc (.cells #[.int .i64 (1 + la), .string ⟨#[]⟩, .int .i64 ja] 37))
      case first =>
        by_cases h2 : 1 + la = 2
        · have b2 : (1 + la == 2) = true := by simp [h2]
          have hb : hasB (1 + la) = true := by unfold hasB; rw [b2]; rfl
          have Hb := Lib.hid hb
          clear h2 hb
          go_wp2_with fail
          go_meet
          exact ⟨by rw [Hb.out], rfl⟩
        · have b2 : (1 + la == 2) = false := by simp [h2]
          cases b4 : (1 + la == 4) with
          | true =>
            have hb : hasB (1 + la) = true := by unfold hasB; rw [b4]; simp
            have Hb := Lib.hid hb
            clear h2 hb
            go_wp2_with fail
            go_meet
            exact ⟨by rw [Hb.out], rfl⟩
          | false =>
            have hb : hasB (1 + la) = false := by unfold hasB; rw [b4, b2]; rfl
            have Hb := Lib.hid hb
            clear h2 hb
            go_wp2_with fail
            go_meet
            exact ⟨by rw [Hb.out], rfl⟩
      case rest =>
        obtain ⟨rfl, rfl⟩ := hcut
        go_upto_if 53 with fail
        go_cut [] (fun wx => ∃ TB : ByteArray, Fit (1 + la) TB ∧ wx = (W.alloc (.cells #[.int .i64 (1 + ka), .string TA, .int .i64 ia] 37)).alloc (.cells #[.int .i64 (1 + la), .string TB, .int .i64 ja] 37))
        case first =>
          cases hb : hasB (1 + la) with
          | false =>
            go_wp2_with fail
            go_meet
            exact ⟨_, fit_no hb, rfl⟩
          | true =>
            go_wp2_with fail
            · go_meet
              exact ⟨_, fit_yes hb (min20 (by assumption)), rfl⟩
            · go_meet
              exact ⟨_, fit_yes hb (by omega), rfl⟩
        case rest =>
          obtain ⟨TB, hTB, rfl⟩ := hcut
          go_wp2_with fail
          refine (tell_ok _ TA _ _ (by omega) (by omega) i1 i2 hTA.1 hTA.2).mono ?_
          rintro e w1 ⟨rfl, hb1⟩
          have hc0 := (box2_cell hb1 0).1
          have hc1 := (box2_cell hb1 1).1
          have hc2 := (box2_cell hb1 2).1
          have hd0 := (box2_cell hb1 0).2
          have hd1 := (box2_cell hb1 1).2
          have hd2 := (box2_cell hb1 2).2
          have hb : Below W.heap.size W w1 := (boxed2 _ _ _).trans (hb1.mono (by simp; omega))
          clear hb1
          go_wp2_with fail
          refine (tell_ok _ TB _ _ (by omega) (by omega) j1 j2 hTB.1 hTB.2).mono ?_
          rintro e w2 ⟨rfl, hb2⟩
          replace hc0 := keep_cell hb2 hc0
          replace hc1 := keep_cell hb2 hc1
          replace hc2 := keep_cell hb2 hc2
          replace hd0 := keep_cell hb2 hd0
          replace hd1 := keep_cell hb2 hd1
          replace hd2 := keep_cell hb2 hd2
          replace hb := below_step hb (Nat.le_refl _) hb2
          clear hb2
          have hinj := Lib.hid (tell_inj (i := ia) (j := ja) (k := 1 + ka) (l := 1 + la) i1 i2 j1 j2 (by omega) (by omega) (by omega) (by omega) hTA hTB)
          go_wp2_with fail
          · rename_i e1 e2 e3
            have e4 := str_inj e2
            go_ret
            exact ⟨bool_ret (by rw [e4]; simp), hb⟩
          · rename_i e1 e2 e3
            go_ret
            exact ⟨bool_ret (str_ne fun h => e3 (hinj.out (by rw [e1]; exact h)).1), hb⟩
          · rename_i e1 e2
            go_ret
            exact ⟨bool_ret (str_ne fun h => e2 (hinj.out (by rw [e1]; exact h)).2.2), hb⟩
          · rename_i e1
            go_ret
            exact ⟨bool_ret (str_ne fun h => e1 (by have := (hinj.out h).2.1; omega)), hb⟩
theorem tellsApart_walk (W : World) (k : Int) (hk : (Lit.int .i64 k).wf = true) (l : Int) (hl : (Lit.int .i64 l).wf = true) (s : ByteArray) (hs : s.size ≤ 140737488351232) (t : ByteArray) (ht : t.size ≤ 140737488351232)
    (i : Int) (hi : (Lit.int .i64 i).wf = true) (j : Int) (hj : (Lit.int .i64 j).wf = true) :
    Calls Try.prog 8 #[.int .i64 k, .int .i64 l, .string s, .string t, .int .i64 i, .int .i64 j] W fun e w' => e = .returned (.bool true) ∧ Below W.heap.size W w' := by
  obtain ⟨k1, k2⟩ := pick_bd k 4 (by omega)
  obtain ⟨l1, l2⟩ := pick_bd l 4 (by omega)
  obtain ⟨i1, i2⟩ := pick_bd i 3 (by omega)
  obtain ⟨j1, j2⟩ := pick_bd j 3 (by omega)
  exact tellsApart_1 W k l s t i j hk hl hi hj hs ht _ _ _ _ (Lib.hid rfl) (Lib.hid rfl) (Lib.hid rfl) (Lib.hid rfl) k1 (by omega) l1 (by omega) i1 (by omega) j1 (by omega)
end Go.Proofs.Ytjbnfigpflambaa
