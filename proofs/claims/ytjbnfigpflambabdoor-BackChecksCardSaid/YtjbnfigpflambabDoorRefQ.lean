/- The reference's plus. -/
import Derived.Test.YtjbnfigpflambabDoorRefP
namespace Go.Proofs.YtjbnfigpflambabDoor
open Go.ChangeShapes Go.WideShapes Go.ChangeAt Go.RowKit

theorem plF_len2 (key v : ByteArray) : ∀ (l : List Pr) (s : Bool × List Pr), (l.foldl (plF key v) s).2.length + (if s.1 = true then 1 else 0) ≤ s.2.length + l.length + (if (l.foldl (plF key v) s).1 = true then 1 else 0)
  | [], s => Nat.le_refl _
  | p :: l, (b, o) => by
    rw [List.foldl_cons]
    have h := plF_len2 key v l (plF key v (b, o) p)
    have h2 : (plF key v (b, o) p).2.length + (if b = true then 1 else 0) ≤ o.length + 1 + (if (plF key v (b, o) p).1 = true then 1 else 0) := by
      unfold plF
      cases b <;> cases ltS p.k key <;> by_cases e : p.k = key <;> simp [e]
    simp only [List.length_cons] at h h2 ⊢
    omega
theorem plF_in (key v : ByteArray) : ∀ (l : List Pr) (p : Pr), p ∈ plusP l key v → p = ⟨key, v⟩ ∨ p ∈ l
  | [], p, h => by
    have : p = ⟨key, v⟩ := by simpa [plusP] using h
    exact .inl this
  | q :: l, p, h => by
    unfold plusP at h
    split at h
    · rcases List.mem_cons.1 h with rfl | h
      · exact .inr List.mem_cons_self
      · exact (plF_in key v l p h).imp id fun h => List.mem_cons_of_mem _ h
    · rcases List.mem_cons.1 h with rfl | h
      · exact .inl rfl
      · exact .inr (List.mem_filter.1 h).1
set_option maxHeartbeats 8000000 in
set_option maxRecDepth 100000 in
theorem refplus_any (w : World) (v : Value) (l : List Pr) (key val : ByteArray) (h : PL w w.heap.size v l) :
    Calls Tryd.prog 60 #[v, .string key, .string val] w fun e w' => ∃ v', e = .returned v' ∧ w'.ownsRow w.heap.size 66 2 v' (plusP l key val).length (cellsP (plusP l key val)) ∧ Below w.heap.size w w' := by
  obtain ⟨i0, hi0, hz0, hz1, hz2⟩ := info_parts pair_info
  obtain ⟨A, c, rfl, hc, hr, hf⟩ := h
  have hl : l.length ≤ 4398046510976 := hf.1
  have HR := Lib.hid hr
  obtain ⟨n, hN⟩ : ∃ n, l.length = n := ⟨_, rfl⟩
  rw [hN] at hl ⊢
  have HN := Lib.hid hN
  clear hr hf hc hN
  go_enter Tryd.func60, Tryd.ntmps60
  go_wp2_with fail
  go_loopw [7, 8, 9] (fun u d i wx => ∃ (k : Nat) (b : Bool) (O : List Pr), k ≤ n ∧ i = .int .i64 k ∧ d = .bool b ∧ Hid ((l.take k).foldl (plF key val) (false, []) = (b, O)) ∧ wx.ownsRow w.heap.size 66 2 u O.length (cellsP O) ∧ Below w.heap.size w wx) (fun _ _ i _ => n - (intOf i).toNat)
  case atStart => exact ⟨0, false, [], Nat.zero_le _, rfl, rfl, Lib.hid rfl, World.ownsRow_nil _ _ _ _, Below.refl _ _⟩
  case round =>
    obtain ⟨k, b, O, hk, rfl, rfl, HS, ho, hb⟩ := hrel
    have hln := plF_len2 key val (l.take k) (false, [])
    rw [HS.out] at hln
    simp only [List.length_nil, List.length_take] at hln
    have HO := Lib.hid ho
    by_cases hlt : k < n
    · have g1 : (k : Int) < (n : Int) := by omega
      have g2 : (0 : Int) ≤ (k : Int) := by omega
      have hkl : k < l.length := by rw [HN.out]; exact hlt
      have hr := HR.out
      obtain ⟨ad, hA, _, x0, x1⟩ := pair_at (hr.below hb) hkl
      subst hA
      have hst := plF_take hkl key val (false, [])
      rw [HS.out] at hst
      obtain ⟨p, hp⟩ : ∃ p, l[k] = p := ⟨_, rfl⟩
      rw [hp] at x0 x1 hst
      have HB := Lib.hid hb
      have HST := Lib.hid hst
      have hOb : O.length ≤ k + (if b = true then 1 else 0) := by
        have : min k l.length ≤ k := Nat.min_le_left _ _
        simp only [Bool.false_eq_true, if_false] at hln
        omega
      obtain ⟨pk, pv⟩ := p
      simp only at x0 x1
      have HPE := Lib.hid hp
      have HK := Lib.hid hkl
      clear hp hr hb ho hst hln
      cases b with
      | true =>
        simp only [if_true] at hOb
        by_cases he : pk = key
        · subst he
          have HF := Lib.hid (show (l.take (k + 1)).foldl (plF pk val) (false, []) = (true, O) by rw [HST.out]; simp [plF])
          go_wp2_with fail
          go_roundw
          case rel => exact ⟨k + 1, _, _, by omega, by go_num, rfl, HF, HO.out, HB.out⟩
          case measure => simp [intOf]; omega
        · have n1 := ref_str_no he
          have HF := Lib.hid (show (l.take (k + 1)).foldl (plF key val) (false, []) = (true, O ++ [⟨pk, pv⟩]) by rw [HST.out]; simp [plF, he])
          have RD := Lib.hid (Reads.new_ wr 66 #[.string pk, .string pv] (n := 1) (size := 2) rfl)
          have bb := boxed wr (.cells #[.string pk, .string pv] 66)
          have B1 := Lib.hid (below_step HB.out (Nat.le_refl _) bb)
          have O1 := Lib.hid ((Keeps.of_below bb).own HO.out)
          clear HB HO bb
          go_wp2_with (at_builtin; refine wpList_append_any _ rfl (.tmp 40) (.tmp 45) 28 rfl w.heap.size 66 i0 _ 2 32 Tryd.underlying28 hi0 hz0 hz1 hz2 rfl (by decide) _ O.length (cellsP O) rfl O1.out (wr.heap.size + 1) (some ⟨wr.heap.size, 0, none⟩) 1 1 (cellsP [⟨pk, pv⟩]) rfl RD.out (cellsP_one _) (by unfold maxLen; omega) (by omega) B1.out.size ?_; intro v' w2 hown hgr hat)
          have HB := Lib.hid (B1.out.grown hgr B1.out.size fun q hq => own_base O1.out q hq)
          have HO := Lib.hid (show w2.ownsRow w.heap.size 66 2 v' (O ++ [(⟨pk, pv⟩ : Pr)]).length (cellsP (O ++ [⟨pk, pv⟩])) by rw [List.length_append, cellsP_app]; exact hown)
          clear hown hgr hat RD B1 O1
          go_wp2_with fail
          go_roundw
          case rel => exact ⟨k + 1, _, _, by omega, by go_num, rfl, HF, HO.out, HB.out⟩
          case measure => simp [intOf]; omega
      | false =>
        simp only [Bool.false_eq_true, if_false, Nat.add_zero] at hOb
        cases hlt2 : ltS pk key with
        | true =>
          have e1 : Op.bytesLess pk.toList key.toList = true := hlt2
          have he : ¬ pk = key := fun e => by
            rw [e] at hlt2
            unfold ltS at hlt2
            rw [less_irrefl] at hlt2
            cases hlt2
          have n1 := ref_str_no he
          have HF := Lib.hid (show (l.take (k + 1)).foldl (plF key val) (false, []) = (false, O ++ [⟨pk, pv⟩]) by rw [HST.out]; simp [plF, he, hlt2])
          have RD := Lib.hid (Reads.new_ wr 66 #[.string pk, .string pv] (n := 1) (size := 2) rfl)
          have bb := boxed wr (.cells #[.string pk, .string pv] 66)
          have B1 := Lib.hid (below_step HB.out (Nat.le_refl _) bb)
          have O1 := Lib.hid ((Keeps.of_below bb).own HO.out)
          clear HB HO bb
          go_wp2_with (at_builtin; refine wpList_append_any _ rfl (.tmp 40) (.tmp 45) 28 rfl w.heap.size 66 i0 _ 2 32 Tryd.underlying28 hi0 hz0 hz1 hz2 rfl (by decide) _ O.length (cellsP O) rfl O1.out (wr.heap.size + 1) (some ⟨wr.heap.size, 0, none⟩) 1 1 (cellsP [⟨pk, pv⟩]) rfl RD.out (cellsP_one _) (by unfold maxLen; omega) (by omega) B1.out.size ?_; intro v' w2 hown hgr hat)
          have HB := Lib.hid (B1.out.grown hgr B1.out.size fun q hq => own_base O1.out q hq)
          have HO := Lib.hid (show w2.ownsRow w.heap.size 66 2 v' (O ++ [(⟨pk, pv⟩ : Pr)]).length (cellsP (O ++ [⟨pk, pv⟩])) by rw [List.length_append, cellsP_app]; exact hown)
          clear hown hgr hat RD B1 O1
          go_wp2_with fail
          go_roundw
          case rel => exact ⟨k + 1, _, _, by omega, by go_num, rfl, HF, HO.out, HB.out⟩
          case measure => simp [intOf]; omega
        | false =>
          have e1 : Op.bytesLess pk.toList key.toList = false := hlt2
          by_cases he : pk = key
          · subst he
            have HF := Lib.hid (show (l.take (k + 1)).foldl (plF pk val) (false, []) = (true, O ++ [⟨pk, val⟩]) by rw [HST.out]; simp [plF, hlt2])
            have RD := Lib.hid (Reads.new_ wr 66 #[.string pk, .string val] (n := 1) (size := 2) rfl)
            have bb := boxed wr (.cells #[.string pk, .string val] 66)
            have B1 := Lib.hid (below_step HB.out (Nat.le_refl _) bb)
            have O1 := Lib.hid ((Keeps.of_below bb).own HO.out)
            clear HB HO bb
            go_upto_region 8 with (at_builtin; refine wpList_append_any _ rfl (.tmp 27) (.tmp 31) 28 rfl w.heap.size 66 i0 _ 2 32 Tryd.underlying28 hi0 hz0 hz1 hz2 rfl (by decide) _ O.length (cellsP O) rfl O1.out (wr.heap.size + 1) (some ⟨wr.heap.size, 0, none⟩) 1 1 (cellsP [⟨pk, val⟩]) rfl RD.out (cellsP_one _) (by unfold maxLen; omega) (by omega) B1.out.size ?_; intro v' w2 hown hgr hat)
            have HB := Lib.hid (B1.out.grown hgr B1.out.size fun q hq => own_base O1.out q hq)
            have HO := Lib.hid (show w2.ownsRow w.heap.size 66 2 v' (O ++ [(⟨pk, val⟩ : Pr)]).length (cellsP (O ++ [⟨pk, val⟩])) by rw [List.length_append, cellsP_app]; exact hown)
            clear hown hgr hat RD B1 O1
            obtain ⟨ad2, hA2, -, y0, y1⟩ := pair_at (HR.out.below HB.out) HK.out
            obtain rfl : ad = ad2 := by simpa using hA2
            rw [HPE.out] at y0 y1
            clear hA2 x0 x1
            go_wp2_with fail
            go_roundw
            case rel => exact ⟨k + 1, _, _, by omega, by go_num, rfl, HF, HO.out, HB.out⟩
            case measure => simp [intOf]; omega
          · have n1 := ref_str_no he
            have HF := Lib.hid (show (l.take (k + 1)).foldl (plF key val) (false, []) = (true, O ++ [⟨key, val⟩] ++ [⟨pk, pv⟩]) by rw [HST.out]; simp [plF, he, hlt2])
            have RD := Lib.hid (Reads.new_ wr 66 #[.string key, .string val] (n := 1) (size := 2) rfl)
            have bb := boxed wr (.cells #[.string key, .string val] 66)
            have B1 := Lib.hid (below_step HB.out (Nat.le_refl _) bb)
            have O1 := Lib.hid ((Keeps.of_below bb).own HO.out)
            clear HB HO bb
            go_upto_region 8 with (at_builtin; refine wpList_append_any _ rfl (.tmp 27) (.tmp 31) 28 rfl w.heap.size 66 i0 _ 2 32 Tryd.underlying28 hi0 hz0 hz1 hz2 rfl (by decide) _ O.length (cellsP O) rfl O1.out (wr.heap.size + 1) (some ⟨wr.heap.size, 0, none⟩) 1 1 (cellsP [⟨key, val⟩]) rfl RD.out (cellsP_one _) (by unfold maxLen; omega) (by omega) B1.out.size ?_; intro v' w2 hown hgr hat)
            have HB := Lib.hid (B1.out.grown hgr B1.out.size fun q hq => own_base O1.out q hq)
            have HO := Lib.hid (show w2.ownsRow w.heap.size 66 2 v' (O ++ [(⟨key, val⟩ : Pr)]).length (cellsP (O ++ [⟨key, val⟩])) by rw [List.length_append, cellsP_app]; exact hown)
            clear hown hgr hat RD B1 O1
            obtain ⟨ad2, hA2, -, y0, y1⟩ := pair_at (HR.out.below HB.out) HK.out
            obtain rfl : ad = ad2 := by simpa using hA2
            rw [HPE.out] at y0 y1
            clear hA2 x0 x1
            have RD := Lib.hid (Reads.new_ w2 66 #[.string pk, .string pv] (n := 1) (size := 2) rfl)
            have bb := boxed w2 (.cells #[.string pk, .string pv] 66)
            have B1 := Lib.hid (below_step HB.out (Nat.le_refl _) bb)
            have O1 := Lib.hid ((Keeps.of_below bb).own HO.out)
            clear HB HO bb
            go_wp2_with (at_builtin; refine wpList_append_any _ rfl (.tmp 40) (.tmp 45) 28 rfl w.heap.size 66 i0 _ 2 32 Tryd.underlying28 hi0 hz0 hz1 hz2 rfl (by decide) v' (O ++ [(⟨key, val⟩ : Pr)]).length (cellsP (O ++ [(⟨key, val⟩ : Pr)])) rfl O1.out (w2.heap.size + 1) (some ⟨w2.heap.size, 0, none⟩) 1 1 (cellsP [⟨pk, pv⟩]) rfl RD.out (cellsP_one _) (by unfold maxLen; rw [List.length_append]; simp only [List.length_cons, List.length_nil]; omega) (by rw [List.length_append]; simp only [List.length_cons, List.length_nil]; omega) B1.out.size ?_; intro v' w3 hown hgr hat)
            have HB := Lib.hid (B1.out.grown hgr B1.out.size fun q hq => own_base O1.out q hq)
            have HO := Lib.hid (show w3.ownsRow w.heap.size 66 2 v' ((O ++ [(⟨key, val⟩ : Pr)]) ++ [(⟨pk, pv⟩ : Pr)]).length (cellsP ((O ++ [(⟨key, val⟩ : Pr)]) ++ [⟨pk, pv⟩])) by rw [List.length_append, cellsP_app]; exact hown)
            clear hown hgr hat RD B1 O1
            go_wp2_with fail
            go_roundw
            case rel => exact ⟨k + 1, _, _, by omega, by go_num, rfl, HF, HO.out, HB.out⟩
            case measure => simp [intOf]; omega
    · have g1 : (n : Int) ≤ (k : Int) := by omega
      have hkn : k = n := by omega
      subst hkn
      have hs := HS.out
      rw [← HN.out, List.take_length] at hs
      have hfin := plF_all key val l []
      rw [hs, List.nil_append] at hfin
      have hOb : O.length ≤ k + (if b = true then 1 else 0) := by
        have : min k l.length ≤ k := Nat.min_le_left _ _
        simp only [Bool.false_eq_true, if_false] at hln
        omega
      have HFN := Lib.hid hfin
      have HB := Lib.hid hb
      clear hb ho hs hfin hln
      cases b with
      | true =>
        have HE := Lib.hid (show O = plusP l key val from by have := HFN.out; simpa [plE] using this)
        go_wp2_with fail
        go_ret
        exact ⟨_, rfl, by rw [← HE.out]; exact HO.out, HB.out⟩
      | false =>
        simp only [Bool.false_eq_true, if_false, Nat.add_zero] at hOb
        have HE := Lib.hid (show O ++ [⟨key, val⟩] = plusP l key val from by have := HFN.out; simpa [plE] using this)
        have RD := Lib.hid (Reads.new_ wr 66 #[.string key, .string val] (n := 1) (size := 2) rfl)
        have bb := boxed wr (.cells #[.string key, .string val] 66)
        have B1 := Lib.hid (below_step HB.out (Nat.le_refl _) bb)
        have O1 := Lib.hid ((Keeps.of_below bb).own HO.out)
        clear HB HO bb
        go_wp2_with (at_builtin; refine wpList_append_any _ rfl (.tmp 49) (.tmp 53) 28 rfl w.heap.size 66 i0 _ 2 32 Tryd.underlying28 hi0 hz0 hz1 hz2 rfl (by decide) _ O.length (cellsP O) rfl O1.out (wr.heap.size + 1) (some ⟨wr.heap.size, 0, none⟩) 1 1 (cellsP [⟨key, val⟩]) rfl RD.out (cellsP_one _) (by unfold maxLen; omega) (by omega) B1.out.size ?_; intro v' w2 hown hgr hat)
        have HB := Lib.hid (B1.out.grown hgr B1.out.size fun q hq => own_base O1.out q hq)
        have HO := Lib.hid (show w2.ownsRow w.heap.size 66 2 v' (O ++ [(⟨key, val⟩ : Pr)]).length (cellsP (O ++ [⟨key, val⟩])) by rw [List.length_append, cellsP_app]; exact hown)
        clear hown hgr hat RD B1 O1
        go_wp2_with fail
        go_ret
        exact ⟨_, rfl, by rw [← HE.out]; exact HO.out, HB.out⟩
end Go.Proofs.YtjbnfigpflambabDoor
