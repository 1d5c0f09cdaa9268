/- say.Read: what it returns, given what Check returns. The reference's StmtOf: what it returns, given what StmtFault returns. say.Show and the reference's StmtText: what each returns; the walk of SayShows. The keep package's picked: what it returns. strconv.Itoa of 0 to 11. -/
import Derived.Test.YtjbnfigpflambacGreatDoorG00
import Derived.Test.YtjbnfigpflambacGreatDoorG02
import Derived.Deep.RegionHeld3
import Derived.Deep.DeepCutAuto
/- say.Read: what it returns, given what Check returns. -/
namespace Go.Proofs.YtjbnfigpflambacGreatDoor
open Go.ChangeShapes Go.WideShapes Go.ChangeAt Go.RowKit
theorem parts_cell (t : ByteArray) (n i : Nat) (hi : i < n) : (Lib.cellsOf (parts t) n)[i]? = some (.string (partAt t i)) := by
 unfold Lib.cellsOf partAt
 rw [List.getElem?_toArray, List.getElem?_append]
 by_cases h : i < (parts t).length
 ·rw [if_pos (by simpa using h)]
  simp [List.getD, h]
 ·rw [if_neg (by simpa using h), List.getElem?_replicate, if_pos (by simp; omega)]
  simp [List.getD, Nat.le_of_not_lt h]
  rfl
theorem split3 (t : ByteArray) (w : World) (hT : Tabs w) (ht : t.size ≤ 60) :
  Calls Tryz.prog 105 #[.string t, .string ⟨#[32]⟩, .int .i64 3] w fun e w' =>
   ∃ n : Nat, e = .returned (.slice (some ⟨w.heap.size, 0, none⟩) (parts t).length n) ∧ (parts t).length ≤ n ∧ n ≤ 3 ∧ Below w.heap.size w w' ∧ w'.heap.size = w.heap.size + 1 ∧
    ∀ i, i < n → w'.cell? ⟨w.heap.size, i, none⟩ = some (.string (partAt t i)) := by
 obtain ⟨m, hm⟩ := hT.maxLen
 have hl := parts_length t
 have e1 : 1 ≤ (⟨#[32]⟩ : ByteArray).size := Nat.le_refl _
 refine (Tryz.strings_SplitN t ⟨#[32]⟩ 3 m w (by omega) hm e1 (by omega) (by omega)).mono ?_
 rintro e w' ⟨rfl, rfl⟩
 rw [parts_eq]
 refine ⟨min 3 (t.size + 1), rfl, by omega, by omega, boxed _ _, by simp, fun i hi => ?_⟩
 exact (cell_of_row _ _ i _ _ (0, 0) (heap_alloc_new w _)).trans (parts_cell t _ i hi)
theorem read_long (t : ByteArray) (w : World) (ht : 60 < t.size) (hm : t.size ≤ maxLen) :
  Calls Tryz.prog 79 #[.string t] w fun e w' => e = .returned (.tuple #[St.none.v, .int .i64 1]) ∧ Below w.heap.size w w' := by
 unfold maxLen at hm
 go_enter Tryz.func79, Tryz.ntmps79
 go_wp2_with fail
 exact bodyPost_ret (v := .tuple #[St.none.v, .int .i64 1]) (by simp [results, Tryz.results79, go_sem, St.v, St.none]) rfl ⟨rfl, boxed _ _⟩
theorem index_word (x : ByteArray) (w : World) (hT : Tabs w) :
  Calls Tryz.prog 106 #[.slice (some ⟨0, 1, none⟩) 11 11, .string x] w fun e w' => e = .returned (.int .i64 (kindOf x - 1)) ∧ w' = w := by
 have h := Tryz.slices_Index_string 0 1 11 11 wordsL x w (by decide) (by omega) (fun j hj => hT.words j hj)
 have e : kindOf x - 1 = Lib.idxOfS (List.take 11 wordsL) x := by
  show Lib.idxOfS wordsL x + 1 - 1 = Lib.idxOfS wordsL x
  omega
 rw [e]
 exact h
theorem index_word_is (x : ByteArray) (K : Int) (w : World) (hK : Hid (kindOf x = K)) (hT : Tabs w) :
  Calls Tryz.prog 106 #[.slice (some ⟨0, 1, none⟩) 11 11, .string x] w fun e w' => e = .returned (.int .i64 (K - 1)) ∧ w = w' := by
 rw [← hK.out]
 exact (index_word x w hT).mono fun e w' ⟨he, hw⟩ => ⟨he, hw.symm⟩
theorem tabs_drew {w : World} (h : Tabs w) : Tabs w.drew := ⟨h.words, h.maxLen⟩
theorem part_out {t : ByteArray} {L i : Nat} (hL : (parts t).length = L) (h : L ≤ i) : partAt t i = ⟨#[]⟩ := by
 unfold partAt
 rw [List.getD, List.getElem?_eq_none (by omega)]
 rfl
structure Mid (w wx : World) (K : Int) (p1 p2 : ByteArray) : Prop where
 bel : Below w.heap.size w wx
 res : Blk wx w.heap.size 41 #[.int .i64 0, .string ⟨#[]⟩, .string ⟨#[]⟩]
 stm : Blk wx (w.heap.size + 2) 41 #[.int .i64 K, .string p1, .string p2]
section
variable {w wx : World} {K : Int} {p1 p2 : ByteArray}
theorem Mid.cells (m : Mid w wx K p1 p2) : wx.cell? ⟨w.heap.size, 0, none⟩ = some (.int .i64 0) ∧ wx.cell? ⟨w.heap.size, 1, none⟩ = some (.string ⟨#[]⟩) ∧ wx.cell? ⟨w.heap.size, 2, none⟩ = some (.string ⟨#[]⟩) ∧
  wx.cell? ⟨w.heap.size + 2, 0, none⟩ = some (.int .i64 K) ∧ wx.cell? ⟨w.heap.size + 2, 1, none⟩ = some (.string p1) ∧ wx.cell? ⟨w.heap.size + 2, 2, none⟩ = some (.string p2) ∧
  (∀ i, wx.frozen? ⟨w.heap.size, i, none⟩ = false) ∧ (∀ i, wx.frozen? ⟨w.heap.size + 2, i, none⟩ = false) :=
 ⟨m.res.cell 0, m.res.cell 1, m.res.cell 2, m.stm.cell 0, m.stm.cell 1, m.stm.cell 2, m.res.frozen, m.stm.frozen⟩
theorem Mid.set_1 (m : Mid w wx K p1 p2) (q : ByteArray) : Mid w (wx.setCell ⟨w.heap.size + 2, 1, none⟩ (.string q)) K q p2 :=
 ⟨m.bel.setCell (by show w.heap.size ≤ w.heap.size + 2; omega) _, m.res.far (by show w.heap.size ≠ w.heap.size + 2; omega) _, m.stm.set_ 1 _⟩
theorem Mid.set_2 (m : Mid w wx K p1 p2) (q : ByteArray) : Mid w (wx.setCell ⟨w.heap.size + 2, 2, none⟩ (.string q)) K p1 q :=
 ⟨m.bel.setCell (by show w.heap.size ≤ w.heap.size + 2; omega) _, m.res.far (by show w.heap.size ≠ w.heap.size + 2; omega) _, m.stm.set_ 2 _⟩
theorem Mid.keep {w3 : World} (m : Mid w wx K p1 p2) (hb : Below wx.heap.size wx w3) : Mid w w3 K p1 p2 :=
 ⟨below_step m.bel (Nat.le_refl _) hb, m.res.keep hb, m.stm.keep hb⟩
end
theorem read_go {t : ByteArray} {s : St} (ht : t.size ≤ 60) (hk : kindOf (partAt t 0) ≠ 0) (hb : bare t = false) (hr : rawOf t = s) : readE t = checkE s := by
 unfold readE
 rw [if_neg (by omega), if_neg hk, hb, hr]
 rfl
theorem read_bare {t : ByteArray} (ht : t.size ≤ 60) (hk : kindOf (partAt t 0) ≠ 0) (hb : bare t = true) : readE t = 4 := by
 unfold readE
 rw [if_neg (by omega), if_neg hk, hb]
 rfl
set_option maxRecDepth 100000 in
set_option maxHeartbeats 2000000 in
theorem read_1 (t : ByteArray) (w : World) (ht : t.size ≤ 60) (hT : Tabs w) (hsub : kindOf (partAt t 0) = 11 → ReadOk 79 (partAt t 2)) :
  Calls Tryz.prog 79 #[.string t] w fun e w' => e = .returned (.tuple #[(readS t).v, .int .i64 (readE t)]) ∧ Below w.heap.size w w' := by
 have HT := Lib.hid hT
 clear hT
 obtain ⟨L, hL⟩ : ∃ L, (parts t).length = L := ⟨_, rfl⟩
 obtain ⟨l1, l2, l3⟩ := parts_length t
 rw [hL] at l1 l2 l3
 obtain ⟨k1, k2⟩ := kindOf_bd (partAt t 0)
 obtain ⟨K, hK⟩ : ∃ K, kindOf (partAt t 0) = K := ⟨_, rfl⟩
 rw [hK] at k1 k2
 have LL := Lib.hid hL
 have KK := Lib.hid hK
 clear hL hK
 go_enter Tryz.func79, Tryz.ntmps79
 go_wp2_with fail
 refine (split3 t _ (HT.out.alloc _) ht).mono ?_
 rintro e w1 ⟨n, rfl, hn1, hn2, hb1, hz, hc⟩
 rw [LL.out] at hn1 ⊢
 have hT1 := (HT.out.alloc _).below hb1
 have hZ : w1.heap.size = w.heap.size + 2 := by rw [hz]; simp
 have hx : w1.heap[w.heap.size]? = some (.cells #[.int .i64 0, .string ⟨#[]⟩, .string ⟨#[]⟩] 41 (0, 0)) := (hb1.block _ (by simp)).trans (heap_alloc_new w _)
 have hb := below_of_alloc (Nat.le_refl _) hb1
 have ez : ∀ o : Obj, (w.alloc o).heap.size = w.heap.size + 1 := fun o => by simp
 rw [ez] at hc ⊢
 clear ez
 go_wp2_with fail
 go_cut [5] (fun c wx => c = .pointer (some ⟨w.heap.size + 2, 0, none⟩) ∧ Below w.heap.size w wx ∧ (∀ i, i < n → wx.cell? ⟨w.heap.size + 1, i, none⟩ = some (.string (partAt t i))) ∧
  wx.heap.size = w.heap.size + 3 ∧ wx.heap[w.heap.size]? = some (.cells #[.int .i64 0, .string ⟨#[]⟩, .string ⟨#[]⟩] 41 (0, 0)) ∧
  wx.heap[w.heap.size + 2]? = some (.cells #[.int .i64 K, .string ⟨#[]⟩, .string ⟨#[]⟩] 41 (0, 0)))
 case first =>
  have hc0 : w1.cell? ⟨w.heap.size + 1, 0, none⟩ = some (.string (partAt t 0)) := hc 0 (by omega)
  have hl0 : 0 < L := by omega
  have hl1 : (0 : Int) < (L : Int) := by omega
  have ew : IntKind.i64.wrap K = K := IntWalk.i64_in _ (by omega)
  have hT2 := Lib.hid hT1
  have HC := Lib.hid hc
  have HZ := Lib.hid hZ
  have HX := Lib.hid hx
  have HB := Lib.hid hb
  clear hc hz hx hb1 hT1 hb hZ
  have hne := World.new_ne w1 _ hc0
  go_region_held3 (fun w' => w'.cell? ⟨w.heap.size + 1, 0, none⟩ = some (.string (partAt t 0))) (go_keep)
   (first | (go_at_call 106; refine (index_word_is _ K _ KK (by repeat (first | exact hT2.out | apply tabs_drew | apply Tabs.alloc))).mono ?_; rintro e w' ⟨rfl, rfl⟩))
  all_goals
   go_wp2_with fail
   go_meet
   refine ⟨by rw [HZ.out], (HB.out.alloc HB.out.size _).drew, fun i hi => ?_, ?_, ?_, ?_⟩
   ·exact (World.cell?_alloc_lt w1 _ _ (by rw [HZ.out]; show w.heap.size + 1 < _; omega)).trans (HC.out i hi)
   ·show (w1.alloc _).heap.size = _
    simp [HZ.out]
   ·exact (Below.heap_alloc w1 _ _ (by rw [HZ.out]; omega)).trans HX.out
   ·have h := heap_alloc_new w1 (.cells #[.int .i64 K, .string ⟨#[]⟩, .string ⟨#[]⟩] 41)
    rw [HZ.out] at h
    exact h
 case rest =>
  obtain ⟨rfl, hbc, hcc, hzc, hr, hs⟩ := hcut
  have M : Mid w wc K ⟨#[]⟩ ⟨#[]⟩ := ⟨hbc, hr, hs⟩
  have HT1 := Lib.hid hT1
  clear hc hz hx hb1 hT1 hb hZ
  obtain ⟨r0, r1, r2, s0, s1, s2, fr, fs⟩ := M.cells
  clear hr hs
  by_cases hK0 : K = 0
  ·have hb0 : (K == 0) = true := by simp [hK0]
   have e1 : readE t = 3 := by unfold readE; rw [if_neg (by omega), if_pos (by rw [KK.out]; exact hK0)]
   have e2 : readS t = St.none := by unfold readS; rw [e1]; rfl
   have E1 := Lib.hid e1
   have E2 := Lib.hid e2
   have HM := Lib.hid M
   clear e1 e2 hK0 M
   go_wp2_with fail
   refine bodyPost_ret (v := .tuple #[St.none.v, .int .i64 3]) ?_ rfl ⟨by rw [E1.out, E2.out], ?_⟩
   ·simp [results, Tryz.results79, go_sem, St.v, St.none, r0, r1, r2]
   ·exact ((HM.out.bel.setCell (Nat.le_refl _) _).setCell (Nat.le_refl _) _).setCell (Nat.le_refl _) _
  ·have hb0 : (K == 0) = false := by simp [hK0]
   have hKK : kindOf (partAt t 0) ≠ 0 := by rw [KK.out]; exact hK0
   obtain ⟨p1, hp1⟩ : ∃ p, partAt t 1 = p := ⟨_, rfl⟩
   obtain ⟨p2, hp2⟩ : ∃ p, partAt t 2 = p := ⟨_, rfl⟩
   have q1 : L ≤ 1 → p1 = ⟨#[]⟩ := fun h => by rw [← hp1]; exact part_out LL.out h
   have q2 : L ≤ 2 → p2 = ⟨#[]⟩ := fun h => by rw [← hp2]; exact part_out LL.out h
   have hraw : rawOf t = ⟨K, p1, p2⟩ := by unfold rawOf; rw [KK.out, hp1, hp2]
   have hbare : bare t = ((decide (1 < L) && isE p1) || (decide (2 < L) && isE p2)) := by unfold bare; rw [LL.out, hp1, hp2]
   have c1 : 1 < n → wc.cell? ⟨w.heap.size + 1, 1, none⟩ = some (.string p1) := fun h => by rw [← hp1]; exact hcc 1 h
   have c2 : 2 < n → wc.cell? ⟨w.heap.size + 1, 2, none⟩ = some (.string p2) := fun h => by rw [← hp2]; exact hcc 2 h
   have hps : p1.size ≤ maxLen ∧ p2.size ≤ maxLen := by
    have h1 := part_size t 1
    have h2 := part_size t 2
    rw [hp1] at h1
    rw [hp2] at h2
    unfold maxLen
    omega
   have hck : K = 11 → ReadOk 79 p2 := fun h => by
    rw [← hp2]
    exact hsub (by rw [KK.out]; exact h)
   have HR := Lib.hid hraw
   have HBR := Lib.hid hbare
   have HKK := Lib.hid hKK
   have HPS := Lib.hid hps
   have HCK := Lib.hid hck
   have HM := Lib.hid M
   clear hraw hbare hp1 hp2 hKK hcc hK0 hps hck M
   have hL3 : L = 1 ∨ L = 2 ∨ L = 3 := by omega
   rcases hL3 with rfl | rfl | rfl
   ·obtain rfl : p1 = ⟨#[]⟩ := q1 (by omega)
    obtain rfl : p2 = ⟨#[]⟩ := q2 (by omega)
    clear q1 q2
    have hread : readE t = checkE ⟨K, ⟨#[]⟩, ⟨#[]⟩⟩ := read_go ht HKK.out (by rw [HBR.out]; rfl) HR.out
    have HRD := Lib.hid hread
    clear hread
    go_wp2_with fail
    have MM := Lib.hid HM.out
    clear r0 r1 r2 s0 s1 s2 fr fs
    refine (check_any K _ _ _ (HT.out.below MM.out.1) HPS.out.1 HPS.out.2 HCK.out).mono ?_
    rintro e w3 ⟨rfl, hb3⟩
    have N3 := MM.out.keep hb3
    obtain ⟨r0, r1, r2, s0, s1, s2, fr, fs⟩ := N3.cells
    have HN := Lib.hid N3
    clear N3 hb3 MM
    rw [← HRD.out]
    by_cases he : readE t = 0
    ·have hb0 : (readE t != 0) = false := by simp [he]
     have HE := Lib.hid he
     clear he
     go_wp2_with fail
     refine bodyPost_ret (v := .tuple #[(rawOf t).v, .int .i64 0]) ?_ rfl ⟨by rw [HE.out]; unfold readS; rw [if_pos HE.out], ?_⟩
     ·rw [HR.out]
      simp [results, Tryz.results79, go_sem, St.v, r0, r1, r2]
     ·exact ((HN.out.bel.setCell (Nat.le_refl _) _).setCell (Nat.le_refl _) _).setCell (Nat.le_refl _) _
    ·have hb0 : (readE t != 0) = true := by simp [he]
     have HE := Lib.hid he
     clear he
     go_wp2_with fail
     refine bodyPost_ret (v := .tuple #[St.none.v, .int .i64 (readE t)]) ?_ rfl ⟨by unfold readS; rw [if_neg HE.out], ?_⟩
     ·simp [results, Tryz.results79, go_sem, St.v, St.none, r0, r1, r2]
     ·exact ((HN.out.bel.setCell (Nat.le_refl _) _).setCell (Nat.le_refl _) _).setCell (Nat.le_refl _) _
   ·obtain rfl : p2 = ⟨#[]⟩ := q2 (by omega)
    have d1 := c1 (by omega)
    clear q1 q2 c1 c2
    cases he1 : p1.toList.isEmpty with
    | true =>
     have f1 := he1
     simp only [List.isEmpty_iff] at f1
     have hread : readE t = 4 := read_bare ht HKK.out (by rw [HBR.out]; simp [isE, he1])
     have HRD := Lib.hid hread
     clear hread
     go_wp2_with fail
     have MM := Lib.hid (HM.out.set_1 p1)
     refine bodyPost_ret (v := .tuple #[St.none.v, .int .i64 4]) ?_ rfl ⟨by unfold readS; rw [HRD.out]; rfl, ?_⟩
     ·simp [results, Tryz.results79, go_sem, St.v, St.none, r0, r1, r2]
     ·exact ((MM.out.bel.setCell (Nat.le_refl _) _).setCell (Nat.le_refl _) _).setCell (Nat.le_refl _) _
    | false =>
     have f1 := he1
     simp only [List.isEmpty_eq_false_iff] at f1
     have hread : readE t = checkE ⟨K, p1, ⟨#[]⟩⟩ := read_go ht HKK.out (by rw [HBR.out]; simp [isE, he1]) HR.out
     have HRD := Lib.hid hread
     clear hread
     go_wp2_with fail
     have MM := Lib.hid (HM.out.set_1 p1)
     clear r0 r1 r2 s0 s1 s2 fr fs
     refine (check_any K _ _ _ (HT.out.below MM.out.1) HPS.out.1 HPS.out.2 HCK.out).mono ?_
     rintro e w3 ⟨rfl, hb3⟩
     have N3 := MM.out.keep hb3
     obtain ⟨r0, r1, r2, s0, s1, s2, fr, fs⟩ := N3.cells
     have HN := Lib.hid N3
     clear N3 hb3 MM
     rw [← HRD.out]
     by_cases he : readE t = 0
     ·have hb0 : (readE t != 0) = false := by simp [he]
      have HE := Lib.hid he
      clear he
      go_wp2_with fail
      refine bodyPost_ret (v := .tuple #[(rawOf t).v, .int .i64 0]) ?_ rfl ⟨by rw [HE.out]; unfold readS; rw [if_pos HE.out], ?_⟩
      ·rw [HR.out]
       simp [results, Tryz.results79, go_sem, St.v, r0, r1, r2]
      ·exact ((HN.out.bel.setCell (Nat.le_refl _) _).setCell (Nat.le_refl _) _).setCell (Nat.le_refl _) _
     ·have hb0 : (readE t != 0) = true := by simp [he]
      have HE := Lib.hid he
      clear he
      go_wp2_with fail
      refine bodyPost_ret (v := .tuple #[St.none.v, .int .i64 (readE t)]) ?_ rfl ⟨by unfold readS; rw [if_neg HE.out], ?_⟩
      ·simp [results, Tryz.results79, go_sem, St.v, St.none, r0, r1, r2]
      ·exact ((HN.out.bel.setCell (Nat.le_refl _) _).setCell (Nat.le_refl _) _).setCell (Nat.le_refl _) _
   ·have d1 := c1 (by omega)
    have d2 := c2 (by omega)
    clear q1 q2 c1 c2
    cases he1 : p1.toList.isEmpty with
    | true =>
     have f1 := he1
     simp only [List.isEmpty_iff] at f1
     have hread : readE t = 4 := read_bare ht HKK.out (by rw [HBR.out]; simp [isE, he1])
     have HRD := Lib.hid hread
     clear hread
     go_wp2_with fail
     have MM := Lib.hid ((HM.out.set_1 p1).set_2 p2)
     refine bodyPost_ret (v := .tuple #[St.none.v, .int .i64 4]) ?_ rfl ⟨by unfold readS; rw [HRD.out]; rfl, ?_⟩
     ·simp [results, Tryz.results79, go_sem, St.v, St.none, r0, r1, r2]
     ·exact ((MM.out.bel.setCell (Nat.le_refl _) _).setCell (Nat.le_refl _) _).setCell (Nat.le_refl _) _
    | false =>
     have f1 := he1
     simp only [List.isEmpty_eq_false_iff] at f1
     cases he2 : p2.toList.isEmpty with
     | true =>
      have f2 := he2
      simp only [List.isEmpty_iff] at f2
      have hread : readE t = 4 := read_bare ht HKK.out (by rw [HBR.out]; simp [isE, he2])
      have HRD := Lib.hid hread
      clear hread
      go_wp2_with fail
      have MM := Lib.hid ((HM.out.set_1 p1).set_2 p2)
      refine bodyPost_ret (v := .tuple #[St.none.v, .int .i64 4]) ?_ rfl ⟨by unfold readS; rw [HRD.out]; rfl, ?_⟩
      ·simp [results, Tryz.results79, go_sem, St.v, St.none, r0, r1, r2]
      ·exact ((MM.out.bel.setCell (Nat.le_refl _) _).setCell (Nat.le_refl _) _).setCell (Nat.le_refl _) _
     | false =>
      have f2 := he2
      simp only [List.isEmpty_eq_false_iff] at f2
      have hread : readE t = checkE ⟨K, p1, p2⟩ := read_go ht HKK.out (by rw [HBR.out]; simp [isE, he1, he2]) HR.out
      have HRD := Lib.hid hread
      clear hread
      go_wp2_with fail
      have MM := Lib.hid ((HM.out.set_1 p1).set_2 p2)
      clear r0 r1 r2 s0 s1 s2 fr fs
      refine (check_any K _ _ _ (HT.out.below MM.out.1) HPS.out.1 HPS.out.2 HCK.out).mono ?_
      rintro e w3 ⟨rfl, hb3⟩
      have N3 := MM.out.keep hb3
      obtain ⟨r0, r1, r2, s0, s1, s2, fr, fs⟩ := N3.cells
      have HN := Lib.hid N3
      clear N3 hb3 MM
      rw [← HRD.out]
      by_cases he : readE t = 0
      ·have hb0 : (readE t != 0) = false := by simp [he]
       have HE := Lib.hid he
       clear he
       go_wp2_with fail
       refine bodyPost_ret (v := .tuple #[(rawOf t).v, .int .i64 0]) ?_ rfl ⟨by rw [HE.out]; unfold readS; rw [if_pos HE.out], ?_⟩
       ·rw [HR.out]
        simp [results, Tryz.results79, go_sem, St.v, r0, r1, r2]
       ·exact ((HN.out.bel.setCell (Nat.le_refl _) _).setCell (Nat.le_refl _) _).setCell (Nat.le_refl _) _
      ·have hb0 : (readE t != 0) = true := by simp [he]
       have HE := Lib.hid he
       clear he
       go_wp2_with fail
       refine bodyPost_ret (v := .tuple #[St.none.v, .int .i64 (readE t)]) ?_ rfl ⟨by unfold readS; rw [if_neg HE.out], ?_⟩
       ·simp [results, Tryz.results79, go_sem, St.v, St.none, r0, r1, r2]
       ·exact ((HN.out.bel.setCell (Nat.le_refl _) _).setCell (Nat.le_refl _) _).setCell (Nat.le_refl _) _
theorem read_small : ∀ (n : Nat) (t : ByteArray), t.size ≤ n → t.size ≤ 60 → ReadOk 79 t
 | 0, t, h, h60 => fun w hT => read_1 t w h60 hT fun hk => absurd (part_lt hk) (by omega)
 | n + 1, t, h, h60 => fun w hT => read_1 t w h60 hT fun hk => read_small n _ (by have := part_lt hk; omega) (by have := part_lt hk; omega)
theorem read_any (t : ByteArray) (hm : t.size ≤ maxLen) : ReadOk 79 t := by
 by_cases h : 60 < t.size
 ·intro w _
  have e : readE t = 1 := by unfold readE; rw [if_pos h]
  unfold readS
  rw [e]
  exact read_long t w h hm
 ·exact read_small t.size t (Nat.le_refl _) (by omega)
theorem check_all (s : St) (w : World) (hT : Tabs w) (hk : s.key.size ≤ maxLen) (hv : s.val.size ≤ maxLen) :
  Calls Tryz.prog 63 #[s.v] w fun e w' => e = .returned (.int .i64 (checkE s)) ∧ Below w.heap.size w w' :=
 check_any s.k s.key s.val w hT hk hv fun _ => read_any s.val hv
end Go.Proofs.YtjbnfigpflambacGreatDoor
/- The reference's StmtOf: what it returns, given what StmtFault returns. -/
namespace Go.Proofs.YtjbnfigpflambacGreatDoor
open Go.ChangeShapes Go.WideShapes Go.ChangeAt Go.RowKit
structure Mid2 (w wx : World) (K : Int) (p1 p2 : ByteArray) (b : Nat) : Prop where
 lt : w.heap.size < b
 bel : Below w.heap.size w wx
 res : Blk wx w.heap.size 41 #[.int .i64 0, .string ⟨#[]⟩, .string ⟨#[]⟩]
 stm : Blk wx b 41 #[.int .i64 K, .string p1, .string p2]
section
variable {w wx : World} {K : Int} {p1 p2 : ByteArray} {b : Nat}
theorem Mid2.cells (m : Mid2 w wx K p1 p2 b) : wx.cell? ⟨w.heap.size, 0, none⟩ = some (.int .i64 0) ∧ wx.cell? ⟨w.heap.size, 1, none⟩ = some (.string ⟨#[]⟩) ∧ wx.cell? ⟨w.heap.size, 2, none⟩ = some (.string ⟨#[]⟩) ∧
  wx.cell? ⟨b, 0, none⟩ = some (.int .i64 K) ∧ wx.cell? ⟨b, 1, none⟩ = some (.string p1) ∧ wx.cell? ⟨b, 2, none⟩ = some (.string p2) ∧
  (∀ i, wx.frozen? ⟨w.heap.size, i, none⟩ = false) ∧ (∀ i, wx.frozen? ⟨b, i, none⟩ = false) :=
 ⟨m.res.cell 0, m.res.cell 1, m.res.cell 2, m.stm.cell 0, m.stm.cell 1, m.stm.cell 2, m.res.frozen, m.stm.frozen⟩
theorem Mid2.set_1 (m : Mid2 w wx K p1 p2 b) (q : ByteArray) : Mid2 w (wx.setCell ⟨b, 1, none⟩ (.string q)) K q p2 b :=
 ⟨m.lt, m.bel.setCell (Nat.le_of_lt m.lt) _, m.res.far (Nat.ne_of_lt m.lt) _, m.stm.set_ 1 _⟩
theorem Mid2.set_2 (m : Mid2 w wx K p1 p2 b) (q : ByteArray) : Mid2 w (wx.setCell ⟨b, 2, none⟩ (.string q)) K p1 q b :=
 ⟨m.lt, m.bel.setCell (Nat.le_of_lt m.lt) _, m.res.far (Nat.ne_of_lt m.lt) _, m.stm.set_ 2 _⟩
theorem Mid2.keep {w3 : World} (m : Mid2 w wx K p1 p2 b) (hb : Below wx.heap.size wx w3) : Mid2 w w3 K p1 p2 b :=
 ⟨m.lt, below_step m.bel (Nat.le_refl _) hb, m.res.keep hb, m.stm.keep hb⟩
theorem Mid2.drewN (m : Mid2 w wx K p1 p2 b) (n : Nat) : Mid2 w (wx.drewN n) K p1 p2 b := ⟨m.lt, below_drewN m.bel n, m.res.drewN n, m.stm.drewN n⟩
end
end Go.Proofs.YtjbnfigpflambacGreatDoor
/- say.Show and the reference's StmtText: what each returns; the walk of SayShows. -/
namespace Go.Proofs.YtjbnfigpflambacGreatDoor
open Go.ChangeShapes Go.WideShapes Go.ChangeAt Go.RowKit
def blank : ByteArray := ⟨#[32]⟩
def wordK (k : Int) : ByteArray := wordsL.getD (k.toNat - 1) ByteArray.empty
theorem wordK_size (k : Int) : (wordK k).size ≤ 8 := by
 unfold wordK
 generalize k.toNat - 1 = i
 rcases i with _ | _ | _ | _ | _ | _ | _ | _ | _ | _ | _ | i
 all_goals first | decide +kernel | exact Nat.zero_le _
def textOf (s : St) : ByteArray := if s.k < 6 then wordK s.k else if s.k < 9 then wordK s.k ++ (blank ++ s.key) else wordK s.k ++ (blank ++ s.key) ++ (blank ++ s.val)
def showS (s : St) : ByteArray := if checkE s = 0 then textOf s else ⟨#[]⟩
theorem prepB_ne {s : ByteArray} (h : prepB s = true) : s.toList.isEmpty = false := by
 cases e : s.toList.isEmpty with
 | false => rfl
 | true =>
  have : s = ⟨#[]⟩ := str_inj (by rw [List.isEmpty_iff] at e; rw [e, toList_data])
  subst this
  revert h
  decide +kernel
theorem valid_sorts {s : St} (h : checkE s = 0) : (1 ≤ s.k ∧ s.k ≤ 5 ∧ s.key.toList.isEmpty = true ∧ s.val.toList.isEmpty = true) ∨ (6 ≤ s.k ∧ s.k ≤ 8 ∧ s.key.toList.isEmpty = false ∧ s.val.toList.isEmpty = true) ∨ (9 ≤ s.k ∧ s.k ≤ 11 ∧ s.key.toList.isEmpty = false ∧ s.val.toList.isEmpty = false) := by
 unfold checkE at h
 by_cases h11 : s.k = 11
 ·rw [if_pos h11] at h
  cases hn : nameB s.key <;> cases hp : prepB s.val <;> rw [hn, hp] at h <;> simp at h
  exact .inr (.inr ⟨by omega, by omega, nameB_ne hn, prepB_ne hp⟩)
 rw [if_neg h11] at h
 unfold plainE at h
 by_cases h0 : s.k < 1 ∨ 11 < s.k
 ·rw [if_pos h0] at h; simp at h
 rw [if_neg h0] at h
 by_cases h6 : s.k < 6
 ·rw [if_pos h6] at h
  cases h1 : isE s.key <;> cases h2 : isE s.val <;> rw [h1, h2] at h <;> simp at h
  exact .inl ⟨by omega, by omega, h1, h2⟩
 rw [if_neg h6] at h
 cases hn : nameB s.key with
 | false => rw [hn] at h; simp at h
 | true =>
  rw [hn] at h
  simp only [Bool.not_true, Bool.false_eq_true, if_false] at h
  by_cases h9 : s.k < 9
  ·rw [if_pos h9] at h
   cases h2 : isE s.val <;> rw [h2] at h <;> simp at h
   exact .inr (.inl ⟨by omega, by omega, nameB_ne hn, h2⟩)
  ·rw [if_neg h9] at h
   cases h2 : valueB s.val <;> rw [h2] at h <;> simp at h
   exact .inr (.inr ⟨by omega, by omega, nameB_ne hn, valueB_ne h2⟩)
theorem valid_sizes {s : St} (h : checkE s = 0) (h6 : 6 ≤ s.k) : s.key.size ≤ 60 ∧ (9 ≤ s.k → s.val.size ≤ 60) := by
 have hn : nameB s.key = true := by
  cases hn : nameB s.key with
  | true => rfl
  | false =>
   unfold checkE plainE at h
   rw [hn, if_neg (show ¬ s.k < 6 by omega)] at h
   split at h
   ·simp at h
   ·split at h <;> simp at h
 refine ⟨?_, fun h9 => ?_⟩
 ·unfold nameB at hn
  simp only [Bool.and_eq_true, decide_eq_true_eq] at hn
  omega
 ·unfold checkE plainE at h
  rw [hn, if_neg (show ¬ s.k < 6 by omega), if_neg (show ¬ s.k < 9 by omega)] at h
  split at h
  ·cases hp : prepB s.val with
   | false => rw [hp] at h; simp at h
   | true =>
    unfold prepB at hp
    simp only [Bool.and_eq_true, decide_eq_true_eq] at hp
    omega
  ·split at h
   ·simp at h
   ·cases hp : valueB s.val with
    | false => rw [hp] at h; simp at h
    | true =>
     unfold valueB at hp
     simp only [Bool.and_eq_true, decide_eq_true_eq] at hp
     omega
theorem tabs_cells {w : World} (h : Tabs w) : w.cell? ⟨0, 1, none⟩ = some (.string (wordK 1)) ∧ w.cell? ⟨0, 2, none⟩ = some (.string (wordK 2)) ∧ w.cell? ⟨0, 3, none⟩ = some (.string (wordK 3)) ∧ w.cell? ⟨0, 4, none⟩ = some (.string (wordK 4)) ∧
  w.cell? ⟨0, 5, none⟩ = some (.string (wordK 5)) ∧ w.cell? ⟨0, 6, none⟩ = some (.string (wordK 6)) ∧ w.cell? ⟨0, 7, none⟩ = some (.string (wordK 7)) ∧ w.cell? ⟨0, 8, none⟩ = some (.string (wordK 8)) ∧
  w.cell? ⟨0, 9, none⟩ = some (.string (wordK 9)) ∧ w.cell? ⟨0, 10, none⟩ = some (.string (wordK 10)) ∧ w.cell? ⟨0, 11, none⟩ = some (.string (wordK 11)) :=
 ⟨h.words 0 (by omega), h.words 1 (by omega), h.words 2 (by omega), h.words 3 (by omega), h.words 4 (by omega), h.words 5 (by omega), h.words 6 (by omega), h.words 7 (by omega), h.words 8 (by omega), h.words 9 (by omega), h.words 10 (by omega)⟩
theorem low5 {k : Int} (h1 : 1 ≤ k) (h2 : k ≤ 5) : k = 1 ∨ k = 2 ∨ k = 3 ∨ k = 4 ∨ k = 5 := by omega
theorem mid3 {k : Int} (h1 : 6 ≤ k) (h2 : k ≤ 8) : k = 6 ∨ k = 7 ∨ k = 8 := by omega
theorem top3 {k : Int} (h1 : 9 ≤ k) (h2 : k ≤ 11) : k = 9 ∨ k = 10 ∨ k = 11 := by omega
theorem show_bad (k : Int) (key val : ByteArray) (w : World) (hT : Tabs w) (hk : key.size ≤ maxLen) (hv : val.size ≤ maxLen) (h : checkE ⟨k, key, val⟩ ≠ 0) :
  Calls Tryz.prog 56 #[.agg #[.int .i64 k, .string key, .string val]] w fun e w' => e = .returned (.tuple #[.string ⟨#[]⟩, .int .i64 (checkE ⟨k, key, val⟩)]) ∧ Below w.heap.size w w' := by
 have HT := Lib.hid hT
 clear hT
 obtain ⟨e, he⟩ : ∃ e, checkE ⟨k, key, val⟩ = e := ⟨_, rfl⟩
 have hc := fun w hT => check_all ⟨k, key, val⟩ w hT hk hv
 rw [he] at h hc ⊢
 have HC := Lib.hid hc
 have hb0 : (e != 0) = true := by simp [h]
 clear he hc h
 go_enter Tryz.func56, Tryz.ntmps56
 go_wp2_with fail
 refine (HC.out _ (HT.out.alloc _)).mono ?_
 rintro e w1 ⟨rfl, hb1⟩
 have hb := below_of_alloc (Nat.le_refl _) hb1
 clear hb1
 go_wp2_with fail
 go_ret2
 exact ⟨rfl, hb⟩
set_option maxHeartbeats 4000000 in
theorem show_low (k : Int) (key val : ByteArray) (w : World) (hT : Tabs w) (hk : key.size ≤ maxLen) (hv : val.size ≤ maxLen) (h : checkE ⟨k, key, val⟩ = 0) (h1 : 1 ≤ k) (h2 : k ≤ 5) (e1 : key.toList.isEmpty = true) (e2 : val.toList.isEmpty = true) :
  Calls Tryz.prog 56 #[.agg #[.int .i64 k, .string key, .string val]] w fun e w' => e = .returned (.tuple #[.string (wordK k), .int .i64 0]) ∧ Below w.heap.size w w' := by
 have HT := Lib.hid hT
 have hc := fun w hT => check_all ⟨k, key, val⟩ w hT hk hv
 rw [h] at hc
 have f1 := e1
 have f2 := e2
 simp only [List.isEmpty_iff] at f1 f2
 have z0 := wordK_size k
 clear hT h hk hv
 rcases low5 h1 h2 with rfl | rfl | rfl | rfl | rfl
 all_goals
  have HC := Lib.hid hc
  clear hc
  go_enter Tryz.func56, Tryz.ntmps56
  go_wp2_with fail
  refine (HC.out _ (HT.out.alloc _)).mono ?_
  rintro e w1 ⟨rfl, hb1⟩
  have c0 := box_cell hb1 0
  have c1 := box_cell hb1 1
  have c2 := box_cell hb1 2
  have hb := below_of_alloc (Nat.le_refl _) hb1
  obtain ⟨t1, t2, t3, t4, t5, -⟩ := tabs_cells (HT.out.below hb)
  clear hb1
  go_wp2_with fail
  go_ret2
  exact ⟨rfl, hb⟩
set_option maxHeartbeats 4000000 in
theorem show_mid (k : Int) (key val : ByteArray) (w : World) (hT : Tabs w) (hk : key.size ≤ maxLen) (hv : val.size ≤ maxLen) (h : checkE ⟨k, key, val⟩ = 0) (h1 : 6 ≤ k) (h2 : k ≤ 8) (e1 : key.toList.isEmpty = false) (e2 : val.toList.isEmpty = true) (z1 : key.size ≤ 60) :
  Calls Tryz.prog 56 #[.agg #[.int .i64 k, .string key, .string val]] w fun e w' => e = .returned (.tuple #[.string (wordK k ++ (blank ++ key)), .int .i64 0]) ∧ Below w.heap.size w w' := by
 have HT := Lib.hid hT
 have hc := fun w hT => check_all ⟨k, key, val⟩ w hT hk hv
 rw [h] at hc
 have f1 := e1
 have f2 := e2
 simp only [List.isEmpty_iff, List.isEmpty_eq_false_iff] at f1 f2
 have z0 := wordK_size k
 clear hT h hk hv
 rcases mid3 h1 h2 with rfl | rfl | rfl
 all_goals
  have HC := Lib.hid hc
  clear hc
  go_enter Tryz.func56, Tryz.ntmps56
  go_wp2_with fail
  refine (HC.out _ (HT.out.alloc _)).mono ?_
  rintro e w1 ⟨rfl, hb1⟩
  have c0 := box_cell hb1 0
  have c1 := box_cell hb1 1
  have c2 := box_cell hb1 2
  have hb := below_of_alloc (Nat.le_refl _) hb1
  obtain ⟨-, -, -, -, -, t6, t7, t8, -⟩ := tabs_cells (HT.out.below hb)
  clear hb1
  go_wp2_with fail
  go_ret2
  exact ⟨rfl, hb⟩
set_option maxHeartbeats 4000000 in
theorem show_top (k : Int) (key val : ByteArray) (w : World) (hT : Tabs w) (hk : key.size ≤ maxLen) (hv : val.size ≤ maxLen) (h : checkE ⟨k, key, val⟩ = 0) (h1 : 9 ≤ k) (h2 : k ≤ 11) (e1 : key.toList.isEmpty = false) (e2 : val.toList.isEmpty = false) (z1 : key.size ≤ 60) (z2 : val.size ≤ 60) :
  Calls Tryz.prog 56 #[.agg #[.int .i64 k, .string key, .string val]] w fun e w' => e = .returned (.tuple #[.string (wordK k ++ (blank ++ key) ++ (blank ++ val)), .int .i64 0]) ∧ Below w.heap.size w w' := by
 have HT := Lib.hid hT
 have hc := fun w hT => check_all ⟨k, key, val⟩ w hT hk hv
 rw [h] at hc
 have f1 := e1
 have f2 := e2
 simp only [List.isEmpty_eq_false_iff] at f1 f2
 have z0 := wordK_size k
 clear hT h hk hv
 rcases top3 h1 h2 with rfl | rfl | rfl
 all_goals
  have HC := Lib.hid hc
  clear hc
  go_enter Tryz.func56, Tryz.ntmps56
  go_wp2_with fail
  refine (HC.out _ (HT.out.alloc _)).mono ?_
  rintro e w1 ⟨rfl, hb1⟩
  have c0 := box_cell hb1 0
  have c1 := box_cell hb1 1
  have c2 := box_cell hb1 2
  have hb := below_of_alloc (Nat.le_refl _) hb1
  obtain ⟨-, -, -, -, -, -, -, -, t9, t10, t11⟩ := tabs_cells (HT.out.below hb)
  clear hb1
  go_wp2_with fail
  go_ret2
  exact ⟨rfl, hb⟩
theorem show_any (s : St) (w : World) (hT : Tabs w) (hk : s.key.size ≤ maxLen) (hv : s.val.size ≤ maxLen) :
  Calls Tryz.prog 56 #[s.v] w fun e w' => e = .returned (.tuple #[.string (showS s), .int .i64 (checkE s)]) ∧ Below w.heap.size w w' := by
 obtain ⟨k, key, val⟩ := s
 unfold showS
 by_cases h : checkE ⟨k, key, val⟩ = 0
 ·rw [if_pos h, h]
  unfold textOf
  rcases valid_sorts h with ⟨h1, h2, e1, e2⟩ | ⟨h1, h2, e1, e2⟩ | ⟨h1, h2, e1, e2⟩
  ·rw [if_pos (by show k < 6; have : k ≤ 5 := h2; omega)]
   exact show_low k key val w hT hk hv h h1 h2 e1 e2
  ·rw [if_neg (by show ¬ k < 6; have : 6 ≤ k := h1; omega), if_pos (by show k < 9; have : k ≤ 8 := h2; omega)]
   exact show_mid k key val w hT hk hv h h1 h2 e1 e2 (valid_sizes h h1).1
  ·rw [if_neg (by show ¬ k < 6; have : 9 ≤ k := h1; omega), if_neg (by show ¬ k < 9; have : 9 ≤ k := h1; omega)]
   exact show_top k key val w hT hk hv h h1 h2 e1 e2 (valid_sizes h (Int.le_trans (by decide) h1)).1 ((valid_sizes h (Int.le_trans (by decide) h1)).2 h1)
 ·rw [if_neg h]
  exact show_bad k key val w hT hk hv h
end Go.Proofs.YtjbnfigpflambacGreatDoor
/- The keep package's picked: what it returns. -/
namespace Go.Proofs.YtjbnfigpflambacGreatDoor
open Go.ChangeShapes Go.WideShapes Go.ChangeAt Go.RowKit
def pick (n m : Int) : Int := (if n < 0 then -(n + 1) else n) % m
theorem pick_bd (n m : Int) (hm : 0 < m) : 0 ≤ pick n m ∧ pick n m < m := by
 unfold pick
 exact ⟨Int.emod_nonneg _ (by omega), Int.emod_lt_of_pos _ hm⟩
theorem neg_mod {n m : Int} (h : n < 0) : -(n + 1).tmod m = -(n + 1) % m := by
 rw [← Int.neg_tmod, Int.tmod_eq_emod_of_nonneg (by omega)]
theorem int_ret {a b : Int} (h : a = b) : Ending.returned (.int .i64 a) = .returned (.int .i64 b) := by rw [h]
theorem picked_any (n m : Int) (w : World) (hn : (Lit.int .i64 n).wf = true) (hm : 0 < m) (hm2 : m ≤ 9223372036854775807) :
  Calls Tryz.prog 19 #[.int .i64 n, .int .i64 m] w fun e w' => e = .returned (.int .i64 (pick n m)) ∧ w = w' := by
 obtain ⟨h1, h2⟩ := wf_i64 hn
 clear hn
 have hz : (m == 0) = false := by simp; omega
 unfold pick
 by_cases h : n < 0
 ·rw [if_pos h]
  go_enter Tryz.func19, Tryz.ntmps19
  go_wp2
  go_ret
  exact ⟨int_ret (neg_mod h), rfl⟩
 ·rw [if_neg h]
  go_enter Tryz.func19, Tryz.ntmps19
  go_wp2
  go_ret
  exact ⟨rfl, rfl⟩
theorem picked_is (n m r : Int) (w : World) (hn : (Lit.int .i64 n).wf = true) (hm : 0 < m) (hm2 : m ≤ 9223372036854775807) (hr : pick n m = r) :
  Calls Tryz.prog 19 #[.int .i64 n, .int .i64 m] w fun e w' => e = .returned (.int .i64 r) ∧ w = w' := by
 subst hr
 exact picked_any n m w hn hm hm2
end Go.Proofs.YtjbnfigpflambacGreatDoor
/- strconv.Itoa of 0 to 11. -/
namespace Go.Proofs.YtjbnfigpflambacGreatDoor
open Go.ChangeShapes Go.WideShapes Go.ChangeAt Go.RowKit
def numsL : List ByteArray := [⟨#[48]⟩, ⟨#[49]⟩, ⟨#[50]⟩, ⟨#[51]⟩, ⟨#[52]⟩, ⟨#[53]⟩, ⟨#[54]⟩, ⟨#[55]⟩, ⟨#[56]⟩, ⟨#[57]⟩, ⟨#[49, 48]⟩, ⟨#[49, 49]⟩]
def numT (n : Int) : ByteArray := numsL.getD n.toNat ByteArray.empty
theorem below12 {n : Int} (h0 : 0 ≤ n) (h1 : n < 12) : n = 0 ∨ n = 1 ∨ n = 2 ∨ n = 3 ∨ n = 4 ∨ n = 5 ∨ n = 6 ∨ n = 7 ∨ n = 8 ∨ n = 9 ∨ n = 10 ∨ n = 11 := by omega
theorem str_ret {a b : ByteArray} (h : a = b) : Ending.returned (.string a) = .returned (.string b) := by rw [h]
set_option maxRecDepth 100000 in
theorem small_any (n : Int) (h0 : 0 ≤ n) (h1 : n < 12) (w : World) :
  Calls Tryz.prog 111 #[.int .i64 n] w fun e w' => e = .returned (.string (numT n)) ∧ w = w' := by
 rcases below12 h0 h1 with rfl | rfl | rfl | rfl | rfl | rfl | rfl | rfl | rfl | rfl | rfl | rfl
 all_goals
  go_enter Tryz.func111, Tryz.ntmps111
  go_wp2
  go_ret
  exact ⟨str_ret (by decide +kernel), rfl⟩
theorem format_any (n : Int) (h0 : 0 ≤ n) (h1 : n < 12) (w : World) :
  Calls Tryz.prog 86 #[.int .i64 n, .int .i64 10] w fun e w' => e = .returned (.string (numT n)) ∧ w = w' := by
 have g1 : n < 100 := by omega
 go_enter Tryz.func86, Tryz.ntmps86
 go_wp2_with fail
 refine (small_any n h0 h1 _).mono ?_
 rintro e w1 ⟨rfl, rfl⟩
 go_wp2_with fail
 go_ret
 exact ⟨rfl, rfl⟩
theorem itoa_in (n : Int) (h0 : 0 ≤ n) (h1 : n < 12) (w : World) :
  Calls Tryz.prog 57 #[.int .i64 n] w fun e w' => e = .returned (.string (numT n)) ∧ w = w' := by
 go_enter Tryz.func57, Tryz.ntmps57
 go_wp2_with fail
 refine (format_any n h0 h1 _).mono ?_
 rintro e w1 ⟨rfl, rfl⟩
 go_wp2_with fail
 go_ret
 exact ⟨rfl, rfl⟩
theorem itoa_any (n : Int) (h0 : 0 ≤ n) (h1 : n < 12) (w : World) :
  Calls Tryz.prog 24 #[.int .i64 n] w fun e w' => e = .returned (.string (numT n)) ∧ w = w' := by
 go_enter Tryz.func24, Tryz.ntmps24
 go_wp2_with fail
 refine (itoa_in n h0 h1 _).mono ?_
 rintro e w1 ⟨rfl, rfl⟩
 go_wp2_with fail
 go_ret
 exact ⟨rfl, rfl⟩
end Go.Proofs.YtjbnfigpflambacGreatDoor
