/- The reference's StmtOf: what it returns, given what StmtFault returns. The reference's did at an Exec. -/
import Derived.Test.YtjbnfigpflambabDoorJ14
import Derived.Test.YtjbnfigpflambabDoorJ20
/- The reference's StmtOf: what it returns, given what StmtFault returns. -/
namespace Go.Proofs.YtjbnfigpflambabDoor
open Go.ChangeShapes Go.WideShapes Go.ChangeAt Go.RowKit
theorem parts_none {t : ByteArray} (h : Lib.indexB t ⟨#[32]⟩ = -1) : parts t = [t] := Lib.splitB_miss _ _ _ _ h
theorem index_cases (t : ByteArray) : Lib.indexB t ⟨#[32]⟩ = -1 ∨ ∃ o : Nat, Lib.indexB t ⟨#[32]⟩ = o := by
 have := Lib.index_ge t.data.toList (⟨#[32]⟩ : ByteArray).data.toList
 rcases Int.lt_or_le (Lib.indexB t ⟨#[32]⟩) 0 with h | h
 ·exact .inl (by show Lib.index _ _ = -1; have : Lib.index t.data.toList (⟨#[32]⟩ : ByteArray).data.toList < 0 := h; omega)
 ·exact .inr ⟨(Lib.indexB t ⟨#[32]⟩).toNat, by omega⟩
theorem kind_word (j : Nat) (h1 : 1 ≤ j) (h2 : j ≤ 11) : kindOf (wordsL.getD (j - 1) ByteArray.empty) = j := by
 have hk : j = 1 ∨ j = 2 ∨ j = 3 ∨ j = 4 ∨ j = 5 ∨ j = 6 ∨ j = 7 ∨ j = 8 ∨ j = 9 ∨ j = 10 ∨ j = 11 := by omega
 rcases hk with rfl | rfl | rfl | rfl | rfl | rfl | rfl | rfl | rfl | rfl | rfl <;> decide +kernel
theorem idx_at (x : ByteArray) : ∀ (zs : List ByteArray) (i k : Nat), Lib.idxFromS zs x i = ((i + k : Nat) : Int) → zs.getD k ByteArray.empty = x
 | [], i, k, h => by simp [Lib.idxFromS] at h; omega
 | z :: zs, i, k, h => by
  unfold Lib.idxFromS at h
  by_cases hz : z = x
  ·rw [if_pos hz] at h
   obtain rfl : k = 0 := by omega
   simpa using hz
  ·rw [if_neg hz] at h
   rcases k with _ | k
   ·exfalso
    rcases idx_bd x zs (i + 1) with h1 | ⟨h1, h2⟩
    ·omega
    ·have := idx_ge x zs (i + 1)
     omega
   ·have := idx_at x zs (i + 1) k (by rw [h]; omega)
    simpa using this
where
 idx_ge (x : ByteArray) : ∀ (zs : List ByteArray) (i : Nat), Lib.idxFromS zs x i = -1 ∨ (i : Int) ≤ Lib.idxFromS zs x i
  | [], i => .inl rfl
  | z :: zs, i => by
   unfold Lib.idxFromS
   by_cases hz : z = x
   ·rw [if_pos hz]; exact .inr (Int.le_refl _)
   ·rw [if_neg hz]
    rcases idx_ge x zs (i + 1) with h | h
    ·exact .inl h
    ·exact .inr (by omega)
theorem word_iff (x : ByteArray) (j : Nat) (h1 : 1 ≤ j) (h2 : j ≤ 11) : ((wordsL.getD (j - 1) ByteArray.empty).toList == x.toList) = decide (kindOf x = j) := by
 rw [Bool.eq_iff_iff, Lib.bytes_beq_iff, decide_eq_true_iff]
 constructor
 ·rintro rfl
  exact kind_word j h1 h2
 ·intro h
  refine idx_at x wordsL 0 (j - 1) ?_
  have : Lib.idxOfS wordsL x + 1 = j := h
  unfold Lib.idxOfS at this
  omega
theorem stmtOf_long (t : ByteArray) (w : World) (ht : 60 < t.size) (hm : t.size ≤ maxLen) :
  Calls Tryd.prog 57 #[.string t] w fun e w' => e = .returned (.tuple #[St.none.v, .int .i64 1]) ∧ Below w.heap.size w w' := by
 unfold maxLen at hm
 go_enter Tryd.func57, Tryd.ntmps57
 go_wp2_with fail
 exact bodyPost_ret (v := .tuple #[St.none.v, .int .i64 1]) (by simp [results, Tryd.results57, go_sem, St.v, St.none]) rfl ⟨rfl, boxed _ _⟩
/-- the kind so far -/
def soFar (K : Int) (j : Nat) : Int := if 1 ≤ K ∧ K < j then K else 0
/-- in the midst of StmtOf -/
structure Mid2 (w wx : World) (K : Int) (p1 p2 : ByteArray) (b : Nat) : Prop where
 lt : w.heap.size < b
 bel : Below w.heap.size w wx
 res : Blk wx w.heap.size 23 #[.int .i64 0, .string ⟨#[]⟩, .string ⟨#[]⟩]
 stm : Blk wx b 23 #[.int .i64 K, .string p1, .string p2]
section
variable {w wx : World} {K : Int} {p1 p2 : ByteArray} {b : Nat}
theorem Mid2.cells (m : Mid2 w wx K p1 p2 b) : wx.cell? ⟨w.heap.size, 0, none⟩ = some (.int .i64 0) ∧ wx.cell? ⟨w.heap.size, 1, none⟩ = some (.string ⟨#[]⟩) ∧ wx.cell? ⟨w.heap.size, 2, none⟩ = some (.string ⟨#[]⟩) ∧
  wx.cell? ⟨b, 0, none⟩ = some (.int .i64 K) ∧ wx.cell? ⟨b, 1, none⟩ = some (.string p1) ∧ wx.cell? ⟨b, 2, none⟩ = some (.string p2) ∧
  (∀ i, wx.frozen? ⟨w.heap.size, i, none⟩ = false) ∧ (∀ i, wx.frozen? ⟨b, i, none⟩ = false) :=
 ⟨m.res.cell 0, m.res.cell 1, m.res.cell 2, m.stm.cell 0, m.stm.cell 1, m.stm.cell 2, m.res.frozen, m.stm.frozen⟩
theorem Mid2.set_0 (m : Mid2 w wx K p1 p2 b) (q : Int) : Mid2 w (wx.setCell ⟨b, 0, none⟩ (.int .i64 q)) q p1 p2 b :=
 ⟨m.lt, m.bel.setCell (Nat.le_of_lt m.lt) _, m.res.far (Nat.ne_of_lt m.lt) _, m.stm.set_ 0 _⟩
theorem Mid2.set_1 (m : Mid2 w wx K p1 p2 b) (q : ByteArray) : Mid2 w (wx.setCell ⟨b, 1, none⟩ (.string q)) K q p2 b :=
 ⟨m.lt, m.bel.setCell (Nat.le_of_lt m.lt) _, m.res.far (Nat.ne_of_lt m.lt) _, m.stm.set_ 1 _⟩
theorem Mid2.set_2 (m : Mid2 w wx K p1 p2 b) (q : ByteArray) : Mid2 w (wx.setCell ⟨b, 2, none⟩ (.string q)) K p1 q b :=
 ⟨m.lt, m.bel.setCell (Nat.le_of_lt m.lt) _, m.res.far (Nat.ne_of_lt m.lt) _, m.stm.set_ 2 _⟩
theorem Mid2.keep {w3 : World} (m : Mid2 w wx K p1 p2 b) (hb : Below wx.heap.size wx w3) : Mid2 w w3 K p1 p2 b :=
 ⟨m.lt, below_step m.bel (Nat.le_refl _) hb, m.res.keep hb, m.stm.keep hb⟩
theorem Mid2.drewN (m : Mid2 w wx K p1 p2 b) (n : Nat) : Mid2 w (wx.drewN n) K p1 p2 b := ⟨m.lt, below_drewN m.bel n, m.res.drewN n, m.stm.drewN n⟩
end
def wordN (j : Nat) : ByteArray := wordsL.getD (j - 1) ByteArray.empty
theorem wordN_iff (x : ByteArray) (j : Nat) (h1 : 1 ≤ j) (h2 : j ≤ 11) : ((wordN j).toList == x.toList) = decide (kindOf x = j) := word_iff x j h1 h2
theorem word_nat (j : Nat) (w : World) (h1 : 1 ≤ j) (h2 : j ≤ 11) :
  Calls Tryd.prog 31 #[.int .i64 (j : Int)] w fun e w' => e = .returned (.string (wordN j)) ∧ Below w.heap.size w w' :=
 word_any j w (by omega) (by omega)
theorem soFar_one (K : Int) : soFar K 1 = 0 := by unfold soFar; rw [if_neg (by omega)]
theorem soFar_hit {K : Int} {j : Nat} (h : K = j) (h1 : 1 ≤ j) : soFar K (j + 1) = j := by unfold soFar; rw [if_pos (by omega)]; exact h
theorem soFar_miss {K : Int} {j : Nat} (h : K ≠ j) : soFar K (j + 1) = soFar K j := by
 unfold soFar
 by_cases h1 : 1 ≤ K ∧ K < j
 ·rw [if_pos h1, if_pos (by omega)]
 ·rw [if_neg h1, if_neg (by omega)]
theorem soFar_end {K : Int} (h0 : 0 ≤ K) (h1 : K ≤ 11) : soFar K 12 = K := by
 unfold soFar
 by_cases h : K = 0
 ·rw [if_neg (by omega), h]
 ·rw [if_pos (by omega)]
/-- what the first blank parts -/
def Cut (t word rest : ByteArray) (more : Bool) : Prop :=
 (more = false ∧ rest = ⟨#[]⟩ ∧ parts t = [word]) ∨ (more = true ∧ parts t = word :: Lib.splitB ⟨#[32]⟩ 0 1 rest ∧ rest.size ≤ t.size)
theorem Cut.word {t word rest : ByteArray} {more : Bool} (h : Cut t word rest more) : partAt t 0 = word := by
 unfold partAt
 rcases h with ⟨_, _, h⟩ | ⟨_, h, _⟩ <;> rw [h] <;> rfl
theorem cut_no {t : ByteArray} (h : Lib.indexB t ⟨#[32]⟩ = -1) : Cut t t ⟨#[]⟩ false := .inl ⟨rfl, rfl, parts_none h⟩
theorem cut_yes {t : ByteArray} {o : Nat} (h : Lib.indexB t ⟨#[32]⟩ = o) : Cut t (t.extract 0 o) (t.extract (o + 1) t.size) true := by
 refine .inr ⟨rfl, ?_, ?_⟩
 ·have e := Lib.splitB_hit ⟨#[32]⟩ 0 1 t o h
  exact e
 ·rw [ByteArray.size_extract]; omega
set_option maxRecDepth 100000 in
set_option maxHeartbeats 2000000 in
theorem stmtOf_1 (t : ByteArray) (w : World) (ht : t.size ≤ 60) (hT : Tabs w) (hsub : kindOf (partAt t 0) = 11 → ReadOk 57 (partAt t 2)) :
  Calls Tryd.prog 57 #[.string t] w fun e w' => e = .returned (.tuple #[(readS t).v, .int .i64 (readE t)]) ∧ Below w.heap.size w w' := by
 have hm : t.size ≤ maxLen := by unfold maxLen; omega
 have HT := Lib.hid hT
 have HS := Lib.hid hsub
 clear hT hsub
 go_enter Tryd.func57, Tryd.ntmps57
 go_upto_region 3 with fail
 go_cut [4, 5, 6] (fun a b c wx => ∃ (word rest : ByteArray) (more : Bool), Cut t word rest more ∧ a = .string word ∧ b = .string rest ∧ c = .bool more ∧
  Below w.heap.size w wx ∧ Blk wx w.heap.size 23 #[.int .i64 0, .string ⟨#[]⟩, .string ⟨#[]⟩] ∧ wx.heap.size = w.heap.size + 1)
 case first =>
  rcases index_cases t with hi | ⟨o, hi⟩
  ·have HI := Lib.hid hi
   clear hi
   go_wp2_with fail
   refine (upTo_no t _ hm HI.out).mono ?_
   rintro e w1 ⟨rfl, rfl⟩
   go_wp2_with fail
   go_meet
   exact ⟨_, _, _, cut_no HI.out, rfl, rfl, rfl, boxed _ _, Blk.new _ _ _, by simp⟩
  ·have HI := Lib.hid hi
   clear hi
   go_wp2_with fail
   refine (upTo_yes t o _ hm HI.out).mono ?_
   rintro e w1 ⟨rfl, nd, rfl⟩
   go_wp2_with fail
   go_meet
   exact ⟨_, _, _, cut_yes HI.out, rfl, rfl, rfl, below_drewN (boxed _ _) _, (Blk.new _ _ _).drewN _, by simp [World.drewN]⟩
 case rest =>
  obtain ⟨word, rest, more, hcut', rfl, rfl, rfl, hbc, hres, hzc⟩ := hcut
  have hw0 := hcut'.word
  obtain ⟨K, hK⟩ : ∃ K, kindOf word = K := ⟨_, rfl⟩
  obtain ⟨k1, k2⟩ := kindOf_bd word
  rw [hK] at k1 k2
  have M0 : Mid2 w (wc.alloc (.cells #[.int .i64 0, .string ⟨#[]⟩, .string ⟨#[]⟩] 23)) (soFar K 1) ⟨#[]⟩ ⟨#[]⟩ wc.heap.size :=
   ⟨by omega, hbc.alloc hbc.size _, hres.alloc _, by rw [soFar_one]; exact Blk.new _ _ _⟩
  have KK := Lib.hid hK
  have HC := Lib.hid hcut'
  have HW := Lib.hid hw0
  have HM := Lib.hid M0
  clear hK hcut' hw0 M0 hbc hres hzc
  obtain ⟨b, hb⟩ : ∃ b, wc.heap.size = b := ⟨_, rfl⟩
  rw [hb] at HM
  have HB := Lib.hid hb
  go_wp2_with fail
  clear hb
  go_loopw [8] (fun i wr => ∃ j : Nat, 1 ≤ j ∧ j ≤ 12 ∧ i = .int .i64 j ∧ Mid2 w wr (soFar K j) ⟨#[]⟩ ⟨#[]⟩ b) (fun i _ => 12 - (intOf i).toNat)
  case atStart => exact ⟨1, by omega, by omega, rfl, HM.out⟩
  case round =>
   obtain ⟨j, j1, j2, rfl, hM⟩ := hrel
   clear HM
   by_cases hj : j ≤ 11
   ·have HM := Lib.hid hM
    clear hM
    by_cases hKj : K = j
    ·have hb0 : ((wordN j).toList == word.toList) = true := by rw [wordN_iff _ _ j1 hj, KK.out]; simp [hKj]
     have HKj := Lib.hid hKj
     clear hKj
     go_wp2_with fail
     refine (word_nat j _ j1 hj).mono ?_
     rintro e w3 ⟨rfl, hb3⟩
     have N := HM.out.keep hb3
     obtain ⟨r0, r1, r2, s0, s1, s2, fr, fs⟩ := N.cells
     have HN := Lib.hid N
     clear N hb3 HM
     go_wp2_with fail
     go_roundw
     case rel => exact ⟨j + 1, by omega, by omega, by go_num, by rw [soFar_hit HKj.out j1]; exact HN.out.set_0 _⟩
     case measure => simp [intOf]; omega
    ·have hb0 : ((wordN j).toList == word.toList) = false := by rw [wordN_iff _ _ j1 hj, KK.out]; simp [hKj]
     have HKj := Lib.hid hKj
     clear hKj
     go_wp2_with fail
     refine (word_nat j _ j1 hj).mono ?_
     rintro e w3 ⟨rfl, hb3⟩
     have N := HM.out.keep hb3
     have HN := Lib.hid N
     clear N hb3 HM
     go_wp2_with fail
     go_roundw
     case rel => exact ⟨j + 1, by omega, by omega, by go_num, by rw [soFar_miss HKj.out]; exact HN.out⟩
     case measure => simp [intOf]; omega
   ·obtain rfl : j = 12 := by omega
    rw [soFar_end k1 k2] at hM
    obtain ⟨r0, r1, r2, s0, s1, s2, fr, fs⟩ := hM.cells
    have n1 : b ≠ w.heap.size := Nat.ne_of_gt hM.lt
    have n2 : w.heap.size ≠ b := Nat.ne_of_lt hM.lt
    have HM := Lib.hid hM
    clear hM
    by_cases hK0 : K = 0
    ·have hb0 : (K == 0) = true := by simp [hK0]
     have e1 : readE t = 3 := by unfold readE; rw [if_neg (by omega), if_pos (by rw [HW.out, KK.out]; exact hK0)]
     have HRD := Lib.hid e1
     clear e1 hK0
     go_wp2_with fail
     have MM := Lib.hid (HM.out)
     refine bodyPost_ret (v := .tuple #[St.none.v, .int .i64 3]) ?_ rfl ⟨by unfold readS; rw [HRD.out]; rfl, ?_⟩
     ·simp [results, Tryd.results57, go_sem, St.v, St.none, r0, r1, r2]
     ·exact ((MM.out.bel.setCell (Nat.le_refl _) _).setCell (Nat.le_refl _) _).setCell (Nat.le_refl _) _
    ·have hb0 : (K == 0) = false := by simp [hK0]
     have HKK := Lib.hid (show kindOf (partAt t 0) ≠ 0 by rw [HW.out, KK.out]; exact hK0)
     have HRK := Lib.hid (show (rawOf t).k = K by unfold rawOf; rw [HW.out, KK.out])
     have hsub : K = 11 → ReadOk 57 (partAt t 2) := fun h => HS.out (by rw [HW.out, KK.out]; exact h)
     clear hK0
     rcases HC.out with ⟨rfl, rfl, hp⟩ | ⟨rfl, hp, hrs⟩
     ·have e1 : partAt t 1 = ⟨#[]⟩ := by unfold partAt; rw [hp]; rfl
      have e2 : partAt t 2 = ⟨#[]⟩ := by unfold partAt; rw [hp]; rfl
      have hbare : bare t = false := by unfold bare; rw [hp]; rfl
      have hraw : rawOf t = ⟨K, ⟨#[]⟩, ⟨#[]⟩⟩ := by rw [← HRK.out, ← e1]; unfold rawOf; rw [e1, e2]
      have HRD := Lib.hid (read_go ht HKK.out hbare hraw)
      rw [e2] at hsub
      have HR := Lib.hid hraw
      have HSS := Lib.hid hsub
      clear hraw hbare hp e1 e2 HC hsub
      go_wp2_with fail
      have MM := Lib.hid HM.out
      clear r0 r1 r2 s0 s1 s2 fr fs
      refine (fault_any K _ _ _ (HT.out.below MM.out.bel) (Nat.zero_le _) (Nat.zero_le _) HSS.out).mono ?_
      rintro e w4 ⟨rfl, hb3⟩
      have N3 := MM.out.keep hb3
      obtain ⟨r0, r1, r2, s0, s1, s2, fr, fs⟩ := N3.cells
      have HN := Lib.hid N3
      clear N3 hb3 MM
      rw [← HRD.out]
      by_cases he : readE t = 0
      ·have hb0 : (readE t != 0) = false := by simp [he]
       have HE := Lib.hid he
       clear he
       go_wp2_with fail
       refine bodyPost_ret (v := .tuple #[(rawOf t).v, .int .i64 0]) ?_ rfl ⟨by rw [HE.out]; unfold readS; rw [if_pos HE.out], ?_⟩
       ·rw [HR.out]
        simp [results, Tryd.results57, go_sem, St.v, r0, r1, r2]
       ·exact ((HN.out.bel.setCell (Nat.le_refl _) _).setCell (Nat.le_refl _) _).setCell (Nat.le_refl _) _
      ·have hb0 : (readE t != 0) = true := by simp [he]
       have HE := Lib.hid he
       clear he
       go_wp2_with fail
       refine bodyPost_ret (v := .tuple #[St.none.v, .int .i64 (readE t)]) ?_ rfl ⟨by unfold readS; rw [if_neg HE.out], ?_⟩
       ·simp [results, Tryd.results57, go_sem, St.v, St.none, r0, r1, r2]
       ·exact ((HN.out.bel.setCell (Nat.le_refl _) _).setCell (Nat.le_refl _) _).setCell (Nat.le_refl _) _
     ·have hmr : rest.size ≤ maxLen := by unfold maxLen; omega
      rcases index_cases rest with hi | ⟨o, hi⟩
      ·rw [Lib.splitB_miss _ _ _ _ hi] at hp
       have e1 : partAt t 1 = rest := by unfold partAt; rw [hp]; rfl
       have e2 : partAt t 2 = ⟨#[]⟩ := by unfold partAt; rw [hp]; rfl
       have hraw : rawOf t = ⟨K, rest, ⟨#[]⟩⟩ := by rw [← HRK.out, ← e1, ← e2]; rfl
       have hbare : bare t = isE rest := by unfold bare; rw [e1, hp]; simp
       rw [e2] at hsub
       have HI := Lib.hid hi
       have HR := Lib.hid hraw
       have HBR := Lib.hid hbare
       have HSS := Lib.hid hsub
       clear hi hraw hbare hp e1 e2 hsub HC
       cases he1 : rest.toList.isEmpty with
       | true =>
        have f1 := he1
        simp only [List.isEmpty_iff] at f1
        have HRD := Lib.hid (read_bare ht HKK.out (by rw [HBR.out]; exact he1))
        go_wp2_with fail
        refine (upTo_no rest _ hmr HI.out).mono ?_
        rintro e w3 ⟨rfl, rfl⟩
        go_wp2_with fail
        have MM := Lib.hid ((HM.out.set_1 rest).set_2 ⟨#[]⟩)
        refine bodyPost_ret (v := .tuple #[St.none.v, .int .i64 4]) ?_ rfl ⟨by unfold readS; rw [HRD.out]; rfl, ?_⟩
        ·simp [results, Tryd.results57, go_sem, St.v, St.none, r0, r1, r2]
        ·exact ((MM.out.bel.setCell (Nat.le_refl _) _).setCell (Nat.le_refl _) _).setCell (Nat.le_refl _) _
       | false =>
        have f1 := he1
        simp only [List.isEmpty_eq_false_iff] at f1
        have HRD := Lib.hid (read_go ht HKK.out (by rw [HBR.out]; exact he1) HR.out)
        go_wp2_with fail
        refine (upTo_no rest _ hmr HI.out).mono ?_
        rintro e w3 ⟨rfl, rfl⟩
        go_wp2_with fail
        have MM := Lib.hid ((HM.out.set_1 rest).set_2 ⟨#[]⟩)
        clear r0 r1 r2 s0 s1 s2 fr fs
        refine (fault_any K _ _ _ (HT.out.below MM.out.bel) hmr (Nat.zero_le _) HSS.out).mono ?_
        rintro e w4 ⟨rfl, hb3⟩
        have N3 := MM.out.keep hb3
        obtain ⟨r0, r1, r2, s0, s1, s2, fr, fs⟩ := N3.cells
        have HN := Lib.hid N3
        clear N3 hb3 MM
        rw [← HRD.out]
        by_cases he : readE t = 0
        ·have hb0 : (readE t != 0) = false := by simp [he]
         have HE := Lib.hid he
         clear he
         go_wp2_with fail
         refine bodyPost_ret (v := .tuple #[(rawOf t).v, .int .i64 0]) ?_ rfl ⟨by rw [HE.out]; unfold readS; rw [if_pos HE.out], ?_⟩
         ·rw [HR.out]
          simp [results, Tryd.results57, go_sem, St.v, r0, r1, r2]
         ·exact ((HN.out.bel.setCell (Nat.le_refl _) _).setCell (Nat.le_refl _) _).setCell (Nat.le_refl _) _
        ·have hb0 : (readE t != 0) = true := by simp [he]
         have HE := Lib.hid he
         clear he
         go_wp2_with fail
         refine bodyPost_ret (v := .tuple #[St.none.v, .int .i64 (readE t)]) ?_ rfl ⟨by unfold readS; rw [if_neg HE.out], ?_⟩
         ·simp [results, Tryd.results57, go_sem, St.v, St.none, r0, r1, r2]
         ·exact ((HN.out.bel.setCell (Nat.le_refl _) _).setCell (Nat.le_refl _) _).setCell (Nat.le_refl _) _
      ·obtain ⟨p1, hp1⟩ : ∃ p, rest.extract 0 o = p := ⟨_, rfl⟩
       obtain ⟨p2, hp2⟩ : ∃ p, rest.extract (o + 1) rest.size = p := ⟨_, rfl⟩
       have hsp : Lib.splitB ⟨#[32]⟩ 0 1 rest = [p1, p2] := by
        have e := Lib.splitB_hit ⟨#[32]⟩ 0 0 rest o hi
        rw [← hp1, ← hp2]
        exact e
       have hup := fun w3 => upTo_yes rest o w3 hmr hi
       rw [hp1, hp2] at hup
       rw [hsp] at hp
       have e1 : partAt t 1 = p1 := by unfold partAt; rw [hp]; rfl
       have e2 : partAt t 2 = p2 := by unfold partAt; rw [hp]; rfl
       have hraw : rawOf t = ⟨K, p1, p2⟩ := by rw [← HRK.out, ← e1, ← e2]; rfl
       have hbare : bare t = (isE p1 || isE p2) := by unfold bare; rw [e1, e2, hp]; simp
       have hz1 : p1.size ≤ maxLen := by rw [← e1]; exact Nat.le_trans (part_size t 1) hm
       have hz2 : p2.size ≤ maxLen := by rw [← e2]; exact Nat.le_trans (part_size t 2) hm
       rw [e2] at hsub
       have HR := Lib.hid hraw
       have HBR := Lib.hid hbare
       have HSS := Lib.hid hsub
       have HUP := Lib.hid hup
       have HZ := Lib.hid (And.intro hz1 hz2)
       clear hi hraw hbare hp e1 e2 hsub HC hsp hup hp1 hp2 hz1 hz2
       cases he1 : p1.toList.isEmpty with
       | true =>
        have f1 := he1
        simp only [List.isEmpty_iff] at f1
        have HRD := Lib.hid (read_bare ht HKK.out (by rw [HBR.out]; simp [isE, he1]))
        go_wp2_with fail
        refine (HUP.out _).mono ?_
        rintro e w3 ⟨rfl, nd, rfl⟩
        go_wp2_with fail
        have MM := Lib.hid (((HM.out.drewN nd).set_1 p1).set_2 p2)
        refine bodyPost_ret (v := .tuple #[St.none.v, .int .i64 4]) ?_ rfl ⟨by unfold readS; rw [HRD.out]; rfl, ?_⟩
        ·simp [results, Tryd.results57, go_sem, St.v, St.none, r0, r1, r2]
        ·exact ((MM.out.bel.setCell (Nat.le_refl _) _).setCell (Nat.le_refl _) _).setCell (Nat.le_refl _) _
       | false =>
        have f1 := he1
        simp only [List.isEmpty_eq_false_iff] at f1
        cases he2 : p2.toList.isEmpty with
        | true =>
         have f2 := he2
         simp only [List.isEmpty_iff] at f2
         have HRD := Lib.hid (read_bare ht HKK.out (by rw [HBR.out]; simp [isE, he2]))
         go_wp2_with fail
         refine (HUP.out _).mono ?_
         rintro e w3 ⟨rfl, nd, rfl⟩
         go_wp2_with fail
         have MM := Lib.hid (((HM.out.drewN nd).set_1 p1).set_2 p2)
         refine bodyPost_ret (v := .tuple #[St.none.v, .int .i64 4]) ?_ rfl ⟨by unfold readS; rw [HRD.out]; rfl, ?_⟩
         ·simp [results, Tryd.results57, go_sem, St.v, St.none, r0, r1, r2]
         ·exact ((MM.out.bel.setCell (Nat.le_refl _) _).setCell (Nat.le_refl _) _).setCell (Nat.le_refl _) _
        | false =>
         have f2 := he2
         simp only [List.isEmpty_eq_false_iff] at f2
         have HRD := Lib.hid (read_go ht HKK.out (by rw [HBR.out]; simp [isE, he1, he2]) HR.out)
         go_wp2_with fail
         refine (HUP.out _).mono ?_
         rintro e w3 ⟨rfl, nd, rfl⟩
         go_wp2_with fail
         have MM := Lib.hid (((HM.out.drewN nd).set_1 p1).set_2 p2)
         clear r0 r1 r2 s0 s1 s2 fr fs
         refine (fault_any K _ _ _ (HT.out.below MM.out.bel) HZ.out.1 HZ.out.2 HSS.out).mono ?_
         rintro e w4 ⟨rfl, hb3⟩
         have N3 := MM.out.keep hb3
         obtain ⟨r0, r1, r2, s0, s1, s2, fr, fs⟩ := N3.cells
         have HN := Lib.hid N3
         clear N3 hb3 MM
         rw [← HRD.out]
         by_cases he : readE t = 0
         ·have hb0 : (readE t != 0) = false := by simp [he]
          have HE := Lib.hid he
          clear he
          go_wp2_with fail
          refine bodyPost_ret (v := .tuple #[(rawOf t).v, .int .i64 0]) ?_ rfl ⟨by rw [HE.out]; unfold readS; rw [if_pos HE.out], ?_⟩
          ·rw [HR.out]
           simp [results, Tryd.results57, go_sem, St.v, r0, r1, r2]
          ·exact ((HN.out.bel.setCell (Nat.le_refl _) _).setCell (Nat.le_refl _) _).setCell (Nat.le_refl _) _
         ·have hb0 : (readE t != 0) = true := by simp [he]
          have HE := Lib.hid he
          clear he
          go_wp2_with fail
          refine bodyPost_ret (v := .tuple #[St.none.v, .int .i64 (readE t)]) ?_ rfl ⟨by unfold readS; rw [if_neg HE.out], ?_⟩
          ·simp [results, Tryd.results57, go_sem, St.v, St.none, r0, r1, r2]
          ·exact ((HN.out.bel.setCell (Nat.le_refl _) _).setCell (Nat.le_refl _) _).setCell (Nat.le_refl _) _
theorem stmtOf_small : ∀ (n : Nat) (t : ByteArray), t.size ≤ n → t.size ≤ 60 → ReadOk 57 t
 | 0, t, h, h60 => fun w hT => stmtOf_1 t w h60 hT fun hk => absurd (part_lt hk) (by omega)
 | n + 1, t, h, h60 => fun w hT => stmtOf_1 t w h60 hT fun hk => stmtOf_small n _ (by have := part_lt hk; omega) (by have := part_lt hk; omega)
theorem stmtOf_any (t : ByteArray) (hm : t.size ≤ maxLen) : ReadOk 57 t := by
 by_cases h : 60 < t.size
 ·intro w _
  have e : readE t = 1 := by unfold readE; rw [if_pos h]
  unfold readS
  rw [e]
  exact stmtOf_long t w h hm
 ·exact stmtOf_small t.size t (Nat.le_refl _) (by omega)
/-- StmtFault, for every statement -/
theorem fault_all (s : St) (w : World) (hT : Tabs w) (hk : s.key.size ≤ maxLen) (hv : s.val.size ≤ maxLen) :
  Calls Tryd.prog 30 #[s.v] w fun e w' => e = .returned (.int .i64 (checkE s)) ∧ Below w.heap.size w w' :=
 fault_any s.k s.key s.val w hT hk hv fun _ => stmtOf_any s.val hv
end Go.Proofs.YtjbnfigpflambabDoor
/- The reference's did at an Exec. -/
namespace Go.Proofs.YtjbnfigpflambabDoor
open Go.ChangeShapes Go.WideShapes Go.ChangeAt Go.RowKit
theorem readK_small {t : ByteArray} (h : (readS t).k ≠ 0) : t.size ≤ 60 ∧ (readS t).key.size ≤ 60 ∧ (readS t).val.size ≤ 60 := by
 have h0 : readE t = 0 := Decidable.byContradiction fun hn => by
  unfold readS at h
  rw [if_neg hn] at h
  exact h rfl
 have hz : t.size ≤ 60 := Decidable.byContradiction fun hn => by
  unfold readE at h0
  rw [if_pos (by omega)] at h0
  cases h0
 have e : readS t = rawOf t := by unfold readS; rw [if_pos h0]
 rw [e]
 exact ⟨hz, Nat.le_trans (part_size t 1) hz, Nat.le_trans (part_size t 2) hz⟩
set_option maxHeartbeats 8000000 in
set_option maxRecDepth 100000 in
theorem refdid_exec (w : World) (B : Nat) (r : Value) (g cap n : Nat) (W : Wo) (cs : List Value) (i : Nat) (key val : ByteArray) (hB : B ≤ w.heap.size) (hn : W.ses.length = n) (hr : OPL w B r W.rows) (hs : OSL w B (.slice (some ⟨g, 0, none⟩) n cap) W.ses cs) (hi : i < n) (a : ByteArray) (hs0 : (W.se i).st ≠ 2) (ha : atP (W.se i).pre key = some a) (hT : Tabs w) (hG : Good W) :
  Calls Tryd.prog 77 #[.agg #[r, .slice (some ⟨g, 0, none⟩) n cap], .int .i64 (i : Nat), .agg #[.int .i64 8, .string key, .string val]] w (DidR w B g cap n (did1 W i (readS a))) := by
 obtain ⟨Ar, cr, A1, z1, A2, z2, A3, z3, A4, z4, rfl, hse, hpre⟩ := did_pre hB hn hr hs hi
 have HP := Lib.hid (hpre ⟨8, key, val⟩)
 have g1 : (i : Int) < (n : Int) := by omega
 have g2 : (0 : Int) ≤ (i : Int) := by omega
 have HN := Lib.hid hn
 have HI := Lib.hid hi
 obtain ⟨R, hR⟩ : ∃ R, did1 W i (readS a) = R := ⟨_, rfl⟩
 rw [hR]
 obtain ⟨t, ht⟩ : ∃ t, W.se i = t := ⟨_, rfl⟩
 rw [ht] at hse HP hs0 ha
 have hpo := (hG.se (show i < W.ses.length by omega)).preOk (by rw [ht]; exact ha)
 obtain ⟨z1', z2', z3'⟩ := readK_small (t := a) (by omega)
 have hC := stmtOf_any a (by unfold maxLen; omega)
 unfold ReadOk at hC
 have HT := Lib.hid hT
 have HD := Lib.hid (fun (u : World) (r' : Value) (cs' : List Value) (hB : B ≤ u.heap.size) (h1 : OPL u B r' W.rows) (h2 : OSL u B (.slice (some ⟨g, 0, none⟩) n cap) W.ses cs') => refdid1_any u B r' g cap n W cs' i (readS a) hB hn h1 h2 hi hG (by omega) (by omega) (by omega) (by unfold maxLen; omega) (by unfold maxLen; omega))
 rw [hR] at HD
 have hb1 : hasK t.pre key = true := by rw [← hasK_atP, ha]; rfl
 have hE := (hG.se (show i < W.ses.length by omega)).preOk (by rw [ht]; exact ha)
 obtain ⟨K, hK1, k1, v1, hrs⟩ : ∃ K, K = (readS a).k ∧ ∃ k1 v1, readS a = ⟨K, k1, v1⟩ := ⟨_, rfl, _, _, rfl⟩
 rw [hrs] at hC HD
 have HC := Lib.hid hC
 clear hpo z1' z2' z3' hT hG hE hK1 hrs hC
 have HS := Lib.hid hse
 clear hpre hse ht hR hn hi hr hs hB
 go_enter Tryd.func77, Tryd.ntmps77
 go_upto_region 1 with fail
 generalize hw4 : (((World.alloc _ _).alloc _).alloc _).alloc _ = w4
 obtain ⟨hz4, f1, y0, y1, y2, y3, y4, hm⟩ := HP.out w4 hw4
 have HM := Lib.hid hm
 clear hw4 hm HP
 go_upto_region 3 with fail
 clear f1 y0 y1 y2 y3 y4
 generalize (World.alloc _ _).alloc _ = w6 at HM ⊢
 have e2 : (t.st == 2) = false := by simpa using hs0
 have e2' : ¬ t.st = 2 := hs0
 have s0 := HM.out.se.cell_ 0 _ rfl
 have s2 := HM.out.se.cell_ 2 _ rfl
 have r0 := HM.out.wo.cell_ 0 _ rfl
 have r1 := HM.out.wo.cell_ 1 _ rfl
 have t0 := HM.out.st.cell_ 0 _ rfl
 have t1 := HM.out.st.cell_ 1 _ rfl
 go_wp2_with fail
 refine (refat_val _ _ t.pre key ((HS.out.at_ HM.out.bel).p2.pl)).mono ?_
 rintro e w7 ⟨rfl, b⟩
 have HM1 := Lib.hid (HM.out.keep b)
 clear s0 s2 r0 r1 t0 t1 b HM
 rw [hb1, ha]
 simp only [Option.getD_some]
 clear hb1 ha
 go_wp2_with fail
 refine (HC.out w7 (HT.out.below HM1.out.bel)).mono ?_
 rintro e w8 ⟨rfl, b⟩
 have HM2 := Lib.hid (HM1.out.keep b)
 clear b HM1
 unfold St.v
 go_upto_region 45 with fail
 have bb := boxed w8 (.cells #[.int .i64 K, .string k1, .string v1] 23)
 have HM3 := Lib.hid (HM2.out.keep bb)
 have Y := Blk.new w8 23 #[.int .i64 K, .string k1, .string v1]
 have y0 := Y.cell_ 0 _ rfl
 have y1 := Y.cell_ 1 _ rfl
 have y2 := Y.cell_ 2 _ rfl
 clear bb HM2 Y
 generalize World.alloc _ _ = w9 at HM3 y0 y1 y2 ⊢
 have r0 := HM3.out.wo.cell_ 0 _ rfl
 have r1 := HM3.out.wo.cell_ 1 _ rfl
 go_wp2_with fail
 refine (HD.out w9 _ cs (Nat.le_trans HM3.out.hB HM3.out.bel.size) HM3.out.rows HM3.out.ses).mono ?_
 rintro e w10 ⟨r', cs', rfl, o1, o2, on⟩
 clear r0 r1 y0 y1 y2
 have lg := HM3.out.lg
 have DQ := Lib.hid (show DidQ w w10 w.heap.size B g cap n r' R.1.rows R.1.ses cs' from ⟨(Only2.of_below HM3.out.bel).trans on, on.blk HM3.out.rw_ (by omega) (by omega), on.blk HM3.out.ra (by omega) (by omega), o1, o2⟩)
 clear o1 o2 on lg
 obtain ⟨F, c5, rfl⟩ := DQ.out.rows.form
 obtain ⟨RW, RA⟩ := R
 obtain ⟨ak, aT, aS⟩ := RA
 unfold anV
 simp only at DQ ⊢
 have u0 := DQ.out.rw_.cell_ 0 _ rfl
 have u1 := DQ.out.rw_.cell_ 1 _ rfl
 have v0 := DQ.out.ra.cell_ 0 _ rfl
 have v1 := DQ.out.ra.cell_ 1 _ rfl
 have v2 := DQ.out.ra.cell_ 2 _ rfl
 have ff := DQ.out.rw_.frozen
 have fg := DQ.out.ra.frozen
 obtain ⟨E1, E2, E3, E4, E5⟩ := DQ.out.ends rfl (.slice F RW.rows.length c5) (.slice (some ⟨g, 0, none⟩) n cap) (.int .i64 ak) (.string aT) (.int .i64 aS)
 have q0 := E4.cell_ 0 _ rfl
 have q1 := E4.cell_ 1 _ rfl
 have p0 := E5.cell_ 0 _ rfl
 have p1 := E5.cell_ 1 _ rfl
 have p2 := E5.cell_ 2 _ rfl
 have FIN := Lib.hid (And.intro E1 (And.intro E2 E3))
 clear E1 E2 E3 E4 E5
 go_wp2_with fail
 refine bodyPost_ret (v := .tuple #[.agg #[.slice F RW.rows.length c5, .slice (some ⟨g, 0, none⟩) n cap], .agg #[.int .i64 ak, .string aT, .int .i64 aS]]) ?_ rfl ⟨_, cs', rfl, FIN.out.2.1, FIN.out.2.2, FIN.out.1⟩
 simp [results, Tryd.results77, go_sem, q0, q1, p0, p1, p2]
end Go.Proofs.YtjbnfigpflambabDoor
