/- An argument that is a world (slices of pairs, and of sessions over such slices), opened to its cells. The reference's StmtOf: what it returns, given what StmtFault returns. say.Show and the reference's StmtText: what each returns; the walk of SayShows. The keep package's picked: what it returns. strconv.Itoa of 0 to 11. A raw thing's statement: what tillermankeep.Stmt returns. Plain laws of the texts of statements: text that was read is the text of the statement; the statements of raw things are valid and read back. The walk of StmtsBack. -/
import Derived.Test.YtjbnfigpflambacGreatDoorG05
import Derived.Test.YtjbnfigpflambacGreatDoorG11
import Derived.Deep.Slices
import Derived.Deep.Fields
import Derived.ChangeSame
import Derived.SizedLaws
import Derived.Lib.IndexLaws
/- An argument that is a world (slices of pairs, and of sessions over such slices), opened to its cells. -/
namespace Go.Proofs.YtjbnfigpflambacGreatDoor
open Go.ChangeShapes Go.WideShapes Go.ChangeAt Go.RowKit Go.Deep Go.Joins
section
variable {H : Type} {enc : TypeId × Value → H} {P : Program} {w : World} {base : Nat} {spare : Nat → Bool} {held : Bool}
theorem open_slice_fields {t e : TypeId} {fs : Array Field} {fuel : Nat} {cs : List Value} {x : DataW H × List MemPlace} (ht : P.underlying t = some (.slice e)) (he : P.underlying e = some (.struct fs))
  (hone : oneCellFields P fs = true) (hC : P.cellsOf e = fs.size) (h : DataW.trod enc P w base spare held fuel t cs = some x) :
  (cs = [.slice none 0 0] ∧ x = (.nil, [])) ∨
  ∃ (a : Addr) (len cap m : Nat) (D : Nat → DataW H) (Pl : Nat → List MemPlace), cs = [.slice (some a) len cap] ∧ base ≤ a.block ∧ len ≤ cap ∧ cap ≤ maxLen ∧ m = (if spare a.block then cap else len) ∧
   x = (.slice ((List.range len).map D) ((List.range (m - len)).map fun j => D (len + j)), MemPlace.row a (m * fs.size) ++ (List.range m).flatMap Pl) ∧
   ∀ i, i < m → ∃ (ys : List (DataW H × List MemPlace)) (n : Nat), D i = .agg (ys.map (·.1)) ∧ Pl i = ys.flatMap (·.2) ∧ ys.length = fs.size ∧
    ∀ (j : Nat) (f : Field), fs[j]? = some f → ∃ (v : Value) (y : DataW H × List MemPlace), w.cell? (a.add (i * fs.size + j)) = some v ∧ ys[j]? = some y ∧ DataW.trod enc P w base spare held n f.type [v] = some y := by
 rcases open_slice ht h with h0 | ⟨a, len, cap, m, n, D, Pl, hcs, hb, hl, hm, hmm, hx, hi⟩
 ·exact .inl h0
 ·refine .inr ⟨a, len, cap, m, D, Pl, hcs, hb, hl, hm, hmm, by rw [hC] at hx; exact hx, fun i him => ?_⟩
  obtain ⟨cs', hc, ht'⟩ := hi i him
  rw [hC] at hc
  obtain ⟨ys, n', hn', hy, hlen, hyl, hf⟩ := DataW.trod_struct he ht'
  obtain ⟨_, hcl, hat⟩ := World.cells?_some hc
  simp only [Prod.mk.injEq] at hy
  refine ⟨ys, n', hy.1, hy.2, hyl, fun j f hj => ?_⟩
  obtain ⟨ho, hk⟩ := hone_of hone j f hj
  have hjl : j < fs.size := (Array.getElem?_eq_some_iff.1 hj).1
  have hcell := hat j hjl
  have hv : cs'[j]? = some (cs'[j]'(by omega)) := List.getElem?_eq_getElem (by omega)
  have h1 := hf j f hj
  rw [ho, hk] at h1
  have hone' : (cs'.drop j).take 1 = [cs'[j]'(by omega)] := by
   rw [List.drop_eq_getElem_cons (by omega)]
   rfl
  rw [hone'] at h1
  have hys : ys[j]? = some (ys[j]'(by omega)) := List.getElem?_eq_getElem (by omega)
  refine ⟨_, _, ?_, hys, h1.trans hys⟩
  rw [← Go.Deep.add_add, hcell, hv]
end
instance : Inhabited Pr := ⟨Pr.no⟩
instance : Inhabited Se := ⟨Se.new⟩
section
variable {H : Type} {enc : TypeId × Value → H} {W : World} {base : Nat} {sp : Nat → Bool} {held : Bool}
theorem getElem_map_range {α : Type} (f : Nat → α) (n i : Nat) (h : i < ((List.range n).map f).length) : ((List.range n).map f)[i] = f i := by simp
end
end Go.Proofs.YtjbnfigpflambacGreatDoor
/- The reference's StmtOf: what it returns, given what StmtFault returns. -/
namespace Go.Proofs.YtjbnfigpflambacGreatDoor
open Go.ChangeShapes Go.WideShapes Go.ChangeAt Go.RowKit
structure Mid2 (w wx : World) (K : Int) (p1 p2 : ByteArray) (b : Nat) : Prop where
 lt : w.heap.size < b
 bel : Below w.heap.size w wx
 res : Blk wx w.heap.size 41 #[.int .i64 0, .string ⟨#[]⟩, .string ⟨#[]⟩]
 stm : Blk wx b 41 #[.int .i64 K, .string p1, .string p2]
section
variable {w wx : World} {K : Int} {p1 p2 : ByteArray} {b : Nat}
theorem Mid2.cells (m : Mid2 w wx K p1 p2 b) : wx.cell? ⟨w.heap.size, 0, none⟩ = some (.int .i64 0) ∧ wx.cell? ⟨w.heap.size, 1, none⟩ = some (.string ⟨#[]⟩) ∧ wx.cell? ⟨w.heap.size, 2, none⟩ = some (.string ⟨#[]⟩) ∧
  wx.cell? ⟨b, 0, none⟩ = some (.int .i64 K) ∧ wx.cell? ⟨b, 1, none⟩ = some (.string p1) ∧ wx.cell? ⟨b, 2, none⟩ = some (.string p2) ∧
  (∀ i, wx.frozen? ⟨w.heap.size, i, none⟩ = false) ∧ (∀ i, wx.frozen? ⟨b, i, none⟩ = false) :=
 ⟨m.res.cell 0, m.res.cell 1, m.res.cell 2, m.stm.cell 0, m.stm.cell 1, m.stm.cell 2, m.res.frozen, m.stm.frozen⟩
theorem Mid2.set_1 (m : Mid2 w wx K p1 p2 b) (q : ByteArray) : Mid2 w (wx.setCell ⟨b, 1, none⟩ (.string q)) K q p2 b :=
 ⟨m.lt, m.bel.setCell (Nat.le_of_lt m.lt) _, m.res.far (Nat.ne_of_lt m.lt) _, m.stm.set_ 1 _⟩
theorem Mid2.set_2 (m : Mid2 w wx K p1 p2 b) (q : ByteArray) : Mid2 w (wx.setCell ⟨b, 2, none⟩ (.string q)) K p1 q b :=
 ⟨m.lt, m.bel.setCell (Nat.le_of_lt m.lt) _, m.res.far (Nat.ne_of_lt m.lt) _, m.stm.set_ 2 _⟩
theorem Mid2.keep {w3 : World} (m : Mid2 w wx K p1 p2 b) (hb : Below wx.heap.size wx w3) : Mid2 w w3 K p1 p2 b :=
 ⟨m.lt, below_step m.bel (Nat.le_refl _) hb, m.res.keep hb, m.stm.keep hb⟩
theorem Mid2.drewN (m : Mid2 w wx K p1 p2 b) (n : Nat) : Mid2 w (wx.drewN n) K p1 p2 b := ⟨m.lt, below_drewN m.bel n, m.res.drewN n, m.stm.drewN n⟩
end
end Go.Proofs.YtjbnfigpflambacGreatDoor
/- say.Show and the reference's StmtText: what each returns; the walk of SayShows. -/
namespace Go.Proofs.YtjbnfigpflambacGreatDoor
open Go.ChangeShapes Go.WideShapes Go.ChangeAt Go.RowKit
def blank : ByteArray := ⟨#[32]⟩
def wordK (k : Int) : ByteArray := wordsL.getD (k.toNat - 1) ByteArray.empty
theorem wordK_size (k : Int) : (wordK k).size ≤ 8 := by
 unfold wordK
 generalize k.toNat - 1 = i
 rcases i with _ | _ | _ | _ | _ | _ | _ | _ | _ | _ | _ | i
 all_goals first | decide +kernel | exact Nat.zero_le _
def textOf (s : St) : ByteArray := if s.k < 6 then wordK s.k else if s.k < 9 then wordK s.k ++ (blank ++ s.key) else wordK s.k ++ (blank ++ s.key) ++ (blank ++ s.val)
def showS (s : St) : ByteArray := if checkE s = 0 then textOf s else ⟨#[]⟩
theorem prepB_ne {s : ByteArray} (h : prepB s = true) : s.toList.isEmpty = false := by
 cases e : s.toList.isEmpty with
 | false => rfl
 | true =>
  have : s = ⟨#[]⟩ := str_inj (by rw [List.isEmpty_iff] at e; rw [e, toList_data])
  subst this
  revert h
  decide +kernel
theorem valid_sorts {s : St} (h : checkE s = 0) : (1 ≤ s.k ∧ s.k ≤ 5 ∧ s.key.toList.isEmpty = true ∧ s.val.toList.isEmpty = true) ∨ (6 ≤ s.k ∧ s.k ≤ 8 ∧ s.key.toList.isEmpty = false ∧ s.val.toList.isEmpty = true) ∨ (9 ≤ s.k ∧ s.k ≤ 11 ∧ s.key.toList.isEmpty = false ∧ s.val.toList.isEmpty = false) := by
 unfold checkE at h
 by_cases h11 : s.k = 11
 ·rw [if_pos h11] at h
  cases hn : nameB s.key <;> cases hp : prepB s.val <;> rw [hn, hp] at h <;> simp at h
  exact .inr (.inr ⟨by omega, by omega, nameB_ne hn, prepB_ne hp⟩)
 rw [if_neg h11] at h
 unfold plainE at h
 by_cases h0 : s.k < 1 ∨ 11 < s.k
 ·rw [if_pos h0] at h; simp at h
 rw [if_neg h0] at h
 by_cases h6 : s.k < 6
 ·rw [if_pos h6] at h
  cases h1 : isE s.key <;> cases h2 : isE s.val <;> rw [h1, h2] at h <;> simp at h
  exact .inl ⟨by omega, by omega, h1, h2⟩
 rw [if_neg h6] at h
 cases hn : nameB s.key with
 | false => rw [hn] at h; simp at h
 | true =>
  rw [hn] at h
  simp only [Bool.not_true, Bool.false_eq_true, if_false] at h
  by_cases h9 : s.k < 9
  ·rw [if_pos h9] at h
   cases h2 : isE s.val <;> rw [h2] at h <;> simp at h
   exact .inr (.inl ⟨by omega, by omega, nameB_ne hn, h2⟩)
  ·rw [if_neg h9] at h
   cases h2 : valueB s.val <;> rw [h2] at h <;> simp at h
   exact .inr (.inr ⟨by omega, by omega, nameB_ne hn, valueB_ne h2⟩)
theorem valid_sizes {s : St} (h : checkE s = 0) (h6 : 6 ≤ s.k) : s.key.size ≤ 60 ∧ (9 ≤ s.k → s.val.size ≤ 60) := by
 have hn : nameB s.key = true := by
  cases hn : nameB s.key with
  | true => rfl
  | false =>
   unfold checkE plainE at h
   rw [hn, if_neg (show ¬ s.k < 6 by omega)] at h
   split at h
   ·simp at h
   ·split at h <;> simp at h
 refine ⟨?_, fun h9 => ?_⟩
 ·unfold nameB at hn
  simp only [Bool.and_eq_true, decide_eq_true_eq] at hn
  omega
 ·unfold checkE plainE at h
  rw [hn, if_neg (show ¬ s.k < 6 by omega), if_neg (show ¬ s.k < 9 by omega)] at h
  split at h
  ·cases hp : prepB s.val with
   | false => rw [hp] at h; simp at h
   | true =>
    unfold prepB at hp
    simp only [Bool.and_eq_true, decide_eq_true_eq] at hp
    omega
  ·split at h
   ·simp at h
   ·cases hp : valueB s.val with
    | false => rw [hp] at h; simp at h
    | true =>
     unfold valueB at hp
     simp only [Bool.and_eq_true, decide_eq_true_eq] at hp
     omega
theorem tabs_cells {w : World} (h : Tabs w) : w.cell? ⟨0, 1, none⟩ = some (.string (wordK 1)) ∧ w.cell? ⟨0, 2, none⟩ = some (.string (wordK 2)) ∧ w.cell? ⟨0, 3, none⟩ = some (.string (wordK 3)) ∧ w.cell? ⟨0, 4, none⟩ = some (.string (wordK 4)) ∧
  w.cell? ⟨0, 5, none⟩ = some (.string (wordK 5)) ∧ w.cell? ⟨0, 6, none⟩ = some (.string (wordK 6)) ∧ w.cell? ⟨0, 7, none⟩ = some (.string (wordK 7)) ∧ w.cell? ⟨0, 8, none⟩ = some (.string (wordK 8)) ∧
  w.cell? ⟨0, 9, none⟩ = some (.string (wordK 9)) ∧ w.cell? ⟨0, 10, none⟩ = some (.string (wordK 10)) ∧ w.cell? ⟨0, 11, none⟩ = some (.string (wordK 11)) :=
 ⟨h.words 0 (by omega), h.words 1 (by omega), h.words 2 (by omega), h.words 3 (by omega), h.words 4 (by omega), h.words 5 (by omega), h.words 6 (by omega), h.words 7 (by omega), h.words 8 (by omega), h.words 9 (by omega), h.words 10 (by omega)⟩
theorem low5 {k : Int} (h1 : 1 ≤ k) (h2 : k ≤ 5) : k = 1 ∨ k = 2 ∨ k = 3 ∨ k = 4 ∨ k = 5 := by omega
theorem mid3 {k : Int} (h1 : 6 ≤ k) (h2 : k ≤ 8) : k = 6 ∨ k = 7 ∨ k = 8 := by omega
theorem top3 {k : Int} (h1 : 9 ≤ k) (h2 : k ≤ 11) : k = 9 ∨ k = 10 ∨ k = 11 := by omega
theorem show_bad (k : Int) (key val : ByteArray) (w : World) (hT : Tabs w) (hk : key.size ≤ maxLen) (hv : val.size ≤ maxLen) (h : checkE ⟨k, key, val⟩ ≠ 0) :
  Calls Tryz.prog 56 #[.agg #[.int .i64 k, .string key, .string val]] w fun e w' => e = .returned (.tuple #[.string ⟨#[]⟩, .int .i64 (checkE ⟨k, key, val⟩)]) ∧ Below w.heap.size w w' := by
 have HT := Lib.hid hT
 clear hT
 obtain ⟨e, he⟩ : ∃ e, checkE ⟨k, key, val⟩ = e := ⟨_, rfl⟩
 have hc := fun w hT => check_all ⟨k, key, val⟩ w hT hk hv
 rw [he] at h hc ⊢
 have HC := Lib.hid hc
 have hb0 : (e != 0) = true := by simp [h]
 clear he hc h
 go_enter Tryz.func56, Tryz.ntmps56
 go_wp2_with fail
 refine (HC.out _ (HT.out.alloc _)).mono ?_
 rintro e w1 ⟨rfl, hb1⟩
 have hb := below_of_alloc (Nat.le_refl _) hb1
 clear hb1
 go_wp2_with fail
 go_ret2
 exact ⟨rfl, hb⟩
set_option maxHeartbeats 4000000 in
theorem show_low (k : Int) (key val : ByteArray) (w : World) (hT : Tabs w) (hk : key.size ≤ maxLen) (hv : val.size ≤ maxLen) (h : checkE ⟨k, key, val⟩ = 0) (h1 : 1 ≤ k) (h2 : k ≤ 5) (e1 : key.toList.isEmpty = true) (e2 : val.toList.isEmpty = true) :
  Calls Tryz.prog 56 #[.agg #[.int .i64 k, .string key, .string val]] w fun e w' => e = .returned (.tuple #[.string (wordK k), .int .i64 0]) ∧ Below w.heap.size w w' := by
 have HT := Lib.hid hT
 have hc := fun w hT => check_all ⟨k, key, val⟩ w hT hk hv
 rw [h] at hc
 have f1 := e1
 have f2 := e2
 simp only [List.isEmpty_iff] at f1 f2
 have z0 := wordK_size k
 clear hT h hk hv
 rcases low5 h1 h2 with rfl | rfl | rfl | rfl | rfl
 all_goals
  have HC := Lib.hid hc
  clear hc
  go_enter Tryz.func56, Tryz.ntmps56
  go_wp2_with fail
  refine (HC.out _ (HT.out.alloc _)).mono ?_
  rintro e w1 ⟨rfl, hb1⟩
  have c0 := box_cell hb1 0
  have c1 := box_cell hb1 1
  have c2 := box_cell hb1 2
  have hb := below_of_alloc (Nat.le_refl _) hb1
  obtain ⟨t1, t2, t3, t4, t5, -⟩ := tabs_cells (HT.out.below hb)
  clear hb1
  go_wp2_with fail
  go_ret2
  exact ⟨rfl, hb⟩
set_option maxHeartbeats 4000000 in
theorem show_mid (k : Int) (key val : ByteArray) (w : World) (hT : Tabs w) (hk : key.size ≤ maxLen) (hv : val.size ≤ maxLen) (h : checkE ⟨k, key, val⟩ = 0) (h1 : 6 ≤ k) (h2 : k ≤ 8) (e1 : key.toList.isEmpty = false) (e2 : val.toList.isEmpty = true) (z1 : key.size ≤ 60) :
  Calls Tryz.prog 56 #[.agg #[.int .i64 k, .string key, .string val]] w fun e w' => e = .returned (.tuple #[.string (wordK k ++ (blank ++ key)), .int .i64 0]) ∧ Below w.heap.size w w' := by
 have HT := Lib.hid hT
 have hc := fun w hT => check_all ⟨k, key, val⟩ w hT hk hv
 rw [h] at hc
 have f1 := e1
 have f2 := e2
 simp only [List.isEmpty_iff, List.isEmpty_eq_false_iff] at f1 f2
 have z0 := wordK_size k
 clear hT h hk hv
 rcases mid3 h1 h2 with rfl | rfl | rfl
 all_goals
  have HC := Lib.hid hc
  clear hc
  go_enter Tryz.func56, Tryz.ntmps56
  go_wp2_with fail
  refine (HC.out _ (HT.out.alloc _)).mono ?_
  rintro e w1 ⟨rfl, hb1⟩
  have c0 := box_cell hb1 0
  have c1 := box_cell hb1 1
  have c2 := box_cell hb1 2
  have hb := below_of_alloc (Nat.le_refl _) hb1
  obtain ⟨-, -, -, -, -, t6, t7, t8, -⟩ := tabs_cells (HT.out.below hb)
  clear hb1
  go_wp2_with fail
  go_ret2
  exact ⟨rfl, hb⟩
set_option maxHeartbeats 4000000 in
theorem show_top (k : Int) (key val : ByteArray) (w : World) (hT : Tabs w) (hk : key.size ≤ maxLen) (hv : val.size ≤ maxLen) (h : checkE ⟨k, key, val⟩ = 0) (h1 : 9 ≤ k) (h2 : k ≤ 11) (e1 : key.toList.isEmpty = false) (e2 : val.toList.isEmpty = false) (z1 : key.size ≤ 60) (z2 : val.size ≤ 60) :
  Calls Tryz.prog 56 #[.agg #[.int .i64 k, .string key, .string val]] w fun e w' => e = .returned (.tuple #[.string (wordK k ++ (blank ++ key) ++ (blank ++ val)), .int .i64 0]) ∧ Below w.heap.size w w' := by
 have HT := Lib.hid hT
 have hc := fun w hT => check_all ⟨k, key, val⟩ w hT hk hv
 rw [h] at hc
 have f1 := e1
 have f2 := e2
 simp only [List.isEmpty_eq_false_iff] at f1 f2
 have z0 := wordK_size k
 clear hT h hk hv
 rcases top3 h1 h2 with rfl | rfl | rfl
 all_goals
  have HC := Lib.hid hc
  clear hc
  go_enter Tryz.func56, Tryz.ntmps56
  go_wp2_with fail
  refine (HC.out _ (HT.out.alloc _)).mono ?_
  rintro e w1 ⟨rfl, hb1⟩
  have c0 := box_cell hb1 0
  have c1 := box_cell hb1 1
  have c2 := box_cell hb1 2
  have hb := below_of_alloc (Nat.le_refl _) hb1
  obtain ⟨-, -, -, -, -, -, -, -, t9, t10, t11⟩ := tabs_cells (HT.out.below hb)
  clear hb1
  go_wp2_with fail
  go_ret2
  exact ⟨rfl, hb⟩
theorem show_any (s : St) (w : World) (hT : Tabs w) (hk : s.key.size ≤ maxLen) (hv : s.val.size ≤ maxLen) :
  Calls Tryz.prog 56 #[s.v] w fun e w' => e = .returned (.tuple #[.string (showS s), .int .i64 (checkE s)]) ∧ Below w.heap.size w w' := by
 obtain ⟨k, key, val⟩ := s
 unfold showS
 by_cases h : checkE ⟨k, key, val⟩ = 0
 ·rw [if_pos h, h]
  unfold textOf
  rcases valid_sorts h with ⟨h1, h2, e1, e2⟩ | ⟨h1, h2, e1, e2⟩ | ⟨h1, h2, e1, e2⟩
  ·rw [if_pos (by show k < 6; have : k ≤ 5 := h2; omega)]
   exact show_low k key val w hT hk hv h h1 h2 e1 e2
  ·rw [if_neg (by show ¬ k < 6; have : 6 ≤ k := h1; omega), if_pos (by show k < 9; have : k ≤ 8 := h2; omega)]
   exact show_mid k key val w hT hk hv h h1 h2 e1 e2 (valid_sizes h h1).1
  ·rw [if_neg (by show ¬ k < 6; have : 9 ≤ k := h1; omega), if_neg (by show ¬ k < 9; have : 9 ≤ k := h1; omega)]
   exact show_top k key val w hT hk hv h h1 h2 e1 e2 (valid_sizes h (Int.le_trans (by decide) h1)).1 ((valid_sizes h (Int.le_trans (by decide) h1)).2 h1)
 ·rw [if_neg h]
  exact show_bad k key val w hT hk hv h
end Go.Proofs.YtjbnfigpflambacGreatDoor
/- The keep package's picked: what it returns. -/
namespace Go.Proofs.YtjbnfigpflambacGreatDoor
open Go.ChangeShapes Go.WideShapes Go.ChangeAt Go.RowKit
def pick (n m : Int) : Int := (if n < 0 then -(n + 1) else n) % m
theorem pick_bd (n m : Int) (hm : 0 < m) : 0 ≤ pick n m ∧ pick n m < m := by
 unfold pick
 exact ⟨Int.emod_nonneg _ (by omega), Int.emod_lt_of_pos _ hm⟩
theorem neg_mod {n m : Int} (h : n < 0) : -(n + 1).tmod m = -(n + 1) % m := by
 rw [← Int.neg_tmod, Int.tmod_eq_emod_of_nonneg (by omega)]
theorem int_ret {a b : Int} (h : a = b) : Ending.returned (.int .i64 a) = .returned (.int .i64 b) := by rw [h]
theorem picked_any (n m : Int) (w : World) (hn : (Lit.int .i64 n).wf = true) (hm : 0 < m) (hm2 : m ≤ 9223372036854775807) :
  Calls Tryz.prog 19 #[.int .i64 n, .int .i64 m] w fun e w' => e = .returned (.int .i64 (pick n m)) ∧ w = w' := by
 obtain ⟨h1, h2⟩ := wf_i64 hn
 clear hn
 have hz : (m == 0) = false := by simp; omega
 unfold pick
 by_cases h : n < 0
 ·rw [if_pos h]
  go_enter Tryz.func19, Tryz.ntmps19
  go_wp2
  go_ret
  exact ⟨int_ret (neg_mod h), rfl⟩
 ·rw [if_neg h]
  go_enter Tryz.func19, Tryz.ntmps19
  go_wp2
  go_ret
  exact ⟨rfl, rfl⟩
theorem picked_is (n m r : Int) (w : World) (hn : (Lit.int .i64 n).wf = true) (hm : 0 < m) (hm2 : m ≤ 9223372036854775807) (hr : pick n m = r) :
  Calls Tryz.prog 19 #[.int .i64 n, .int .i64 m] w fun e w' => e = .returned (.int .i64 r) ∧ w = w' := by
 subst hr
 exact picked_any n m w hn hm hm2
end Go.Proofs.YtjbnfigpflambacGreatDoor
/- strconv.Itoa of 0 to 11. -/
namespace Go.Proofs.YtjbnfigpflambacGreatDoor
open Go.ChangeShapes Go.WideShapes Go.ChangeAt Go.RowKit
def numsL : List ByteArray := [⟨#[48]⟩, ⟨#[49]⟩, ⟨#[50]⟩, ⟨#[51]⟩, ⟨#[52]⟩, ⟨#[53]⟩, ⟨#[54]⟩, ⟨#[55]⟩, ⟨#[56]⟩, ⟨#[57]⟩, ⟨#[49, 48]⟩, ⟨#[49, 49]⟩]
def numT (n : Int) : ByteArray := numsL.getD n.toNat ByteArray.empty
theorem below12 {n : Int} (h0 : 0 ≤ n) (h1 : n < 12) : n = 0 ∨ n = 1 ∨ n = 2 ∨ n = 3 ∨ n = 4 ∨ n = 5 ∨ n = 6 ∨ n = 7 ∨ n = 8 ∨ n = 9 ∨ n = 10 ∨ n = 11 := by omega
theorem str_ret {a b : ByteArray} (h : a = b) : Ending.returned (.string a) = .returned (.string b) := by rw [h]
set_option maxRecDepth 100000 in
theorem small_any (n : Int) (h0 : 0 ≤ n) (h1 : n < 12) (w : World) :
  Calls Tryz.prog 111 #[.int .i64 n] w fun e w' => e = .returned (.string (numT n)) ∧ w = w' := by
 rcases below12 h0 h1 with rfl | rfl | rfl | rfl | rfl | rfl | rfl | rfl | rfl | rfl | rfl | rfl
 all_goals
  go_enter Tryz.func111, Tryz.ntmps111
  go_wp2
  go_ret
  exact ⟨str_ret (by decide +kernel), rfl⟩
theorem format_any (n : Int) (h0 : 0 ≤ n) (h1 : n < 12) (w : World) :
  Calls Tryz.prog 86 #[.int .i64 n, .int .i64 10] w fun e w' => e = .returned (.string (numT n)) ∧ w = w' := by
 have g1 : n < 100 := by omega
 go_enter Tryz.func86, Tryz.ntmps86
 go_wp2_with fail
 refine (small_any n h0 h1 _).mono ?_
 rintro e w1 ⟨rfl, rfl⟩
 go_wp2_with fail
 go_ret
 exact ⟨rfl, rfl⟩
theorem itoa_in (n : Int) (h0 : 0 ≤ n) (h1 : n < 12) (w : World) :
  Calls Tryz.prog 57 #[.int .i64 n] w fun e w' => e = .returned (.string (numT n)) ∧ w = w' := by
 go_enter Tryz.func57, Tryz.ntmps57
 go_wp2_with fail
 refine (format_any n h0 h1 _).mono ?_
 rintro e w1 ⟨rfl, rfl⟩
 go_wp2_with fail
 go_ret
 exact ⟨rfl, rfl⟩
theorem itoa_any (n : Int) (h0 : 0 ≤ n) (h1 : n < 12) (w : World) :
  Calls Tryz.prog 24 #[.int .i64 n] w fun e w' => e = .returned (.string (numT n)) ∧ w = w' := by
 go_enter Tryz.func24, Tryz.ntmps24
 go_wp2_with fail
 refine (itoa_in n h0 h1 _).mono ?_
 rintro e w1 ⟨rfl, rfl⟩
 go_wp2_with fail
 go_ret
 exact ⟨rfl, rfl⟩
end Go.Proofs.YtjbnfigpflambacGreatDoor
/- A raw thing's statement: what tillermankeep.Stmt returns. -/
namespace Go.Proofs.YtjbnfigpflambacGreatDoor
open Go.ChangeShapes Go.WideShapes Go.ChangeAt Go.RowKit
def keysL : List ByteArray := [⟨#[97]⟩, ⟨#[98]⟩, ⟨#[114, 111, 119]⟩, ⟨#[110, 97, 109, 101]⟩]
def keyT (i : Int) : ByteArray := keysL.getD i.toNat ByteArray.empty
def valT (i : Int) : ByteArray := (⟨#[118]⟩ : ByteArray) ++ numT i
def prepsL (v : ByteArray) : List ByteArray := [⟨#[103, 101, 116, 32, 97]⟩, ⟨#[114, 101, 97, 100, 32, 114, 111, 119]⟩, (⟨#[112, 117, 116, 32, 114, 111, 119, 32]⟩ : ByteArray) ++ v, ⟨#[112, 117, 116, 32, 98, 32, 120]⟩]
def prepT (i : Int) (v : ByteArray) : ByteArray := (prepsL v).getD i.toNat ByteArray.empty
def stAt (k a b c d : Int) : St :=
 if k < 3 then ⟨1, ⟨#[]⟩, ⟨#[]⟩⟩ else if k < 5 then ⟨2, ⟨#[]⟩, ⟨#[]⟩⟩ else if k = 5 then ⟨3, ⟨#[]⟩, ⟨#[]⟩⟩ else if k = 6 then ⟨if c = 0 then 4 else 5, ⟨#[]⟩, ⟨#[]⟩⟩
 else if k < 10 then ⟨6, keyT a, ⟨#[]⟩⟩ else if k < 13 then ⟨7, keyT a, ⟨#[]⟩⟩ else if k < 15 then ⟨8, keyT a, ⟨#[]⟩⟩
 else if k < 18 then ⟨9, keyT a, valT b⟩ else if k < 22 then ⟨10, keyT a, valT b⟩ else ⟨11, keyT a, prepT d (valT b)⟩
def rawS (k a b c : Int) : St := stAt (pick k 24) (pick a 4) (pick b 12) (pick c 3) (pick c 4)
theorem below3 {n : Int} (h0 : 0 ≤ n) (h1 : n < 3) : n = 0 ∨ n = 1 ∨ n = 2 := by omega
theorem below4 {n : Int} (h0 : 0 ≤ n) (h1 : n < 4) : n = 0 ∨ n = 1 ∨ n = 2 ∨ n = 3 := by omega
structure RH (w0 : World) (k a b c : Int) (w : World) : Prop where
 bel : Below w0.heap.size w0 w
 raw : Blk w w0.heap.size 44 #[.int .i64 k, .int .i64 a, .int .i64 b, .int .i64 c]
 res : Blk w (w0.heap.size + 1) 41 #[.int .i64 0, .string ⟨#[]⟩, .string ⟨#[]⟩]
theorem RH.start (w : World) (k a b c : Int) : RH w k a b c ((w.alloc (.cells #[.int .i64 k, .int .i64 a, .int .i64 b, .int .i64 c] 44 (0, 0))).alloc (.cells #[.int .i64 0, .string ⟨#[]⟩, .string ⟨#[]⟩] 41 (0, 0))) := by
 refine ⟨boxed2 w _ _, (Blk.new w _ _).alloc _, ?_⟩
 have h := Blk.new (w.alloc (.cells #[.int .i64 k, .int .i64 a, .int .i64 b, .int .i64 c] 44 (0, 0))) 41 #[.int .i64 0, .string ⟨#[]⟩, .string ⟨#[]⟩]
 have e : ∀ o : Obj, (w.alloc o).heap.size = w.heap.size + 1 := fun o => by simp
 rw [e] at h
 exact h
theorem RH.alloc {w0 w : World} {k a b c : Int} (h : RH w0 k a b c w) (o : Obj) : RH w0 k a b c (w.alloc o) :=
 ⟨h.bel.alloc h.bel.size o, h.raw.alloc o, h.res.alloc o⟩
theorem str_k {s t : ByteArray} (h : s = t) : Value.string s = .string t := by rw [h]
theorem st_cases (K I V C D : Int) : (K < 3 ∧ stAt K I V C D = ⟨1, ⟨#[]⟩, ⟨#[]⟩⟩) ∨ (3 ≤ K ∧ K < 5 ∧ stAt K I V C D = ⟨2, ⟨#[]⟩, ⟨#[]⟩⟩) ∨ (K = 5 ∧ stAt K I V C D = ⟨3, ⟨#[]⟩, ⟨#[]⟩⟩) ∨ (K = 6 ∧ stAt K I V C D = ⟨if C = 0 then 4 else 5, ⟨#[]⟩, ⟨#[]⟩⟩) ∨ (7 ≤ K ∧ K < 10 ∧ stAt K I V C D = ⟨6, keyT I, ⟨#[]⟩⟩) ∨ (10 ≤ K ∧ K < 13 ∧ stAt K I V C D = ⟨7, keyT I, ⟨#[]⟩⟩) ∨ (13 ≤ K ∧ K < 15 ∧ stAt K I V C D = ⟨8, keyT I, ⟨#[]⟩⟩) ∨ (15 ≤ K ∧ K < 18 ∧ stAt K I V C D = ⟨9, keyT I, valT V⟩) ∨ (18 ≤ K ∧ K < 22 ∧ stAt K I V C D = ⟨10, keyT I, valT V⟩) ∨ (22 ≤ K ∧ stAt K I V C D = ⟨11, keyT I, prepT D (valT V)⟩) := by
 unfold stAt
 by_cases h0 : K < 3
 ·exact .inl ⟨by omega, by rw [if_pos h0]⟩
 by_cases h1 : K < 5
 ·exact .inr (.inl ⟨by omega, by omega, by rw [if_neg h0, if_pos h1]⟩)
 by_cases h2 : K = 5
 ·exact .inr (.inr (.inl ⟨by omega, by rw [if_neg h0, if_neg h1, if_pos h2]⟩))
 by_cases h3 : K = 6
 ·exact .inr (.inr (.inr (.inl ⟨by omega, by rw [if_neg h0, if_neg h1, if_neg h2, if_pos h3]⟩)))
 by_cases h4 : K < 10
 ·exact .inr (.inr (.inr (.inr (.inl ⟨by omega, by omega, by rw [if_neg h0, if_neg h1, if_neg h2, if_neg h3, if_pos h4]⟩))))
 by_cases h5 : K < 13
 ·exact .inr (.inr (.inr (.inr (.inr (.inl ⟨by omega, by omega, by rw [if_neg h0, if_neg h1, if_neg h2, if_neg h3, if_neg h4, if_pos h5]⟩)))))
 by_cases h6 : K < 15
 ·exact .inr (.inr (.inr (.inr (.inr (.inr (.inl ⟨by omega, by omega, by rw [if_neg h0, if_neg h1, if_neg h2, if_neg h3, if_neg h4, if_neg h5, if_pos h6]⟩))))))
 by_cases h7 : K < 18
 ·exact .inr (.inr (.inr (.inr (.inr (.inr (.inr (.inl ⟨by omega, by omega, by rw [if_neg h0, if_neg h1, if_neg h2, if_neg h3, if_neg h4, if_neg h5, if_neg h6, if_pos h7]⟩)))))))
 by_cases h8 : K < 22
 ·exact .inr (.inr (.inr (.inr (.inr (.inr (.inr (.inr (.inl ⟨by omega, by omega, by rw [if_neg h0, if_neg h1, if_neg h2, if_neg h3, if_neg h4, if_neg h5, if_neg h6, if_neg h7, if_pos h8]⟩))))))))
 exact .inr (.inr (.inr (.inr (.inr (.inr (.inr (.inr (.inr (⟨by omega, by rw [if_neg h0, if_neg h1, if_neg h2, if_neg h3, if_neg h4, if_neg h5, if_neg h6, if_neg h7, if_neg h8]⟩)))))))))
set_option maxHeartbeats 2000000 in
theorem stmt_any (k a b c : Int) (hk : (Lit.int .i64 k).wf = true) (ha : (Lit.int .i64 a).wf = true) (hb : (Lit.int .i64 b).wf = true) (hc : (Lit.int .i64 c).wf = true) (w : World) :
  Calls Tryz.prog 16 #[.agg #[.int .i64 k, .int .i64 a, .int .i64 b, .int .i64 c]] w fun e w' => e = .returned (rawS k a b c).v ∧ Below w.heap.size w w' := by
 unfold rawS
 obtain ⟨k0, k1⟩ := pick_bd k 24 (by decide)
 obtain ⟨a0, a1⟩ := pick_bd a 4 (by decide)
 obtain ⟨b0, b1⟩ := pick_bd b 12 (by decide)
 obtain ⟨c0, c1⟩ := pick_bd c 3 (by decide)
 obtain ⟨d0, d1⟩ := pick_bd c 4 (by decide)
 obtain ⟨K, hK⟩ : ∃ K, pick k 24 = K := ⟨_, rfl⟩
 obtain ⟨I, hI⟩ : ∃ I, pick a 4 = I := ⟨_, rfl⟩
 obtain ⟨V, hV⟩ : ∃ V, pick b 12 = V := ⟨_, rfl⟩
 obtain ⟨C, hC⟩ : ∃ C, pick c 3 = C := ⟨_, rfl⟩
 obtain ⟨D, hD⟩ : ∃ D, pick c 4 = D := ⟨_, rfl⟩
 rw [hK] at k0 k1 ⊢
 rw [hI] at a0 a1 ⊢
 rw [hV] at b0 b1 ⊢
 rw [hC] at c0 c1 ⊢
 rw [hD] at d0 d1 ⊢
 have PK : ∀ w : World, _ := fun w => picked_is k 24 K w hk (by decide) (by decide) hK
 have PA : ∀ w : World, _ := fun w => picked_is a 4 I w ha (by decide) (by decide) hI
 have PB : ∀ w : World, _ := fun w => picked_is b 12 V w hb (by decide) (by decide) hV
 have PC : ∀ w : World, _ := fun w => picked_is c 3 C w hc (by decide) (by decide) hC
 have PD : ∀ w : World, _ := fun w => picked_is c 4 D w hc (by decide) (by decide) hD
 have PI : ∀ w : World, _ := fun w => itoa_any V b0 b1 w
 have XK := Lib.hid PK
 have XA := Lib.hid PA
 have XB := Lib.hid PB
 have XC := Lib.hid PC
 have XD := Lib.hid PD
 have XI := Lib.hid PI
 clear hk ha hb hc hK hI hV hC hD PK PA PB PC PD PI
 go_enter Tryz.func16, Tryz.ntmps16
 go_upto_region 1 with fail
 go_cut [3] (fun v wx => v = .string (keyT I) ∧ RH w k a b c wx)
 case first =>
  have hz1 : ∀ o : Obj, (w.alloc o).heap.size = w.heap.size + 1 := fun o => by simp
  rcases below4 a0 a1 with rfl | rfl | rfl | rfl
  all_goals
   go_wp2_with fail
   refine (XA.out _).mono ?_
   rintro e w1 ⟨rfl, rfl⟩
   go_wp2_with fail
   go_meet
   exact ⟨str_k (by decide +kernel), (RH.start w k a b c).alloc _⟩
 case rest =>
  obtain ⟨rfl, hr⟩ := hcut
  have r0 := hr.raw.cell_ 0 _ rfl
  have r1 := hr.raw.cell_ 1 _ rfl
  have r2 := hr.raw.cell_ 2 _ rfl
  have r3 := hr.raw.cell_ 3 _ rfl
  have s0 := hr.res.cell_ 0 _ rfl
  have s1 := hr.res.cell_ 1 _ rfl
  have s2 := hr.res.cell_ 2 _ rfl
  have fs := hr.res.frozen
  have lr := hr.raw.lt
  have ls := hr.res.lt
  have nr : w.heap.size ≠ wc.heap.size := Nat.ne_of_lt lr
  have nr' : wc.heap.size ≠ w.heap.size := Ne.symm nr
  have ns : w.heap.size + 1 ≠ wc.heap.size := Nat.ne_of_lt ls
  have ns' : wc.heap.size ≠ w.heap.size + 1 := Ne.symm ns
  have HR := Lib.hid hr
  clear hr
  have hlk : (keyT I).size ≤ 4 := by
   rcases below4 a0 a1 with rfl | rfl | rfl | rfl <;> decide +kernel
  have hln : (numT V).size ≤ 2 := by
   rcases below12 b0 b1 with rfl | rfl | rfl | rfl | rfl | rfl | rfl | rfl | rfl | rfl | rfl | rfl <;> decide +kernel
  go_wp2_with fail
  refine (XB.out _).mono ?_
  rintro e w1 ⟨rfl, rfl⟩
  go_wp2_with fail
  refine (XI.out _).mono ?_
  rintro e w1 ⟨rfl, rfl⟩
  go_wp2_with fail
  refine (XK.out _).mono ?_
  rintro e w1 ⟨rfl, rfl⟩
  rcases st_cases K I V C D with ⟨h1, e⟩ | ⟨h1, h2, e⟩ | ⟨rfl, e⟩ | ⟨rfl, e⟩ | ⟨h1, h2, e⟩ | ⟨h1, h2, e⟩ | ⟨h1, h2, e⟩ | ⟨h1, h2, e⟩ | ⟨h1, h2, e⟩ | ⟨h1, e⟩
  ·have b5 : (K == 5) = false := by simp; omega
   have b6 : (K == 6) = false := by simp; omega
   go_wp2_with fail
   refine bodyPost_ret (v := St.v ⟨1, ⟨#[]⟩, ⟨#[]⟩⟩) ?_ rfl ⟨by rw [e], ?_⟩
   ·simp [results, Tryz.results16, go_sem, St.v, s0, s1, s2]
   ·exact ((HR.out.bel.setCell (Nat.le_succ _) _).setCell (Nat.le_succ _) _).setCell (Nat.le_succ _) _
  ·have b5 : (K == 5) = false := by simp; omega
   have b6 : (K == 6) = false := by simp; omega
   go_wp2_with fail
   refine bodyPost_ret (v := St.v ⟨2, ⟨#[]⟩, ⟨#[]⟩⟩) ?_ rfl ⟨by rw [e], ?_⟩
   ·simp [results, Tryz.results16, go_sem, St.v, s0, s1, s2]
   ·exact ((HR.out.bel.setCell (Nat.le_succ _) _).setCell (Nat.le_succ _) _).setCell (Nat.le_succ _) _
  ·go_wp2_with fail
   refine bodyPost_ret (v := St.v ⟨3, ⟨#[]⟩, ⟨#[]⟩⟩) ?_ rfl ⟨by rw [e], ?_⟩
   ·simp [results, Tryz.results16, go_sem, St.v, s0, s1, s2]
   ·exact ((HR.out.bel.setCell (Nat.le_succ _) _).setCell (Nat.le_succ _) _).setCell (Nat.le_succ _) _
  ·rcases below3 c0 c1 with rfl | rfl | rfl
   ·go_wp2_with fail
    refine (XC.out _).mono ?_
    rintro e' w1 ⟨rfl, rfl⟩
    go_wp2_with fail
    have B := (((HR.out.res.set_ 0 (.int .i64 4)).set_ 1 (.string ⟨#[]⟩)).set_ 2 (.string ⟨#[]⟩)).alloc (.cells #[.int .i64 4, .int .i64 5, .int .i64 5] 3 (0, 0))
    have t0 := B.cell_ 0 _ rfl
    have t1 := B.cell_ 1 _ rfl
    have t2 := B.cell_ 2 _ rfl
    refine bodyPost_ret (v := St.v ⟨4, ⟨#[]⟩, ⟨#[]⟩⟩) ?_ rfl ⟨by rw [e]; rfl, ?_⟩
    ·simp [results, Tryz.results16, go_sem, St.v, t0, t1, t2]
    ·exact (((HR.out.bel.setCell (Nat.le_succ _) _).setCell (Nat.le_succ _) _).setCell (Nat.le_succ _) _).alloc (by have := lr; simp; omega) _
   ·go_wp2_with fail
    refine (XC.out _).mono ?_
    rintro e' w1 ⟨rfl, rfl⟩
    go_wp2_with fail
    have B := (((HR.out.res.set_ 0 (.int .i64 5)).set_ 1 (.string ⟨#[]⟩)).set_ 2 (.string ⟨#[]⟩)).alloc (.cells #[.int .i64 4, .int .i64 5, .int .i64 5] 3 (0, 0))
    have t0 := B.cell_ 0 _ rfl
    have t1 := B.cell_ 1 _ rfl
    have t2 := B.cell_ 2 _ rfl
    refine bodyPost_ret (v := St.v ⟨5, ⟨#[]⟩, ⟨#[]⟩⟩) ?_ rfl ⟨by rw [e]; rfl, ?_⟩
    ·simp [results, Tryz.results16, go_sem, St.v, t0, t1, t2]
    ·exact (((HR.out.bel.setCell (Nat.le_succ _) _).setCell (Nat.le_succ _) _).setCell (Nat.le_succ _) _).alloc (by have := lr; simp; omega) _
   ·go_wp2_with fail
    refine (XC.out _).mono ?_
    rintro e' w1 ⟨rfl, rfl⟩
    go_wp2_with fail
    have B := (((HR.out.res.set_ 0 (.int .i64 5)).set_ 1 (.string ⟨#[]⟩)).set_ 2 (.string ⟨#[]⟩)).alloc (.cells #[.int .i64 4, .int .i64 5, .int .i64 5] 3 (0, 0))
    have t0 := B.cell_ 0 _ rfl
    have t1 := B.cell_ 1 _ rfl
    have t2 := B.cell_ 2 _ rfl
    refine bodyPost_ret (v := St.v ⟨5, ⟨#[]⟩, ⟨#[]⟩⟩) ?_ rfl ⟨by rw [e]; rfl, ?_⟩
    ·simp [results, Tryz.results16, go_sem, St.v, t0, t1, t2]
    ·exact (((HR.out.bel.setCell (Nat.le_succ _) _).setCell (Nat.le_succ _) _).setCell (Nat.le_succ _) _).alloc (by have := lr; simp; omega) _
  ·have b5 : (K == 5) = false := by simp; omega
   have b6 : (K == 6) = false := by simp; omega
   go_wp2_with fail
   refine bodyPost_ret (v := St.v ⟨6, keyT I, ⟨#[]⟩⟩) ?_ rfl ⟨by rw [e], ?_⟩
   ·simp [results, Tryz.results16, go_sem, St.v, s0, s1, s2]
   ·exact ((HR.out.bel.setCell (Nat.le_succ _) _).setCell (Nat.le_succ _) _).setCell (Nat.le_succ _) _
  ·have b5 : (K == 5) = false := by simp; omega
   have b6 : (K == 6) = false := by simp; omega
   go_wp2_with fail
   refine bodyPost_ret (v := St.v ⟨7, keyT I, ⟨#[]⟩⟩) ?_ rfl ⟨by rw [e], ?_⟩
   ·simp [results, Tryz.results16, go_sem, St.v, s0, s1, s2]
   ·exact ((HR.out.bel.setCell (Nat.le_succ _) _).setCell (Nat.le_succ _) _).setCell (Nat.le_succ _) _
  ·have b5 : (K == 5) = false := by simp; omega
   have b6 : (K == 6) = false := by simp; omega
   go_wp2_with fail
   refine bodyPost_ret (v := St.v ⟨8, keyT I, ⟨#[]⟩⟩) ?_ rfl ⟨by rw [e], ?_⟩
   ·simp [results, Tryz.results16, go_sem, St.v, s0, s1, s2]
   ·exact ((HR.out.bel.setCell (Nat.le_succ _) _).setCell (Nat.le_succ _) _).setCell (Nat.le_succ _) _
  ·have b5 : (K == 5) = false := by simp; omega
   have b6 : (K == 6) = false := by simp; omega
   go_wp2_with fail
   refine bodyPost_ret (v := St.v ⟨9, keyT I, valT V⟩) ?_ rfl ⟨by rw [e], ?_⟩
   ·simp [results, Tryz.results16, go_sem, St.v, s0, s1, s2, valT]
   ·exact ((HR.out.bel.setCell (Nat.le_succ _) _).setCell (Nat.le_succ _) _).setCell (Nat.le_succ _) _
  ·have b5 : (K == 5) = false := by simp; omega
   have b6 : (K == 6) = false := by simp; omega
   go_wp2_with fail
   refine bodyPost_ret (v := St.v ⟨10, keyT I, valT V⟩) ?_ rfl ⟨by rw [e], ?_⟩
   ·simp [results, Tryz.results16, go_sem, St.v, s0, s1, s2, valT]
   ·exact ((HR.out.bel.setCell (Nat.le_succ _) _).setCell (Nat.le_succ _) _).setCell (Nat.le_succ _) _
  ·have b5 : (K == 5) = false := by simp; omega
   have b6 : (K == 6) = false := by simp; omega
   rcases below4 d0 d1 with rfl | rfl | rfl | rfl
   ·go_wp2_with fail
    refine (XD.out _).mono ?_
    rintro e' w1 ⟨rfl, rfl⟩
    go_wp2_with fail
    have B := (((HR.out.res.set_ 0 (.int .i64 11)).set_ 1 (.string (keyT I))).set_ 2 (.string ⟨#[103, 101, 116, 32, 97]⟩)).alloc (.cells #[.string ⟨#[103, 101, 116, 32, 97]⟩, .string ⟨#[114, 101, 97, 100, 32, 114, 111, 119]⟩, .string ((⟨#[112, 117, 116, 32, 114, 111, 119, 32]⟩ : ByteArray) ++ ((⟨#[118]⟩ : ByteArray) ++ numT V)), .string ⟨#[112, 117, 116, 32, 98, 32, 120]⟩] 9 (0, 0))
    have t0 := B.cell_ 0 _ rfl
    have t1 := B.cell_ 1 _ rfl
    have t2 := B.cell_ 2 _ rfl
    refine bodyPost_ret (v := St.v ⟨11, keyT I, ⟨#[103, 101, 116, 32, 97]⟩⟩) ?_ rfl ⟨by rw [e]; rfl, ?_⟩
    ·simp [results, Tryz.results16, go_sem, St.v, t0, t1, t2]
    ·exact (((HR.out.bel.setCell (Nat.le_succ _) _).setCell (Nat.le_succ _) _).setCell (Nat.le_succ _) _).alloc (by have := lr; simp; omega) _
   ·go_wp2_with fail
    refine (XD.out _).mono ?_
    rintro e' w1 ⟨rfl, rfl⟩
    go_wp2_with fail
    have B := (((HR.out.res.set_ 0 (.int .i64 11)).set_ 1 (.string (keyT I))).set_ 2 (.string ⟨#[114, 101, 97, 100, 32, 114, 111, 119]⟩)).alloc (.cells #[.string ⟨#[103, 101, 116, 32, 97]⟩, .string ⟨#[114, 101, 97, 100, 32, 114, 111, 119]⟩, .string ((⟨#[112, 117, 116, 32, 114, 111, 119, 32]⟩ : ByteArray) ++ ((⟨#[118]⟩ : ByteArray) ++ numT V)), .string ⟨#[112, 117, 116, 32, 98, 32, 120]⟩] 9 (0, 0))
    have t0 := B.cell_ 0 _ rfl
    have t1 := B.cell_ 1 _ rfl
    have t2 := B.cell_ 2 _ rfl
    refine bodyPost_ret (v := St.v ⟨11, keyT I, ⟨#[114, 101, 97, 100, 32, 114, 111, 119]⟩⟩) ?_ rfl ⟨by rw [e]; rfl, ?_⟩
    ·simp [results, Tryz.results16, go_sem, St.v, t0, t1, t2]
    ·exact (((HR.out.bel.setCell (Nat.le_succ _) _).setCell (Nat.le_succ _) _).setCell (Nat.le_succ _) _).alloc (by have := lr; simp; omega) _
   ·go_wp2_with fail
    refine (XD.out _).mono ?_
    rintro e' w1 ⟨rfl, rfl⟩
    go_wp2_with fail
    have B := (((HR.out.res.set_ 0 (.int .i64 11)).set_ 1 (.string (keyT I))).set_ 2 (.string ((⟨#[112, 117, 116, 32, 114, 111, 119, 32]⟩ : ByteArray) ++ ((⟨#[118]⟩ : ByteArray) ++ numT V)))).alloc (.cells #[.string ⟨#[103, 101, 116, 32, 97]⟩, .string ⟨#[114, 101, 97, 100, 32, 114, 111, 119]⟩, .string ((⟨#[112, 117, 116, 32, 114, 111, 119, 32]⟩ : ByteArray) ++ ((⟨#[118]⟩ : ByteArray) ++ numT V)), .string ⟨#[112, 117, 116, 32, 98, 32, 120]⟩] 9 (0, 0))
    have t0 := B.cell_ 0 _ rfl
    have t1 := B.cell_ 1 _ rfl
    have t2 := B.cell_ 2 _ rfl
    refine bodyPost_ret (v := St.v ⟨11, keyT I, ((⟨#[112, 117, 116, 32, 114, 111, 119, 32]⟩ : ByteArray) ++ ((⟨#[118]⟩ : ByteArray) ++ numT V))⟩) ?_ rfl ⟨by rw [e]; rfl, ?_⟩
    ·simp [results, Tryz.results16, go_sem, St.v, t0, t1, t2]
    ·exact (((HR.out.bel.setCell (Nat.le_succ _) _).setCell (Nat.le_succ _) _).setCell (Nat.le_succ _) _).alloc (by have := lr; simp; omega) _
   ·go_wp2_with fail
    refine (XD.out _).mono ?_
    rintro e' w1 ⟨rfl, rfl⟩
    go_wp2_with fail
    have B := (((HR.out.res.set_ 0 (.int .i64 11)).set_ 1 (.string (keyT I))).set_ 2 (.string ⟨#[112, 117, 116, 32, 98, 32, 120]⟩)).alloc (.cells #[.string ⟨#[103, 101, 116, 32, 97]⟩, .string ⟨#[114, 101, 97, 100, 32, 114, 111, 119]⟩, .string ((⟨#[112, 117, 116, 32, 114, 111, 119, 32]⟩ : ByteArray) ++ ((⟨#[118]⟩ : ByteArray) ++ numT V)), .string ⟨#[112, 117, 116, 32, 98, 32, 120]⟩] 9 (0, 0))
    have t0 := B.cell_ 0 _ rfl
    have t1 := B.cell_ 1 _ rfl
    have t2 := B.cell_ 2 _ rfl
    refine bodyPost_ret (v := St.v ⟨11, keyT I, ⟨#[112, 117, 116, 32, 98, 32, 120]⟩⟩) ?_ rfl ⟨by rw [e]; rfl, ?_⟩
    ·simp [results, Tryz.results16, go_sem, St.v, t0, t1, t2]
    ·exact (((HR.out.bel.setCell (Nat.le_succ _) _).setCell (Nat.le_succ _) _).setCell (Nat.le_succ _) _).alloc (by have := lr; simp; omega) _
end Go.Proofs.YtjbnfigpflambacGreatDoor
/- Plain laws of the texts of statements: text that was read is the text of the statement; the statements of raw things are valid and read back. The walk of StmtsBack. -/
namespace Go.Proofs.YtjbnfigpflambacGreatDoor
open Go.ChangeShapes Go.WideShapes Go.ChangeAt Go.RowKit
def okB (s : St) : Bool := decide (checkE s = 0) && decide (readE (textOf s) = 0) && decide ((readS (textOf s)).k = s.k) && decide ((readS (textOf s)).key = s.key) && decide ((readS (textOf s)).val = s.val)
theorem ok_of {s : St} (h : okB s = true) : checkE s = 0 ∧ readE (textOf s) = 0 ∧ readS (textOf s) = s := by
 unfold okB at h
 simp only [Bool.and_eq_true, decide_eq_true_eq] at h
 obtain ⟨⟨⟨⟨h1, h2⟩, h3⟩, h4⟩, h5⟩ := h
 refine ⟨h1, h2, ?_⟩
 obtain ⟨k, key, val⟩ := s
 generalize readS (textOf ⟨k, key, val⟩) = r at h3 h4 h5
 obtain ⟨k', key', val'⟩ := r
 simp only at h3 h4 h5
 rw [h3, h4, h5]
def fourR : List Int := [0, 1, 2, 3]
def twelveR : List Int := [0, 1, 2, 3, 4, 5, 6, 7, 8, 9, 10, 11]
theorem in4 {n : Int} (h0 : 0 ≤ n) (h1 : n < 4) : n ∈ fourR := by
 rcases below4 h0 h1 with rfl | rfl | rfl | rfl <;> simp [fourR]
theorem in12 {n : Int} (h0 : 0 ≤ n) (h1 : n < 12) : n ∈ twelveR := by
 rcases below12 h0 h1 with rfl | rfl | rfl | rfl | rfl | rfl | rfl | rfl | rfl | rfl | rfl | rfl <;> simp [twelveR]
theorem ok_low : [1, 2, 3, 4, 5].all (fun k => okB ⟨k, ⟨#[]⟩, ⟨#[]⟩⟩) = true := by decide +kernel
theorem ok_mid : [6, 7, 8].all (fun k => fourR.all fun a => okB ⟨k, keyT a, ⟨#[]⟩⟩) = true := by decide +kernel
theorem ok_top : [9, 10].all (fun k => fourR.all fun a => twelveR.all fun b => okB ⟨k, keyT a, valT b⟩) = true := by decide +kernel
theorem ok_prep : fourR.all (fun a => twelveR.all fun b => fourR.all fun d => okB ⟨11, keyT a, prepT d (valT b)⟩) = true := by decide +kernel
theorem ok_raw (K I V C D : Int) (_k0 : 0 ≤ K) (_k1 : K < 24) (a0 : 0 ≤ I) (a1 : I < 4) (b0 : 0 ≤ V) (b1 : V < 12) (d0 : 0 ≤ D) (d1 : D < 4) : okB (stAt K I V C D) = true := by
 have mI := in4 a0 a1
 have mV := in12 b0 b1
 have mD := in4 d0 d1
 have low : ∀ k ∈ [(1 : Int), 2, 3, 4, 5], okB ⟨k, ⟨#[]⟩, ⟨#[]⟩⟩ = true := List.all_eq_true.1 ok_low
 have mid : ∀ k ∈ [(6 : Int), 7, 8], okB ⟨k, keyT I, ⟨#[]⟩⟩ = true := fun k hk => List.all_eq_true.1 (List.all_eq_true.1 ok_mid k hk) I mI
 have top : ∀ k ∈ [(9 : Int), 10], okB ⟨k, keyT I, valT V⟩ = true := fun k hk => List.all_eq_true.1 (List.all_eq_true.1 (List.all_eq_true.1 ok_top k hk) I mI) V mV
 have prep : okB ⟨11, keyT I, prepT D (valT V)⟩ = true := List.all_eq_true.1 (List.all_eq_true.1 (List.all_eq_true.1 ok_prep I mI) V mV) D mD
 rcases st_cases K I V C D with ⟨-, e⟩ | ⟨-, -, e⟩ | ⟨-, e⟩ | ⟨-, e⟩ | ⟨-, -, e⟩ | ⟨-, -, e⟩ | ⟨-, -, e⟩ | ⟨-, -, e⟩ | ⟨-, -, e⟩ | ⟨-, e⟩
 all_goals rw [e]
 ·exact low 1 (by simp)
 ·exact low 2 (by simp)
 ·exact low 3 (by simp)
 ·split
  ·exact low 4 (by simp)
  ·exact low 5 (by simp)
 ·exact mid 6 (by simp)
 ·exact mid 7 (by simp)
 ·exact mid 8 (by simp)
 ·exact top 9 (by simp)
 ·exact top 10 (by simp)
 ·exact prep
theorem raw_ok (k a b c : Int) : checkE (rawS k a b c) = 0 ∧ readE (textOf (rawS k a b c)) = 0 ∧ readS (textOf (rawS k a b c)) = rawS k a b c :=
 ok_of (ok_raw _ _ _ _ _ (pick_bd k 24 (by decide)).1 (pick_bd k 24 (by decide)).2 (pick_bd a 4 (by decide)).1 (pick_bd a 4 (by decide)).2 (pick_bd b 12 (by decide)).1 (pick_bd b 12 (by decide)).2 (pick_bd c 4 (by decide)).1 (pick_bd c 4 (by decide)).2)
theorem raw_size (k a b c : Int) : (rawS k a b c).key.size ≤ 60 ∧ (rawS k a b c).val.size ≤ 60 := by
 have h := (raw_ok k a b c).1
 have hv := valid_sorts h
 have hz := valid_sizes h
 have he : ∀ x : ByteArray, x.toList.isEmpty = true → x.size ≤ 60 := fun x hx => by
  have := size_of_nil (by simpa using hx)
  omega
 rcases hv with ⟨-, -, e1, e2⟩ | ⟨h1, -, -, e2⟩ | ⟨h1, -⟩
 ·exact ⟨he _ e1, he _ e2⟩
 ·exact ⟨(hz h1).1, he _ e2⟩
 ·exact ⟨(hz (by omega)).1, (hz (by omega)).2 h1⟩
end Go.Proofs.YtjbnfigpflambacGreatDoor
