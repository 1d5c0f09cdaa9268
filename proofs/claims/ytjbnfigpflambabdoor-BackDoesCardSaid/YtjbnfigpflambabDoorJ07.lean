/- slices.Insert at pairs, into a slice of the call's own; back.with: pairs with one more, in memory of its own. back.with: pairs with one more, in memory of its own. The reference's In: is a number from low to high?. -/
import Derived.Test.YtjbnfigpflambabDoorJ00
import Derived.Test.YtjbnfigpflambabDoorJ04
import Derived.Test.YtjbnfigpflambabDoorJ06
import Derived.Laws.Externs
/- slices.Insert at pairs, into a slice of the call's own; back.with: pairs with one more, in memory of its own. -/
namespace Go.Proofs.YtjbnfigpflambabDoor
open Go.ChangeShapes Go.WideShapes Go.ChangeAt Go.RowKit
theorem cellsP_append (l m : List Pr) : cellsP (l ++ m) = cellsP l ++ cellsP m := by unfold cellsP; rw [List.flatMap_append]
theorem cellsP_take (l : List Pr) (i : Nat) : (cellsP l).take (i * 2) = cellsP (l.take i) := by
 induction l generalizing i with
 | nil => simp [cellsP]
 | cons p l ih =>
  have e : cellsP (p :: l) = .string p.k :: .string p.v :: cellsP l := rfl
  rcases i with _ | i
  ·rfl
  ·have e1 : (i + 1) * 2 = i * 2 + 2 := by omega
   rw [e, e1, List.take_succ_cons, List.take_succ_cons, ih i]
   rfl
theorem cellsP_drop (l : List Pr) (i : Nat) : (cellsP l).drop (i * 2) = cellsP (l.drop i) := by
 induction l generalizing i with
 | nil => simp [cellsP]
 | cons p l ih =>
  have e : cellsP (p :: l) = .string p.k :: .string p.v :: cellsP l := rfl
  rcases i with _ | i
  ·rfl
  ·have e1 : (i + 1) * 2 = i * 2 + 2 := by omega
   rw [e, e1, List.drop_succ_cons, List.drop_succ_cons, ih i]
   rfl
/-- pairs with one more at a place -/
def insP (l : List Pr) (i : Nat) (p : Pr) : List Pr := l.take i ++ p :: l.drop i
theorem insP_length (l : List Pr) (i : Nat) (p : Pr) (h : i ≤ l.length) : (insP l i p).length = l.length + 1 := by
 unfold insP
 rw [List.length_append, List.length_take, List.length_cons, List.length_drop]
 omega
theorem insP_cells (l : List Pr) (i : Nat) (p : Pr) : cellsP (insP l i p) = (cellsP l).take (i * 2) ++ [.string p.k, .string p.v] ++ (cellsP l).drop (i * 2) := by
 rw [cellsP_take, cellsP_drop]
 unfold insP
 rw [cellsP_append]
 have e : cellsP (p :: l.drop i) = [.string p.k, .string p.v] ++ cellsP (l.drop i) := rfl
 rw [e, List.append_assoc]
theorem insP_fits {l : List Pr} {i : Nat} {p : Pr} (h : Fits l) (hl : l.length < 4398046510976) (hp : p.k.size ≤ maxLen ∧ p.v.size ≤ maxLen) (hi : i ≤ l.length) : Fits (insP l i p) := by
 refine ⟨by rw [insP_length l i p hi]; omega, fun q hq => ?_⟩
 unfold insP at hq
 rcases List.mem_append.1 hq with hq | hq
 ·exact h.2 q (List.mem_of_mem_take hq)
 ·rcases List.mem_cons.1 hq with rfl | hq
  ·exact hp
  ·exact h.2 q (List.mem_of_mem_drop hq)
/-- a row with its first cells known -/
theorem own_of_row {w : World} {B g n cap : Nat} {cur : Array Value} {xs : List Value} (hB : B ≤ g) (hg : w.heap[g]? = some (.cells cur 66 (0, 0))) (hn : n ≤ cap) (hc : cap ≤ maxLen) (hs : cur.size = cap * 2) (hx : cur.toList.take (n * 2) = xs) (hl : xs.length = n * 2) :
  w.ownsRow B 66 2 (.slice (some ⟨g, 0, none⟩) n cap) n xs := ⟨hl, .inr ⟨g, cap, cur, rfl, hB, hg, hn, hc, hs, hx⟩⟩
theorem rd_row {w : World} {g : Nat} {cur : Array Value} {t : TypeId} (hg : w.heap[g]? = some (.cells cur t (0, 0))) (o : Nat) (cs : List Value) (h : ∀ j v, cs[j]? = some v → cur[o + j]? = some v) : ∀ j v, cs[j]? = some v → w.cell? ((⟨g, o, none⟩ : Addr).add j) = some v := by
 intro j v hv
 have e : (⟨g, o, none⟩ : Addr).add j = ⟨g, o + j, none⟩ := by unfold Addr.add; split <;> simp_all
 rw [e]
 exact (cell_of_row w g (o + j) cur t (0, 0) hg).trans (h j v hv)
theorem pair_size : (Tryd.prog.info? 66).map (·.size) = some 2 := by
 obtain ⟨i0, hi0, hz0, hz1, hz2⟩ := info_parts pair_info
 rw [hi0]
 simp [hz1]
theorem setRow_at {w : World} {g : Nat} {cur cur' : Array Value} {t : TypeId} (hg : w.heap[g]? = some (.cells cur t (0, 0))) : (w.setRow g cur').heap[g]? = some (.cells cur' t (0, 0)) := setRow_heap w g cur cur' t (0, 0) hg
set_option maxHeartbeats 1000000 in
set_option maxRecDepth 100000 in
/-- at the end -/
theorem insert_end (w : World) (B : Nat) (v : Value) (l : List Pr) (vb c : Nat) (p : Pr) (h : OPL w B v l) (hl : l.length < 4398046510976) (hp : p.k.size ≤ maxLen ∧ p.v.size ≤ maxLen) (hB : B ≤ w.heap.size)
  (hv : Blk w vb 66 #[.string p.k, .string p.v]) :
  Calls Tryd.prog 102 #[v, .int .i64 (l.length : Nat), .slice (some ⟨vb, 0, none⟩) 1 c] w fun e w' => ∃ v', e = .returned v' ∧ OPL w' B v' (insP l l.length p) ∧ Below B w w' := by
 obtain ⟨i0, hi0, hz0, hz1, hz2⟩ := info_parts pair_info
 obtain ⟨A, cap, rfl⟩ := h.form
 have HO := Lib.hid h
 have hfit := insP_fits (i := l.length) h.fits hl hp (Nat.le_refl _)
 have hcap : (l.length : Int) ≤ cap := by
  obtain ⟨A', c', e, hc, _⟩ := h.pl
  injection e with e1 e2 e3
  omega
 have hrd : Reads w (vb + 1) 2 (some ⟨vb, 0, none⟩) 1 [.string p.k, .string p.v] := ⟨rfl, fun _ => ⟨_, rfl, Nat.lt_succ_self _, fun j u hu => rd_row hv 0 [.string p.k, .string p.v] (fun j v h => by simpa using h) j u hu⟩⟩
 have HR := Lib.hid hrd
 have HF := Lib.hid hfit
 have e : insP l l.length p = l ++ [p] := by unfold insP; rw [List.take_length, List.drop_length]
 have HE := Lib.hid e
 obtain ⟨n, hN⟩ : ∃ n, l.length = n := ⟨_, rfl⟩
 have hown := h.own
 rw [hN] at hl hcap hown ⊢
 have HN := Lib.hid hN
 have HW := Lib.hid hown
 have q1 : ((n : Int) == (n : Int)) = true := by simp
 have q2 : (0 : Int) ≤ (n : Int) := by omega
 clear h hv hfit hrd hN e hown
 by_cases hcn : cap = n
 all_goals
  go_enter Tryd.func102, Tryd.ntmps102
  go_wp2_with (at_builtin; refine wpList_append_any _ rfl (.tmp 23) (.tmp 24) 28 rfl B 66 i0 _ 2 32 Tryd.underlying28 hi0 hz0 hz1 hz2 rfl (by decide) (.slice A n cap) n (cellsP l) rfl HW.out (vb + 1) (some ⟨vb, 0, none⟩) 1 c [.string p.k, .string p.v] rfl HR.out (by intro u hu; simp only [List.mem_cons, List.not_mem_nil, or_false] at hu; rcases hu with rfl | rfl <;> rfl) (by unfold maxLen; omega) (by omega) hB ?_; intro v' w1 hown1 hgr hat)
  have hb : Below B w w1 := (Below.refl _ _).grown hgr hB (fun k hk => (HW.out.lt k hk).1)
  have HB := Lib.hid hb
  have HW1 := Lib.hid hown1
  clear hown1 hgr hat hb
  go_wp2_with fail
  go_ret
  refine ⟨_, rfl, ⟨?_, by rw [← HN.out]; exact HF.out⟩, HB.out⟩
  have e1 : (insP l n p).length = n + 1 := by rw [← HN.out]; exact insP_length _ _ _ (Nat.le_refl _)
  have e2 : cellsP (insP l n p) = cellsP l ++ [.string p.k, .string p.v] := by rw [← HN.out, HE.out, cellsP_append]; rfl
  rw [e1, e2]
  exact HW1.out
theorem noOverlap (w : World) (g vb c lb cb o : Nat) (cur cs : Array Value) (t : TypeId) (hg : w.heap[g]? = some (.cells cur 66 (0, 0))) (hv : Blk w vb t cs) (hne : vb ≠ g) (h0 : cur.size ≠ 0) :
  (callFunc 114 #[.slice (some ⟨vb, 0, none⟩) 1 c, .slice (some ⟨g, o, none⟩) lb cb]).run Tryd.prog w = .ok (.value (.bool false)) w := by
 obtain ⟨i0, hi0, hz0, hz1, hz2⟩ := info_parts pair_info
 have hz : ∀ w, (Go.sizeOf 66).run Tryd.prog w = .ok 2 w := fun w => by rw [Calm.run_sized hi0, hz1]
 have hs1 : w.shape? vb = some (t, cs.size) := by unfold Blk at hv; simp [World.shape?, hv]
 have hs2 : w.shape? g = some (66, cur.size) := by simp [World.shape?, hg]
 rw [run_callFunc_extern Tryd.func114 (by kernel_rfl) (by kernel_rfl) (by kernel_rfl) (e := Extern.SlicesOverlaps.overlaps #[28, 28] #[4]) (by kernel_rfl),
  Lib.run_overlaps_apart w 28 4 66 Tryd.underlying28 2 hz ⟨vb, 0, none⟩ ⟨g, o, none⟩ 1 c lb cb hne _ _ _ _ hs1 hs2 h0 (hv.frozen 0) (hv.frozen cs.size)]
 rfl
set_option maxHeartbeats 2000000 in
set_option maxRecDepth 100000 in
/-- in its midst, where there is room -/
theorem insert_shift (w : World) (B g n cap i : Nat) (cur : Array Value) (l : List Pr) (vb c : Nat) (p : Pr) (hg : w.heap[g]? = some (.cells cur 66 (0, 0))) (hBg : B ≤ g) (hn : l.length = n) (hcap : n + 1 ≤ cap) (hmax : cap ≤ maxLen) (hcs : cur.size = cap * 2)
  (hx : cur.toList.take (n * 2) = cellsP l) (hfit : Fits l) (hl : n < 4398046510976) (hp : p.k.size ≤ maxLen ∧ p.v.size ≤ maxLen) (hi : i < n) (hB : B ≤ w.heap.size)
  (hv : Blk w vb 66 #[.string p.k, .string p.v]) (hne : vb ≠ g) :
  Calls Tryd.prog 102 #[.slice (some ⟨g, 0, none⟩) n cap, .int .i64 (i : Nat), .slice (some ⟨vb, 0, none⟩) 1 c] w fun e w' => ∃ v', e = .returned v' ∧ OPL w' B v' (insP l i p) ∧ Below B w w' := by
 have hov := fun lb cb o => noOverlap w g vb c lb cb o cur #[.string p.k, .string p.v] 66 hg hv hne (by omega)
 have hXl : (cellsP l).length = n * 2 := by rw [cellsP_length, hn]
 have hsz : cur.toList.length = cap * 2 := by rw [Array.length_toList, hcs]
 have hcur : cur.toList = cellsP l ++ cur.toList.drop (n * 2) := by rw [← hx, List.take_append_drop]
 have hdl : ((cellsP l).drop (i * 2)).length = (n - i) * 2 := by rw [List.length_drop, hXl]; omega
 obtain ⟨cur1, hc1⟩ : ∃ cur1 : Array Value, cur1 = (cur.toList.take ((i + 1) * 2) ++ (cellsP l).drop (i * 2) ++ cur.toList.drop ((i + 1) * 2 + ((cellsP l).drop (i * 2)).length)).toArray := ⟨_, rfl⟩
 have hs1 : cur1.size = cap * 2 := by
  rw [hc1]
  simp only [List.size_toArray, List.length_append, List.length_take, List.length_drop, hdl, hsz]
  omega
 have hcp1 : ∀ ty dc sc, (Builtin.copy_ #[28, 28] ty #[.slice (some ⟨g, (i + 1) * 2, none⟩) (n - i) dc, .slice (some ⟨g, i * 2, none⟩) (n + 1 - i) sc]).run Tryd.prog w.drew = .ok (goInt (Nat.min (n + 1 - i) (n - i))) (w.drew.setRow g cur1) := fun ty dc sc => by
  rw [hc1]
  refine run_copy_rowN w.drew _ _ ty 66 g _ _ _ _ _ _ cur 66 ((cellsP l).drop (i * 2)) 2 Tryd.underlying28 pair_size hg ?_ ?_ ?_ (fun u hu => cellsP_one _ u (List.mem_of_mem_drop hu))
  ·rw [hdl, show (n + 1 - i).min (n - i) = n - i from Nat.min_eq_right (by omega)]
  ·refine rd_row hg _ _ fun j u hj => ?_
   rw [← Array.getElem?_toList, hcur, List.getElem?_append_left (by have := (List.getElem?_eq_some_iff.1 hj).1; omega), ← hj, List.getElem?_drop]
  ·rw [hdl, hcs]; omega
 obtain ⟨W1, hW1⟩ : ∃ W1, W1 = w.drew.setRow g cur1 := ⟨_, rfl⟩
 have hg1 : W1.heap[g]? = some (.cells cur1 66 (0, 0)) := by rw [hW1]; exact setRow_at (w := w.drew) hg
 have hb1 : w.grownBy W1 (some g) := by
  rw [hW1]
  exact ⟨rfl, rfl, rfl, (grown_setRow w.drew g cur1).size, (grown_setRow w.drew g cur1).block⟩
 have hv1 : Blk W1 vb 66 #[.string p.k, .string p.v] := hv.grown hb1 (fun e => hne (by injection e))
 rw [← hW1] at hcp1
 obtain ⟨cur2, hc2⟩ : ∃ cur2 : Array Value, cur2 = (cur1.toList.take (i * 2) ++ [Value.string p.k, Value.string p.v] ++ cur1.toList.drop (i * 2 + 2)).toArray := ⟨_, rfl⟩
 have hs2 : cur2.size = cap * 2 := by
  rw [hc2]
  simp only [List.size_toArray, List.length_append, List.length_take, List.length_drop, Array.length_toList, hs1, List.length_cons, List.length_nil]
  omega
 have hcp2 : ∀ ty dc, (Builtin.copy_ #[28, 28] ty #[.slice (some ⟨g, i * 2, none⟩) (n + 1 - i) dc, .slice (some ⟨vb, 0, none⟩) 1 c]).run Tryd.prog W1 = .ok (goInt (Nat.min 1 (n + 1 - i))) (W1.setRow g cur2) := fun ty dc => by
  rw [hc2]
  refine run_copy_rowN W1 _ _ ty 66 g _ _ _ _ _ _ cur1 66 [.string p.k, .string p.v] 2 Tryd.underlying28 pair_size hg1 ?_ ?_ ?_ (by intro u hu; simp only [List.mem_cons, List.not_mem_nil, or_false] at hu; rcases hu with rfl | rfl <;> rfl)
  ·rw [show Nat.min 1 (n + 1 - i) = 1 from Nat.min_eq_left (by omega)]; rfl
  ·exact rd_row hv1 0 [.string p.k, .string p.v] (fun j v h => by simpa using h)
  ·rw [hs1]; show i * 2 + 2 ≤ _; omega
 obtain ⟨W2, hW2⟩ : ∃ W2, W2 = W1.setRow g cur2 := ⟨_, rfl⟩
 have hg2 : W2.heap[g]? = some (.cells cur2 66 (0, 0)) := by rw [hW2]; exact setRow_at hg1
 have hb2 : W1.grownBy W2 (some g) := by rw [hW2]; exact grown_setRow W1 g cur2
 rw [← hW2] at hcp2
 have hfin : OPL W2 B (.slice (some ⟨g, 0, none⟩) (n + 1) cap) (insP l i p) := by
  have e1 : (insP l i p).length = n + 1 := by rw [insP_length l i p (by omega), hn]
  refine ⟨?_, insP_fits hfit (by omega) hp (by omega)⟩
  rw [e1]
  refine own_of_row hBg hg2 hcap hmax hs2 ?_ (by rw [cellsP_length, e1])
  rw [insP_cells, hc2, hc1]
  have := shift_list (cellsP l) (cur.toList.drop (n * 2)) [.string p.k, .string p.v] i n hXl hi rfl (by rw [List.length_drop, hsz]; omega)
  simp only at this
  rw [← hcur] at this
  simpa using this
 have hbel : Below B w W2 := ((Below.refl _ _).grown hb1 hB (fun k hk => by injection hk with hk; omega)).grown hb2 (Nat.le_trans hB hb1.size) (fun k hk => by injection hk with hk; omega)
 have HF := Lib.hid hfin
 have HB := Lib.hid hbel
 have H1 := Lib.hid hcp1
 have H2 := Lib.hid hcp2
 unfold maxLen at hmax
 have q1 : ((i : Int) == (n : Int)) = false := by simp; omega
 have q2 : ((n : Int) + 1 ≤ (cap : Int)) := by omega
 have q3 : (i : Int) < (n : Int) := by omega
 have q4 : (0 : Int) ≤ (i : Int) := by omega
 have q5 : ¬ (cap = i) := by omega
 have q6 : ¬ (cap = i + 1) := by omega
 have q7 : IntKind.i64.wrap ((i : Int) + 1) = (i : Int) + 1 := IntWalk.i64_in _ (by omega)
 have q8 : ((i : Int) + 1).toNat = i + 1 := by omega
 have q9 : IntKind.i64.wrap ((n : Int) + 1) = (n : Int) + 1 := IntWalk.i64_in _ (by omega)
 have q10 : ((n : Int) + 1).toNat = n + 1 := by omega
 have q11 : n + 1 - (i + 1) = n - i := by omega
 clear hfin hbel hcp1 hcp2 hg2 hb2 hW2 hs2 hc2 hv1 hb1 hg1 hW1 hs1 hc1 hdl hcur hsz hXl hx hcs hfit hv hg hn hBg
 go_enter Tryd.func102, Tryd.ntmps102
 go_wp2_with (simp only [hov])
 refine region_segs [8] (by kernel_rfl) ?_
 refine anyB_seg [0, 1, 2, 3, 4, 5, 6, 7] 1 rfl (by kernel_rfl) (by kernel_rfl) (by kernel_rfl) (fun _ _ d _ _ h => by cases d <;> exact h) ?_
 simp only [pickOps, List.getElem?_toArray, List.getElem?_cons_zero, List.getElem?_cons_succ]
 go_wp2_with fail
 refine ⟨rfl, by rfl, ?_⟩
 refine anyB_one (i := 8) (by kernel_rfl) rfl (fun K hK => ?_)
 rw [if_pos (by rfl)]
 refine wp_copy_run _ (.tmp 73) (.tmp 76) 28 28 rfl _ _ (by rfl) (by rfl) (H1.out _ _ _) ?_
 refine hK.out _ _ (fun h => absurd (by decide) h) ?_
 clear hK K
 refine anyB_done (by kernel_rfl) ?_ _
 have h2 := H2.out
 go_wp2_with fail
 clear h2
 go_ret
 exact ⟨_, rfl, HF.out, HB.out⟩
set_option maxHeartbeats 2000000 in
set_option maxRecDepth 100000 in
/-- in its midst, where there is no room -/
theorem insert_grow (w : World) (B g n i : Nat) (cur : Array Value) (l : List Pr) (vb c : Nat) (p : Pr) (hg : w.heap[g]? = some (.cells cur 66 (0, 0))) (hn : l.length = n)
  (hx : cur.toList.take (n * 2) = cellsP l) (hfit : Fits l) (hl : n < 4398046510976) (hp : p.k.size ≤ maxLen ∧ p.v.size ≤ maxLen) (hi : i < n) (hB : B ≤ w.heap.size)
  (hv : Blk w vb 66 #[.string p.k, .string p.v]) :
  Calls Tryd.prog 102 #[.slice (some ⟨g, 0, none⟩) n n, .int .i64 (i : Nat), .slice (some ⟨vb, 0, none⟩) 1 c] w fun e w' => ∃ v', e = .returned v' ∧ OPL w' B v' (insP l i p) ∧ Below B w w' := by
 obtain ⟨i0, hi0, hz0, hz1, hz2⟩ := info_parts pair_info
 have hXl : (cellsP l).length = n * 2 := by rw [cellsP_length, hn]
 have hcur : cur.toList = cellsP l ++ cur.toList.drop (n * 2) := by rw [← hx, List.take_append_drop]
 have hdl : ((cellsP l).drop (i * 2)).length = (n - i) * 2 := by rw [List.length_drop, hXl]; omega
 have hgw : g < w.heap.size := (Array.getElem?_eq_some_iff.1 hg).1
 have hvw : vb < w.heap.size := hv.lt
 have hold : (Builtin.firstCells i0.size i (.slice (some ⟨g, 0, none⟩) i n)).run Tryd.prog w.drew = .ok ((cellsP l).take (i * 2)).toArray w.drew := by
  rw [hz1]
  refine run_firstCells_some w.drew 2 i ⟨g, 0, none⟩ i n ((cellsP l).take (i * 2)) (by rw [List.length_take, hXl]; omega) ?_
  refine rd_row (w := w.drew) hg 0 _ fun j v hj => ?_
  rw [← Array.getElem?_toList, hcur, Nat.zero_add, List.getElem?_append_left (by have := (List.getElem?_eq_some_iff.1 hj).1; rw [List.length_take] at this; omega), ← hj, List.getElem?_take_of_lt (by have := (List.getElem?_eq_some_iff.1 hj).1; rw [List.length_take] at this; omega)]
 have hik : i + (n + 1 - i) = n + 1 := by omega
 obtain ⟨G, hG⟩ : ∃ G, G = grownCap w (n + 1) n 66 := ⟨_, rfl⟩
 have hGn : n + 1 ≤ G := by rw [hG]; exact grownCap_ge w _ _ _
 have hGm : G ≤ maxLen := by rw [hG]; exact grownCap_le_maxLen w (n + 1) n 66 (by unfold maxLen; omega)
 obtain ⟨Z, hZ⟩ : ∃ Z : Array Value, Z = Builtin.zeroCells (Value.agg #[.string ⟨#[]⟩, .string ⟨#[]⟩]).cells (n + 1 - i) ++ Builtin.zeroCells (Value.agg #[.string ⟨#[]⟩, .string ⟨#[]⟩]).cells (G - (n + 1)) := ⟨_, rfl⟩
 have hZs : Z.size = (G - i) * 2 := by
  rw [hZ]
  simp [Builtin.zeroCells, Value.cells]
  omega
 obtain ⟨row, hrow⟩ : ∃ row : Array Value, row = ((cellsP l).take (i * 2)).toArray ++ Z := ⟨_, rfl⟩
 have hrs : row.size = G * 2 := by
  rw [hrow]
  simp only [Array.size_append, List.size_toArray, List.length_take, hXl, hZs]
  omega
 have hrz : ∀ ty, (Builtin.append_ #[28, 3] ty #[.slice (some ⟨g, 0, none⟩) i n, .int .i64 ((n : Int) + 1 - (i : Int))]).run Tryd.prog w =
   .ok (.slice (some ⟨w.heap.size, 0, none⟩) (n + 1) G) (w.drew.alloc (.cells row 66)) := fun ty => by
  have h := Lib.run_append_grow_zeros w 28 3 ty 66 i0 _ .i64 .i64 Tryd.underlying28 Tryd.underlying3 hi0 hz0 (some ⟨g, 0, none⟩) i n ((cellsP l).take (i * 2)) hold (n + 1 - i) (by omega) (by omega) (by omega) (by omega) (by rw [hz2]; omega) (by rw [hz2, hik]; exact growslice_fits (by omega) (by omega))
  rw [hik] at h
  rw [hrow, hZ, ← Array.append_assoc, hG]
  rw [show ((n : Int) + 1 - (i : Int)) = ((n + 1 - i : Nat) : Int) by omega]
  exact h
 obtain ⟨N, hN⟩ : ∃ N, N = w.heap.size := ⟨_, rfl⟩
 rw [← hN] at hrz
 obtain ⟨W0, hW0⟩ : ∃ W0, W0 = w.drew.alloc (.cells row 66) := ⟨_, rfl⟩
 have hg0 : W0.heap[N]? = some (.cells row 66 (0, 0)) := by rw [hW0, hN]; exact heap_alloc_new w.drew _
 have hb0 : Below w.heap.size w W0 := by rw [hW0]; exact (Below.refl _ _).drew.alloc (Nat.le_refl _) _
 have hv0 : Blk W0 vb 66 #[.string p.k, .string p.v] := hv.keep hb0
 have hs0 : W0.heap[g]? = some (.cells cur 66 (0, 0)) := (hb0.block g hgw).trans hg
 rw [← hW0] at hrz
 obtain ⟨cur1, hc1⟩ : ∃ cur1 : Array Value, cur1 = (row.toList.take (i * 2) ++ [Value.string p.k, Value.string p.v] ++ row.toList.drop (i * 2 + 2)).toArray := ⟨_, rfl⟩
 have hs1 : cur1.size = G * 2 := by
  rw [hc1]
  simp only [List.size_toArray, List.length_append, List.length_take, List.length_drop, Array.length_toList, hrs, List.length_cons, List.length_nil]
  omega
 have hcpA : ∀ ty dc, (Builtin.copy_ #[28, 28] ty #[.slice (some ⟨N, i * 2, none⟩) (n + 1 - i) dc, .slice (some ⟨vb, 0, none⟩) 1 c]).run Tryd.prog W0 = .ok (goInt (Nat.min 1 (n + 1 - i))) (W0.setRow N cur1) := fun ty dc => by
  rw [hc1]
  refine run_copy_rowN W0 _ _ ty 66 N _ _ _ _ _ _ row 66 [.string p.k, .string p.v] 2 Tryd.underlying28 pair_size hg0 ?_ ?_ ?_ (by intro u hu; simp only [List.mem_cons, List.not_mem_nil, or_false] at hu; rcases hu with rfl | rfl <;> rfl)
  ·rw [show Nat.min 1 (n + 1 - i) = 1 from Nat.min_eq_left (by omega)]; rfl
  ·exact rd_row hv0 0 [.string p.k, .string p.v] (fun j v h => by simpa using h)
  ·rw [hrs]; show i * 2 + 2 ≤ _; omega
 obtain ⟨W1, hW1⟩ : ∃ W1, W1 = W0.setRow N cur1 := ⟨_, rfl⟩
 have hg1 : W1.heap[N]? = some (.cells cur1 66 (0, 0)) := by rw [hW1]; exact setRow_at hg0
 have hb1 : W0.grownBy W1 (some N) := by rw [hW1]; exact grown_setRow W0 N cur1
 have hs11 : W1.heap[g]? = some (.cells cur 66 (0, 0)) := (hb1.block g (Nat.lt_of_lt_of_le hgw hb0.size) (fun e => by injection e with e; omega)).trans hs0
 rw [← hW1] at hcpA
 obtain ⟨cur2, hc2⟩ : ∃ cur2 : Array Value, cur2 = (cur1.toList.take ((i + 1) * 2) ++ (cellsP l).drop (i * 2) ++ cur1.toList.drop ((i + 1) * 2 + ((cellsP l).drop (i * 2)).length)).toArray := ⟨_, rfl⟩
 have hs2 : cur2.size = G * 2 := by
  rw [hc2]
  simp only [List.size_toArray, List.length_append, List.length_take, List.length_drop, Array.length_toList, hs1, hXl]
  omega
 have hcpB : ∀ ty dc sc, (Builtin.copy_ #[28, 28] ty #[.slice (some ⟨N, (i + 1) * 2, none⟩) (n - i) dc, .slice (some ⟨g, i * 2, none⟩) (n - i) sc]).run Tryd.prog W1.drew = .ok (goInt (Nat.min (n - i) (n - i))) (W1.drew.setRow N cur2) := fun ty dc sc => by
  rw [hc2]
  refine run_copy_rowN W1.drew _ _ ty 66 N _ _ _ _ _ _ cur1 66 ((cellsP l).drop (i * 2)) 2 Tryd.underlying28 pair_size hg1 ?_ ?_ ?_ (fun u hu => cellsP_one _ u (List.mem_of_mem_drop hu))
  ·rw [hdl, show (n - i).min (n - i) = n - i from Nat.min_self _]
  ·refine rd_row (w := W1.drew) hs11 _ _ fun j u hj => ?_
   rw [← Array.getElem?_toList, hcur, List.getElem?_append_left (by have := (List.getElem?_eq_some_iff.1 hj).1; omega), ← hj, List.getElem?_drop]
  ·rw [hdl, hs1]; omega
 obtain ⟨W2, hW2⟩ : ∃ W2, W2 = W1.drew.setRow N cur2 := ⟨_, rfl⟩
 have hg2 : W2.heap[N]? = some (.cells cur2 66 (0, 0)) := by rw [hW2]; exact setRow_at (w := W1.drew) hg1
 have hb2 : W1.grownBy W2 (some N) := by
  rw [hW2]
  exact ⟨rfl, rfl, rfl, (grown_setRow W1.drew N cur2).size, (grown_setRow W1.drew N cur2).block⟩
 rw [← hW2] at hcpB
 have hfin : OPL W2 B (.slice (some ⟨N, 0, none⟩) (n + 1) G) (insP l i p) := by
  have e1 : (insP l i p).length = n + 1 := by rw [insP_length l i p (by omega), hn]
  refine ⟨?_, insP_fits hfit (by omega) hp (by omega)⟩
  rw [e1]
  refine own_of_row (by omega) hg2 hGn hGm hs2 ?_ (by rw [cellsP_length, e1])
  rw [insP_cells, hc2, hc1, hrow]
  have := grow_list (cellsP l) Z.toList [.string p.k, .string p.v] i n hXl hi rfl
  simpa using this
 have hbel : Below B w W2 := ((hb0.mono hB).grown hb1 (Nat.le_trans hB hb0.size) (fun k hk => by injection hk with hk; omega)).grown hb2 (Nat.le_trans hB (Nat.le_trans hb0.size hb1.size)) (fun k hk => by injection hk with hk; omega)
 have HF := Lib.hid hfin
 have HB := Lib.hid hbel
 have H0 := Lib.hid hrz
 have H1 := Lib.hid hcpA
 have H2 := Lib.hid hcpB
 unfold maxLen at hGm
 have q0 : (n : Int) < (n : Int) + 1 := by omega
 have q1 : ((i : Int) == (n : Int)) = false := by simp; omega
 have q3 : (i : Int) < (n : Int) := by omega
 have q4 : (0 : Int) ≤ (i : Int) := by omega
 have q5 : ¬ (n = i) := by omega
 have q6 : ¬ (G = i + 1) := by omega
 have q6' : ¬ (G = i) := by omega
 have q7 : IntKind.i64.wrap ((i : Int) + 1) = (i : Int) + 1 := IntWalk.i64_in _ (by omega)
 have q8 : ((i : Int) + 1).toNat = i + 1 := by omega
 have q9 : IntKind.i64.wrap ((n : Int) + 1) = (n : Int) + 1 := IntWalk.i64_in _ (by omega)
 have q10 : ((n : Int) + 1).toNat = n + 1 := by omega
 have q11 : n + 1 - (i + 1) = n - i := by omega
 have q12 : IntKind.i64.wrap ((n : Int) + 1 - (i : Int)) = (n : Int) + 1 - (i : Int) := IntWalk.i64_in _ (by omega)
 have q13 : (n : Int) + 1 ≤ (G : Int) := by omega
 have q14 : (i : Int) + 1 ≤ (n : Int) + 1 := by omega
 clear hfin hbel hrz hcpA hcpB hg2 hb2 hW2 hs2 hc2 hs11 hb1 hg1 hW1 hs1 hc1 hs0 hv0 hb0 hg0 hW0 hN hrs hrow hZs hZ hG hik hold hdl hcur hXl hx hfit hv hg hn hgw hvw
 go_enter Tryd.func102, Tryd.ntmps102
 have h1 := H1.out
 go_wp2_with (at_builtin; refine wpList_append_run _ rfl (.tmp 34) (.tmp 39) 28 3 rfl _ _ rfl rfl (H0.out _) ?_)
 clear h1
 refine region_segs [8] (by kernel_rfl) ?_
 refine anyB_seg [0, 1, 2, 3, 4, 5, 6, 7] 1 rfl (by kernel_rfl) (by kernel_rfl) (by kernel_rfl) (fun _ _ d _ _ h => by cases d <;> exact h) ?_
 simp only [pickOps, List.getElem?_toArray, List.getElem?_cons_zero, List.getElem?_cons_succ]
 go_wp2_with fail
 refine ⟨rfl, by rfl, ?_⟩
 refine anyB_one (i := 8) (by kernel_rfl) rfl (fun K hK => ?_)
 rw [if_pos (by rfl)]
 refine wp_copy_run _ (.tmp 50) (.tmp 53) 28 28 rfl _ _ (by rfl) (by rfl) (H2.out _ _ _) ?_
 refine hK.out _ _ (fun h => absurd (by decide) h) ?_
 clear hK K
 refine anyB_done (by kernel_rfl) ?_ _
 go_wp2_with fail
 go_ret
 exact ⟨_, rfl, HF.out, HB.out⟩
end Go.Proofs.YtjbnfigpflambabDoor
/- back.with: pairs with one more, in memory of its own. -/
namespace Go.Proofs.YtjbnfigpflambabDoor
open Go.ChangeShapes Go.WideShapes Go.ChangeAt Go.RowKit
theorem insert_any (w : World) (B : Nat) (v : Value) (l : List Pr) (i vb c : Nat) (p : Pr) (h : OPL w B v l) (hl : l.length < 4398046510976) (hp : p.k.size ≤ maxLen ∧ p.v.size ≤ maxLen) (hi : i ≤ l.length) (hB : B ≤ w.heap.size)
  (hv : Blk w vb 66 #[.string p.k, .string p.v]) (hne : v.ownBlock ≠ some vb) :
  Calls Tryd.prog 102 #[v, .int .i64 (i : Nat), .slice (some ⟨vb, 0, none⟩) 1 c] w fun e w' => ∃ v', e = .returned v' ∧ OPL w' B v' (insP l i p) ∧ Below B w w' := by
 rcases Nat.lt_or_eq_of_le hi with hlt | rfl
 ·rcases h.own.2 with ⟨_, h0⟩ | ⟨g, cap, cur, rfl, hBg, hg, hn, hm, hcs, hx⟩
  ·omega
  ·have hvg : vb ≠ g := fun e => hne (by simp [Value.ownBlock, e])
   by_cases hc : cap = l.length
   ·subst hc
    exact insert_grow w B g l.length i cur l vb c p hg rfl hx h.fits hl hp hlt hB hv
   ·exact insert_shift w B g l.length cap i cur l vb c p hg hBg rfl (by omega) hm hcs hx h.fits hl hp hlt hB hv hvg
 ·exact insert_end w B v l vb c p h hl hp hB hv
theorem cellsP_set (l : List Pr) (i : Nat) (v : ByteArray) (h : i < l.length) : cellsP (l.set i ⟨l[i].k, v⟩) = (cellsP l).set (i * 2 + 1) (.string v) := by
 induction l generalizing i with
 | nil => simp at h
 | cons p l ih =>
  rcases i with _ | i
  ·rfl
  ·have e : (i + 1) * 2 + 1 = (i * 2 + 1) + 2 := by omega
   have := ih i (by simpa using h)
   show cellsP (p :: l.set i _) = _
   have e1 : ∀ m : List Pr, cellsP (p :: m) = .string p.k :: .string p.v :: cellsP m := fun m => rfl
   rw [e1, e1, e, List.set_cons_succ, List.set_cons_succ, ← this]
   rfl
/-- a value stored into a pair of the call's own -/
theorem own_set {w : World} {B g n cap i : Nat} {l : List Pr} {v : ByteArray} (h : OPL w B (.slice (some ⟨g, 0, none⟩) n cap) l) (hn : l.length = n) (hi : i < l.length) (hv : v.size ≤ maxLen) : OPL (w.setCell ⟨g, i * 2 + 1, none⟩ (.string v)) B (.slice (some ⟨g, 0, none⟩) n cap) (l.set i ⟨l[i].k, v⟩) := by
 subst hn
 rcases h.own.2 with ⟨e, _⟩ | ⟨g', cap', cur, e, hBg, hg, hn, hm, hcs, hx⟩
 ·cases e
 ·injection e with e1 e2 e3
  injection e1 with e1
  injection e1 with e1
  subst e1 e3
  refine ⟨?_, ?_⟩
  ·rw [List.length_set]
   refine own_of_row hBg (cur := cur.setIfInBounds (i * 2 + 1) (.string v)) ?_ hn hm (by rw [Array.size_setIfInBounds, hcs]) ?_ (by rw [cellsP_length, List.length_set])
   ·have := Blk.set_ (w := w) (g := g) (t := 66) (cs := cur) hg (i * 2 + 1) (.string v)
    exact this
   ·rw [cellsP_set l i v hi, Array.toList_setIfInBounds, List.take_set, hx]
  ·refine ⟨by rw [List.length_set]; exact h.fits.1, fun q hq => ?_⟩
   rcases List.mem_or_eq_of_mem_set hq with hq | rfl
   ·exact h.fits.2 q hq
   ·exact ⟨(h.fits.2 _ (List.getElem_mem hi)).1, hv⟩
set_option maxHeartbeats 1000000 in
set_option maxRecDepth 100000 in
theorem with_any (w : World) (v : Value) (l : List Pr) (k u : ByteArray) (h : PL w w.heap.size v l) (hs : Sorted l) (hl : l.length < 4398046510976) (hk : k.size ≤ maxLen) (hu : u.size ≤ maxLen) :
  Calls Tryd.prog 90 #[v, .string k, .string u] w fun e w' => ∃ v', e = .returned v' ∧ OPL w' w.heap.size v' (plusP l k u) ∧ Below w.heap.size w w' := by
 have H := Lib.hid h
 have HS := Lib.hid hs
 have HU := Lib.hid hu
 have HK := Lib.hid hk
 clear h hs hu hk
 go_enter Tryd.func90, Tryd.ntmps90
 go_wp2_with fail
 refine (clone_own _ w.heap.size v l H.out (Nat.le_refl _)).mono ?_
 rintro e w1 ⟨v1, rfl, ho1, hb1⟩
 have HO1 := Lib.hid ho1
 have HB1 := Lib.hid hb1
 clear ho1 hb1
 go_wp2_with fail
 refine (find_any _ _ l k HO1.out.pl).mono ?_
 rintro e w2 ⟨i, b, rfl, hf, hb2⟩
 have HO2 := Lib.hid (HO1.out.keeps (.of_below hb2))
 have HB2 := Lib.hid (below_step HB1.out (Nat.le_refl _) hb2)
 have HF := Lib.hid hf
 clear hf hb2
 cases b with
 | true =>
  obtain ⟨hi, hik⟩ := HF.out.here rfl
  have h0 := HO2.out.own.2
  rcases h0 with ⟨_, h0⟩ | ⟨g, cap, cur, rfl, hBg, hg, hn, hm, hcs, hx⟩
  ·omega
  have hc := (cell_of_row w2 g (i * 2 + 1) cur 66 (0, 0) hg).trans (Array.getElem?_eq_getElem (by omega))
  have hfz : ∀ j, w2.frozen? ⟨g, j, none⟩ = false := fun j => Blk.frozen (t := 66) (cs := cur) hg j
  obtain ⟨x, hx0⟩ : ∃ x, cur[i * 2 + 1] = x := ⟨_, rfl⟩
  rw [hx0] at hc
  have e1 : l.set i ⟨l[i].k, u⟩ = plusP l k u := by
   obtain ⟨e1, e2⟩ := HF.out.sorted HS.out
   subst e1
   rw [plus_there HS.out k u hi hik, hik]
  have HFIN := Lib.hid (show OPL (w2.setCell ⟨g, i * 2 + 1, none⟩ (.string u)) w.heap.size (.slice (some ⟨g, 0, none⟩) l.length cap) (plusP l k u) by rw [← e1]; exact own_set HO2.out rfl hi HU.out)
  have HBF := Lib.hid (HB2.out.setCell (p := ⟨g, i * 2 + 1, none⟩) hBg (.string u))
  have g1 : (i : Int) < (l.length : Int) := by omega
  have g2 : (0 : Int) ≤ (i : Int) := by omega
  clear e1 hx0 hx hcs hn hg hik hm
  go_wp2_with fail
  go_ret
  exact ⟨_, rfl, HFIN.out, HBF.out⟩
 | false =>
  obtain ⟨A, cap, rfl⟩ := HO2.out.form
  have hi := HF.out.le
  have e1 : insP l i ⟨k, u⟩ = plusP l k u := by
   obtain ⟨e1, e2⟩ := HF.out.sorted HS.out
   subst e1
   rw [plus_new HS.out k u e2.symm]
   rfl
  have HE := Lib.hid e1
  clear e1
  go_wp2_with fail
  refine (insert_any _ w.heap.size _ l i _ _ ⟨k, u⟩ (HO2.out.keeps (.alloc _ _)) hl ⟨HK.out, HU.out⟩ hi (Nat.le_trans HB2.out.size (by simp)) (Blk.new _ _ _) ?_).mono ?_
  ·intro e
   have := (HO2.out.own.lt _ e).2
   omega
  rintro e w3 ⟨v3, rfl, ho3, hb3⟩
  rw [HE.out] at ho3
  have HO3 := Lib.hid ho3
  have HB3 := Lib.hid ((HB2.out.alloc HB2.out.size _).trans hb3)
  clear ho3 hb3
  go_wp2_with fail
  go_ret
  exact ⟨_, rfl, HO3.out, HB3.out⟩
end Go.Proofs.YtjbnfigpflambabDoor
/- The reference's In: is a number from low to high? -/
namespace Go.Proofs.YtjbnfigpflambabDoor
open Go.ChangeShapes Go.WideShapes Go.ChangeAt Go.RowKit
theorem in_yes (n lo hi : Int) (w : World) (h1 : lo ≤ n) (h2 : n ≤ hi) :
  Calls Tryd.prog 36 #[.int .i64 n, .int .i64 lo, .int .i64 hi] w fun e w' => e = .returned (.bool true) ∧ w = w' := by
 have d : decide (n ≤ hi) = true := by simpa using h2
 go_enter Tryd.func36, Tryd.ntmps36
 go_wp2
 go_ret
 exact ⟨rfl, rfl⟩
theorem in_no (n lo hi : Int) (w : World) (h : n < lo ∨ hi < n) :
  Calls Tryd.prog 36 #[.int .i64 n, .int .i64 lo, .int .i64 hi] w fun e w' => e = .returned (.bool false) ∧ w = w' := by
 by_cases h1 : n < lo
 ·have d : decide (lo ≤ n) = false := by simpa using h1
  go_enter Tryd.func36, Tryd.ntmps36
  go_wp2
  go_ret
  exact ⟨rfl, rfl⟩
 ·have h2 : hi < n := by omega
  have d : decide (n ≤ hi) = false := by simpa using h2
  clear h
  go_enter Tryd.func36, Tryd.ntmps36
  go_wp2
  go_ret
  exact ⟨rfl, rfl⟩
end Go.Proofs.YtjbnfigpflambabDoor
