/- Helpers for (pool).deliver: messages taken off a client's bytes; two appends ahead of two stores. Helpers for (pool).pump: whole numbers in the pool's slices; the pool between its turns. (pool).pump: its walk. -/
import Derived.Test.YtjbnfigpflambacGreatDoorG07
import Derived.Test.YtjbnfigpflambacGreatDoorG29
import Derived.Deep.CutBlock
/- Helpers for (pool).deliver: messages taken off a client's bytes; two appends ahead of two stores. -/
namespace Go.Proofs.YtjbnfigpflambacGreatDoor
open Go.ChangeShapes Go.WideShapes Go.ChangeAt Go.RowKit
theorem unpack_any (s : ByteArray) (w : World) (hm : s.size ≤ maxLen) :
  Calls Tryz.prog 30 #[.string s] w fun e w' => e = .returned (if wholeB s = true then .tuple #[.int .u8 ((kindAt s).toNat : Int), .string (textAt s), .int .i64 (headN s : Int)] else .tuple #[.int .u8 0, .string ⟨#[]⟩, .int .i64 0]) ∧ Below w.heap.size w w' := by
 by_cases h : wholeB s = true
 ·rw [if_pos h]
  obtain ⟨h1, h2⟩ := (whole_iff s).1 h
  have hl : s.data.toList.length = s.size := by simp
  have e0 : s[0]'(by omega) = kindAt s := by
   rw [list_get]
   unfold kindAt
   rw [List.getD_eq_getElem?_getD, List.getElem?_eq_getElem (by omega)]
   rfl
  have e1 : 2 + (s[1]'h1).toNat = headN s := by
   rw [list_get]
   unfold headN
   rw [List.getD_eq_getElem?_getD, List.getElem?_eq_getElem (by omega)]
   rfl
  refine (unpack_ok s (kindAt s) (s[1]'h1) w (by omega) h1 e0 rfl h2 hm).mono ?_
  rintro e w' ⟨rfl, n, rfl⟩
  refine ⟨?_, (Below.refl _ _).trans ⟨rfl, rfl, rfl, Nat.le_refl _, fun _ _ => rfl⟩⟩
  unfold textAt
  rw [← e1]
  simp
 ·rw [if_neg h]
  refine (unpack_no s w (fun hw => h ((whole_iff s).2 hw)) hm).mono ?_
  rintro e w' ⟨rfl, n, rfl⟩
  exact ⟨rfl, (Below.refl _ _).trans ⟨rfl, rfl, rfl, Nat.le_refl _, fun _ _ => rfl⟩⟩
theorem head_le {s : ByteArray} (h : wholeB s = true) : 2 ≤ headN s ∧ headN s ≤ s.size := by
 unfold wholeB at h
 simp only [Bool.and_eq_true, decide_eq_true_eq] at h
 exact ⟨by unfold headN; omega, h.2⟩
theorem set_self (f : Fr) (c : Nat) : f.set c (f.c c) = f := by
 unfold Fr.set Fr.c
 cases f with
 | mk m o cl wt d =>
  simp only
  congr 1
  rcases Nat.lt_or_ge c cl.length with h | h
  ·rw [List.getD_eq_getElem?_getD, List.getElem?_eq_getElem h]
   simp
  ·rw [List.set_eq_of_length_le h]
section
variable {f : Fr} {b : PB} {c : Nat}
theorem fs_bytes (hc : c < f.cl.length) (x : Cl) (s : ByteArray) : ({ MV.of (f.set c x) b with bytes := up (MV.of (f.set c x) b).bytes c s } : MV) = MV.of (f.set c ⟨s, x.pend, x.srv, x.sent⟩) b := by
 rw [mv_set (f' := f.set c ⟨s, x.pend, x.srv, x.sent⟩) b hc rfl, mv_set (f' := f.set c x) b hc rfl]
 simp only [up_up]
 rfl
theorem fs_at (hc : c < f.cl.length) (x : Cl) : (MV.of (f.set c x) b).bytes c = x.bytes ∧ (MV.of (f.set c x) b).pend c = x.pend.map (·.1) ∧ (MV.of (f.set c x) b).bad c = x.pend.map (·.2) := by
 have e := c_same f hc x
 refine ⟨?_, ?_, ?_⟩
 ·show ((f.set c x).c c).bytes = _
  rw [e]
 ·show ((f.set c x).c c).pend.map _ = _
  rw [e]
 ·show ((f.set c x).c c).pend.map _ = _
  rw [e]
theorem fs_pend (hc : c < f.cl.length) (x : Cl) (st : St) (bd : Bool) : ({ MV.of (f.set c x) b with pend := up (MV.of (f.set c x) b).pend c (x.pend.map (·.1) ++ [st]), bad := up (MV.of (f.set c x) b).bad c (x.pend.map (·.2) ++ [bd]) } : MV) = MV.of (f.set c ⟨x.bytes, x.pend ++ [(st, bd)], x.srv, x.sent⟩) b := by
 rw [mv_set (f' := f.set c ⟨x.bytes, x.pend ++ [(st, bd)], x.srv, x.sent⟩) b hc rfl, mv_set (f' := f.set c x) b hc rfl]
 simp only [up_up, List.map_append, List.map_cons, List.map_nil]
 rfl
end
structure PoolM (w : World) (B p : Nat) (V : PV) (ks : List KV) (M : MV) (V0 : PV) (M0 : MV) : Prop where
 o : PoolO w B p V ks M
 b : PoolB w p M0 V0
section
variable {w w2 : World} {B p : Nat} {V V0 : PV} {ks : List KV} {M M0 : MV} {c : Nat}
theorem PoolM.below (h : PoolM w B p V ks M V0 M0) (hb : Below w.heap.size w w2) : PoolM w2 B p V ks M V0 M0 := ⟨h.o.below hb, h.b.keep (hb.block p h.b.lt)⟩
theorem PoolM.app_pend (h : PoolM w B p V ks M V0 M0) (hc : c < 6) {v : Value} {l : List St} (ho : OwnO w2 B 41 3 v l.length (stV l)) (g : w.grownBy w2 (V.pend c).ownBlock) (hn : v.ownBlock = (V.pend c).ownBlock ∨ v.ownBlock = some w.heap.size) :
  PoolM w2 B p { V with pend := up V.pend c v } ks { M with pend := up M.pend c l } V0 M0 ∧ Turn p w V w2 { V with pend := up V.pend c v } := by
 have s1 : Step p (.pend c) w V w2 { V with pend := up V.pend c v } := Step.of_grown (r0 := .pend c) (v := V.pend c) (v' := v) h.o hc (by simp) rfl g hn (by show (up V.pend c v c).ownBlock = _; rw [up_at])
  (fun r hr => by cases r <;> first | rfl | (rename_i i; show (up V.pend c v i).ownBlock = _; rw [up_off _ _ (fun e => hr (by rw [e]))]; rfl))
 exact ⟨⟨h.o.st_pend hc (v := v) (l := l) ho s1, h.b.keep (g.block p h.b.lt fun e => absurd (h.o.apart .pool (.pend c) p trivial hc rfl e.symm) (by simp))⟩, s1.turn hc⟩
theorem PoolM.app_bad (h : PoolM w B p V ks M V0 M0) (hc : c < 6) {v : Value} {l : List Bool} (ho : OwnO w2 B 4 1 v l.length (badV l)) (g : w.grownBy w2 (V.bad c).ownBlock) (hn : v.ownBlock = (V.bad c).ownBlock ∨ v.ownBlock = some w.heap.size) :
  PoolM w2 B p { V with bad := up V.bad c v } ks { M with bad := up M.bad c l } V0 M0 ∧ Turn p w V w2 { V with bad := up V.bad c v } := by
 have s1 : Step p (.bad c) w V w2 { V with bad := up V.bad c v } := Step.of_grown (r0 := .bad c) (v := V.bad c) (v' := v) h.o hc (by simp) rfl g hn (by show (up V.bad c v c).ownBlock = _; rw [up_at])
  (fun r hr => by cases r <;> first | rfl | (rename_i i; show (up V.bad c v i).ownBlock = _; rw [up_off _ _ (fun e => hr (by rw [e]))]; rfl))
 exact ⟨⟨h.o.st_bad hc (v := v) (l := l) ho s1, h.b.keep (g.block p h.b.lt fun e => absurd (h.o.apart .pool (.bad c) p trivial hc rfl e.symm) (by simp))⟩, s1.turn hc⟩
theorem PoolM.stored (hc : c < 6) {v1 v2 : Value} {l1 : List St} {l2 : List Bool} (h : PoolM w B p { ({ V with pend := up V.pend c v1 } : PV) with bad := up V.bad c v2 } ks { ({ M with pend := up M.pend c l1 } : MV) with bad := up M.bad c l2 } V M) :
  PoolR ((w.setCell ⟨p, 6 + c * 10 + 1, none⟩ v1).setCell ⟨p, 6 + c * 10 + 2, none⟩ v2) B p { ({ V with pend := up V.pend c v1 } : PV) with bad := up V.bad c v2 } ks { ({ M with pend := up M.pend c l1 } : MV) with bad := up M.bad c l2 } ∧
   Turn p w { ({ V with pend := up V.pend c v1 } : PV) with bad := up V.bad c v2 } ((w.setCell ⟨p, 6 + c * 10 + 1, none⟩ v1).setCell ⟨p, 6 + c * 10 + 2, none⟩ v2) { ({ V with pend := up V.pend c v1 } : PV) with bad := up V.bad c v2 } := by
 have s1 := Step.cell (w := w) (V := { ({ V with pend := up V.pend c v1 } : PV) with bad := up V.bad c v2 }) (V' := { ({ V with pend := up V.pend c v1 } : PV) with bad := up V.bad c v2 }) (p := p) v1 (6 + c * 10 + 1) fun _ => rfl
 have o1 := h.o.st_same s1
 have s2 := Step.cell (w := w.setCell ⟨p, 6 + c * 10 + 1, none⟩ v1) (V := { ({ V with pend := up V.pend c v1 } : PV) with bad := up V.bad c v2 }) (V' := { ({ V with pend := up V.pend c v1 } : PV) with bad := up V.bad c v2 }) (p := p) v2 (6 + c * 10 + 2) fun _ => rfl
 exact ⟨⟨o1.st_same s2, ((h.b.set_pend hc v1).set_bad hc v2).same fun _ _ => rfl⟩, (s1.turn trivial).trans (s2.turn trivial)⟩
end
theorem stV_app (l : List St) (x : St) : stV (l ++ [x]) = stV l ++ stV [x] := by unfold stV; rw [List.flatMap_append]
theorem badV_app (l : List Bool) (x : Bool) : badV (l ++ [x]) = badV l ++ badV [x] := by unfold badV; rw [List.map_append]
theorem stmt_info : (Tryz.prog.info? 41).map (fun i => (i.zero, i.size, i.bytes)) = some (some (.agg #[.int .i64 0, .string ⟨#[]⟩, .string ⟨#[]⟩]), 3, 40) := by kernel_rfl
theorem bool_info : (Tryz.prog.info? 4).map (fun i => (i.zero, i.size, i.bytes)) = some (some (.bool false), 1, 1) := by kernel_rfl
end Go.Proofs.YtjbnfigpflambacGreatDoor
/- Helpers for (pool).pump: whole numbers in the pool's slices; the pool between its turns. -/
namespace Go.Proofs.YtjbnfigpflambacGreatDoor
open Go.ChangeShapes Go.WideShapes Go.ChangeAt Go.RowKit
theorem wpList_append_o {P : Program} (w : World) {ops : Array Oper} {rest : List Oper} {o : Oper} {a : Act} {Q : Exit → Act → World → Prop} (hgd : o.guard = none) (s x : Operand) (t : TypeId)
  (ho : o.op = .call { callee := .builtin .append, args := #[s, x], argTypes := #[t, t] })
  (B : Nat) (e : TypeId) (i : TypeInfo) (z : Value) (size bytes : Nat) (ht : P.underlying t = some (.slice e)) (hi : P.info? e = some i) (hz : i.zero = some z)
  (hsize : i.size = size) (hby : i.bytes = bytes) (hzs : z.cells.size = size) (hsz : 0 < size)
  (v : Value) (n : Nat) (xs : List Value) (hs : a.eval s = v) (hown : OwnO w B e size v n xs)
  (D : Nat) (A : Option Addr) (m c : Nat) (news : List Value) (hx : a.eval x = .slice A m c) (hr : Reads w D size A m news) (h1 : ∀ u ∈ news, u.oneCell' = true)
  (h63 : n + m ≤ maxLen) (hbytes : (n + m) * bytes ≤ 140737488355328) (hbase : B ≤ w.heap.size)
  (h : ∀ v' w', OwnO w' B e size v' (n + m) (xs ++ news) → w.grownBy w' v.ownBlock → (v'.ownBlock = v.ownBlock ∨ v'.ownBlock = some w.heap.size) → wpList P ops Q rest (a.put o.dst v') w') : wpList P ops Q (o :: rest) a w :=
 wpList_plain hgd fun _ hK => wp_append_o w s x t ho B e i z size bytes ht hi hz hsize hby hzs hsz v n xs hs hown D A m c news hx hr h1 h63 hbytes hbase fun v' w' a1 a2 a3 => hK _ _ (h v' w' a1 a2 a3)
theorem int_info : (Tryz.prog.info? 3).map (fun i => (i.zero, i.size, i.bytes)) = some (some (.int .i64 0), 1, 8) := by kernel_rfl
def idleI (o : List Int) : Int := match idleF o with | some s => (s : Int) | none => -1
theorem idle_none {o : List Int} (h : idleF o = none) : ∀ j, j < o.length → o.getD j 0 ≠ -1 := fun j hj e => by
 have := List.find?_eq_none.1 h j (List.mem_range.2 hj)
 exact this (by simpa using e)
theorem idx_idle (o : List Int) : Lib.idxOf o (-1) = idleI o := by
 unfold idleI
 cases e : idleF o with
 | none => exact Lib.idxFrom_miss (-1) o 0 (idle_none e)
 | some s =>
  obtain ⟨h1, h2, h3⟩ := find_first e
  have := Lib.idxFrom_hit (-1) o s 0 h1 (by simpa using h2) (fun j hj => by simpa using h3 j hj)
  simpa [Lib.idxOf] using this
section
variable {w : World} {B : Nat} {v : Value}
theorem index_any {l : List Int} (h : OwnO w B 3 1 v l.length (intV l)) (hl : l.length ≤ 1000) :
  Calls Tryz.prog 77 #[v, .int .i64 (-1)] w fun e w' => e = .returned (.int .i64 (idleI l)) ∧ w' = w := by
 rcases Nat.eq_zero_or_pos l.length with h0 | h0
 ·obtain ⟨A, c, rfl, _⟩ := h.form
  have hn : l = [] := List.eq_nil_of_length_eq_zero h0
  subst hn
  rw [← idx_idle]
  exact Tryz.slices_Index_int_empty A c (-1) w
 ·obtain ⟨g, off, cap, rfl, _, hc, _⟩ := h.pos h0
  refine (Tryz.slices_Index_int g off l.length cap l (-1) w (Nat.le_refl _) (by omega) (fun j hj => ?_)).mono ?_
  ·rw [hc j (by omega)]
   unfold intV
   rw [List.getElem?_map, List.getElem?_eq_getElem hj, List.getD_eq_getElem?_getD, List.getElem?_eq_getElem hj]
   rfl
  ·rintro e w' ⟨rfl, rfl⟩
   rw [List.take_length, idx_idle]
   exact ⟨rfl, rfl⟩
theorem contains_map (l : List Nat) (i : Nat) : (l.map fun (j : Nat) => (j : Int)).contains (i : Int) = l.contains i := by
 induction l with
 | nil => rfl
 | cons a l ih =>
  rw [List.map_cons, List.contains_cons, List.contains_cons, ih]
  congr 1
  by_cases h : i = a
  ·subst h; simp
  ·have h2 : ¬ (i : Int) = (a : Int) := by omega
   rw [beq_eq_false_iff_ne.2 h2, beq_eq_false_iff_ne.2 h]
theorem contains_any {l : List Nat} (h : OwnO w B 3 1 v l.length (natV l)) (hl : l.length ≤ 1000) (i : Nat) :
  Calls Tryz.prog 76 #[v, .int .i64 (i : Int)] w fun e w' => e = .returned (.bool (l.contains i)) ∧ w' = w := by
 rcases Nat.eq_zero_or_pos l.length with h0 | h0
 ·obtain ⟨A, c, rfl, _⟩ := h.form
  have hn : l = [] := List.eq_nil_of_length_eq_zero h0
  subst hn
  exact Tryz.slices_Contains_int_empty A c i w
 ·obtain ⟨g, off, cap, rfl, _, hc, _⟩ := h.pos h0
  refine (Tryz.slices_Contains_int g off l.length cap (l.map fun (j : Nat) => (j : Int)) i w (by simp) (by omega) (fun j hj => ?_)).mono ?_
  ·rw [List.length_map] at hj
   rw [hc j (by omega)]
   unfold natV
   rw [List.getElem?_map, List.getElem?_eq_getElem hj, List.getD_eq_getElem?_getD, List.getElem?_map, List.getElem?_eq_getElem hj]
   rfl
  ·rintro e w' ⟨rfl, rfl⟩
   rw [List.take_of_length_le (by simp), contains_map]
   exact ⟨rfl, rfl⟩
end
def PumpL (w wr : World) (B p : Nat) (V : PV) (N : Nat) (z0 : Fr × PB) (k : Nat) : Prop :=
 ∃ (z : Fr × PB) (V' : PV) (ks' : List KV), Ok z N ∧ mu z.1 < k ∧ pumpM poolB z = pumpM poolB z0 ∧ PoolR wr B p V' ks' (MV.of z.1 z.2) ∧ Turn p w V wr V'
def pickI (f : Fr) : Int := match pickF f with | some i => (i : Int) | none => -1
def lineF (f : Fr) (n : Nat) : List Nat := f.wait ++ (List.range n).filter fun i => busy f i && !f.wait.contains i
theorem line_step (f : Fr) (n : Nat) : lineF f (n + 1) = if (busy f n && !f.wait.contains n) = true then lineF f n ++ [n] else lineF f n := by
 unfold lineF
 rw [List.range_succ, List.filter_append]
 by_cases h : (busy f n && !f.wait.contains n) = true
 ·rw [if_pos h]
  simp only [List.filter_cons, h, if_true, List.filter_nil, List.append_assoc]
 ·rw [if_neg h]
  have h' : (busy f n && !f.wait.contains n) = false := by simpa using h
  rw [List.filter_cons, if_neg (by rw [h']; simp), List.filter_nil, List.append_nil]
theorem line_has (f : Fr) (n : Nat) : (lineF f n).contains n = f.wait.contains n := by
 unfold lineF
 rw [Bool.eq_iff_iff, List.contains_iff_mem, List.contains_iff_mem, List.mem_append, List.mem_filter, List.mem_range]
 constructor
 ·rintro (h | ⟨h, _⟩)
  ·exact h
  ·omega
 ·exact Or.inl
theorem line_len {f : Fr} (h : f.wait.length ≤ 6) {n : Nat} (hn : n ≤ 6) : (lineF f n).length ≤ 12 := by
 unfold lineF
 rw [List.length_append]
 have : ((List.range n).filter fun i => busy f i && !f.wait.contains i).length ≤ (List.range n).length := List.length_filter_le _ _
 rw [List.length_range] at this
 omega
theorem PoolR.cut_wait {w : World} {B p : Nat} {V : PV} {ks : List KV} {M : MV} (h : PoolR w B p V ks M) {i : Nat} {l : List Nat} (hX : M.wait = i :: l) {A : Option Addr} {n k : Nat} (e1 : V.wait = .slice A n k) :
  ∃ V', PoolR (w.setCell ⟨p, 66, none⟩ (.slice (if k = 1 then A else A.map (·.add 1)) (n - 1) (k - 1))) B p V' ks { M with wait := l } ∧ Turn p w V (w.setCell ⟨p, 66, none⟩ (.slice (if k = 1 then A else A.map (·.add 1)) (n - 1) (k - 1))) V' := by
 have own : (Value.slice (if k = 1 then A else A.map (·.add 1)) (n - 1) (k - 1)).ownBlock = (Value.slice A n k).ownBlock := by
  split
  ·cases A <;> rfl
  ·cases A with
   | none => rfl
   | some a =>
    show some (a.add 1).block = some a.block
    rw [block_of_add]
 have o1 := h.o.wait
 rw [hX, e1] at o1
 obtain ⟨_, _, en, _⟩ := o1.form
 injection en with _ en _
 subst en
 have c1 := o1.cut (k := 1) (by simp)
 have r1 := h.put_wait (v := .slice (if k = 1 then A else A.map (·.add 1)) ((i :: l).length - 1) (k - 1)) (l := l) (by simpa [natV] using c1) (fun q hq => .inl (by rw [e1, ← hq]; exact own.symm))
 exact ⟨_, r1.1, r1.2⟩
theorem wait0 {w : World} {B : Nat} {A : Option Addr} {n k i : Nat} {l : List Nat} (h : OwnO w B 3 1 (.slice A n k) (i :: l).length (natV (i :: l))) : ∃ g off, A = some ⟨g, off, none⟩ ∧ n = l.length + 1 ∧ n ≤ k ∧ w.cell? ⟨g, off, none⟩ = some (.int .i64 (i : Int)) := by
 obtain ⟨g, off, cap, e, h1, hc, _⟩ := h.pos (by simp)
 injection e with e1 e2 e3
 subst e1 e2 e3
 exact ⟨g, off, rfl, rfl, h1, hc 0 (by simp)⟩
theorem reads_int {w : World} {g : Nat} {i : Int} (h : Blk w g 3 #[.int .i64 i]) : Reads w w.heap.size 1 (some ⟨g, 0, none⟩) 1 [.int .i64 i] := reads_one h rfl
theorem natV_app (l : List Nat) (i : Nat) : natV (l ++ [i]) = natV l ++ [.int .i64 (i : Int)] := by unfold natV; rw [List.map_append]; rfl
end Go.Proofs.YtjbnfigpflambacGreatDoor
/- (pool).pump: its walk. -/
namespace Go.Proofs.YtjbnfigpflambacGreatDoor
open Go.ChangeShapes Go.WideShapes Go.ChangeAt Go.RowKit
set_option maxHeartbeats 8000000 in
set_option maxRecDepth 100000 in
theorem pump_any (w : World) (B p : Nat) (V : PV) (ks : List KV) (f : Fr) (b : PB) (N : Nat) (h : PoolR w B p V ks (MV.of f b)) (hT : TabB w B) (hO : Ok (f, b) N) (hN : N ≤ 1000000) :
  Calls Tryz.prog 44 #[.pointer (some ⟨p, 0, none⟩)] w fun e w' => e = .returned (.tuple #[]) ∧ Done w B p V (MV.of (pumpM poolB (f, b)).1 (pumpM poolB (f, b)).2) w' := by
 have HT := Lib.hid hT
 have HR := Lib.hid h
 have HN := Lib.hid hN
 have HO := Lib.hid hO
 clear h hT hO hN
 obtain ⟨Mz, hMz⟩ : ∃ Mz, MV.of (pumpM poolB (f, b)).1 (pumpM poolB (f, b)).2 = Mz := ⟨_, rfl⟩
 rw [hMz]
 have HMZ := Lib.hid hMz
 clear hMz
 go_enter Tryz.func44, Tryz.ntmps44
 go_wp2_with fail
 go_loopg [] (mu f + 1) (fun k wr => Hid (PumpL w wr B p V N (f, b) k))
 case atStart => exact Lib.hid ⟨(f, b), V, ks, HO.out, Nat.lt_succ_self _, rfl, HR.out, Turn.refl _ _ _⟩
 case round =>
  have HP := Lib.hid hrel.out
  clear hrel
  obtain ⟨⟨z, zb⟩, V1, ks1, o1, m1, e1, r1, t1⟩ := HP.out
  have O1 := Lib.hid o1
  have M1 := Lib.hid m1
  have E1 := Lib.hid e1
  have R1 := Lib.hid r1
  have T1 := Lib.hid t1
  clear o1 m1 e1 r1 t1 HP
  simp only at R1
  go_upto_block 2 with fail
  go_cut [2] (fun c wx => c = .int .i64 (pickI z) ∧ wx = wr)
  case first =>
   go_wp2_with fail
   go_loopw [2, 7] (fun c i wx => ∃ n : Nat, n ≤ 6 ∧ c = .int .i64 (-1) ∧ i = .int .i64 n ∧ wx = wr ∧ Hid (∀ j, j < n → ready z j = false)) (fun _ i _ => 6 - (intOf i).toNat)
   case atStart => exact ⟨0, Nat.zero_le _, rfl, rfl, rfl, Lib.hid (fun j hj => absurd hj (Nat.not_lt_zero _))⟩
   case round =>
    obtain ⟨n, hn, rfl, rfl, rfl, HJ⟩ := hrel
    by_cases h6 : n < 6
    ·have g1 : (n : Int) < 6 := by omega
     have g2 : (0 : Int) ≤ (n : Int) := by omega
     have H6 := Lib.hid h6
     obtain ⟨A1, cap1, e1, _⟩ := (R1.out.o.pend n h6).form
     have x1 : wr.cell? ⟨p, 6 + n * 10 + 1, none⟩ = some (V1.pend n) := R1.out.b.cellC (k := 1) h6 (by decide)
     have x3 : wr.cell? ⟨p, 6 + n * 10 + 3, none⟩ = some (.int .i64 (z.c n).srv) := R1.out.b.cellC (k := 3) h6 (by decide)
     have el : ((MV.of z zb).pend n).length = (z.c n).pend.length := by show ((z.c n).pend.map (·.1)).length = _; rw [List.length_map]
     rw [e1, el] at x1
     clear e1 el
     have next : ready z n = false → Hid (∀ j, j < n + 1 → ready z j = false) := fun hr => Lib.hid fun j hj => by
      rcases Nat.lt_succ_iff_lt_or_eq.1 hj with h | h
      ·exact HJ.out j h
      ·rw [h]; exact hr
     have NX := Lib.hid next
     clear next
     cases ep : (z.c n).pend with
     | nil =>
      have HRD := Lib.hid (show ready z n = false by unfold ready busy; rw [ep]; rfl)
      rw [ep] at x1
      simp only [List.length_nil] at x1
      clear ep
      go_wp2_with fail
      go_roundw
      case rel => exact ⟨n + 1, by omega, by first | rfl | trivial, by go_num, by first | rfl | trivial, NX.out HRD.out⟩
      case measure => simp [intOf]; omega
     | cons q l =>
      obtain ⟨x, y⟩ := q
      have l1 : (0 : Int) < ((l.length + 1 : Nat) : Int) := by omega
      rw [ep] at x1
      simp only [List.length_cons] at x1
      obtain ⟨m, hm⟩ : ∃ m, l.length + 1 = m := ⟨_, rfl⟩
      rw [hm] at x1 l1
      have HBZ := Lib.hid (show busy z n = true by unfold busy; rw [ep]; rfl)
      have HEP := Lib.hid ep
      obtain ⟨sv, hsv⟩ : ∃ s, (z.c n).srv = s := ⟨_, rfl⟩
      rw [hsv] at x3
      have HSV := Lib.hid hsv
      clear hm ep hsv
      by_cases h0 : 0 ≤ sv
      ·have HPK := Lib.hid (show pickI z = (n : Int) by
        unfold pickI pickF
        rw [find_here H6.out (by unfold ready; rw [HBZ.out, HSV.out]; simp [h0]) HJ.out])
       go_wp2_with fail
       go_meet
       exact ⟨by rw [HPK.out], by first | rfl | trivial⟩
      ·have h1 : sv < 0 := by omega
       obtain ⟨nb, hnb⟩ : ∃ nb, needsB z.mode x.k y = nb := ⟨_, rfl⟩
       have HND := Lib.hid (show needs z n = nb by unfold needs; rw [HEP.out]; exact hnb)
       have HNB := Lib.hid hnb
       clear hnb
       go_wp2_with fail
       refine (needs_any _ B p V1 ks1 _ R1.out n H6.out x (l.map (·.1)) (by show (z.c n).pend.map (·.1) = _; rw [HEP.out]; rfl) y (l.map (·.2)) (by show (z.c n).pend.map (·.2) = _; rw [HEP.out]; rfl)).mono ?_
       rintro e w3 ⟨rfl, rfl⟩
       rw [show needsB (MV.of z zb).mode x.k y = nb from HNB.out]
       cases nb with
       | true =>
        have HRD := Lib.hid (show ready z n = false by unfold ready; rw [HND.out, HSV.out]; simp [h0])
        go_wp2_with fail
        go_roundw
        case rel => exact ⟨n + 1, by omega, by first | rfl | trivial, by go_num, by first | rfl | trivial, NX.out HRD.out⟩
        case measure => simp [intOf]; omega
       | false =>
        have HPK := Lib.hid (show pickI z = (n : Int) by
         unfold pickI pickF
         rw [find_here H6.out (by unfold ready; rw [HBZ.out, HND.out]; simp) HJ.out])
        go_wp2_with fail
        go_meet
        exact ⟨by rw [HPK.out], by first | rfl | trivial⟩
    ·have g1 : (6 : Int) ≤ (n : Int) := by omega
     have HPK := Lib.hid (show pickI z = -1 by
      unfold pickI pickF
      rw [find_no (fun j hj => HJ.out j (by omega))])
     go_wp2_with fail
     go_meet
     exact ⟨by rw [HPK.out], by first | rfl | trivial⟩
  case rest =>
   obtain ⟨rfl, rfl⟩ := hcut
   cases hp : pickF z with
   | some i =>
    have hpi : pickI z = (i : Int) := by unfold pickI; rw [hp]
    obtain ⟨hrd, hi⟩ := pick_ready hp
    have HP := Lib.hid hp
    have HI := Lib.hid hi
    have HRD := Lib.hid hrd
    have g2 : (0 : Int) ≤ (i : Int) := by omega
    rw [hpi]
    clear hp hpi hrd hi
    go_wp2_with fail
    refine (next_any _ B p V1 ks1 z zb N R1.out (HT.out.turn HR.out.o T1.out) O1.out HN.out i HI.out HRD.out).mono ?_
    rintro e w3 ⟨rfl, ⟨V2, ks2, r2, t2⟩⟩
    have hmu := step_mu poolB (z, zb) (by rw [step_next poolB (z, zb) HP.out])
    have hgo := pump_go poolB (z, zb) (by rw [step_next poolB (z, zb) HP.out])
    rw [step_next poolB (z, zb) HP.out] at hmu hgo
    simp only at hmu hgo
    have HF := Lib.hid (show PumpL w w3 B p V N (f, b) (mu z) from ⟨_, V2, ks2, O1.out.next HI.out HRD.out, hmu, by rw [← hgo]; exact E1.out, r2, T1.out.trans t2⟩)
    clear hmu hgo r2 t2
    go_wp2_with fail
    go_roundg (mu z)
    case measure => exact M1.out
    case rel => exact HF
   | none =>
    have hpi : pickI z = -1 := by unfold pickI; rw [hp]
    have HP := Lib.hid hp
    rw [hpi]
    clear hp hpi
    go_upto_block 4 with fail
    go_cut [] (fun wx => ∃ V2 ks2, PoolR wx B p V2 ks2 (MV.of (queueF z) zb) ∧ Turn p w V wx V2)
    case first =>
     go_wp2_with fail
     go_loopw [41] (fun i wx => ∃ n : Nat, n ≤ 6 ∧ i = .int .i64 n ∧ Hid (∃ V2 ks2, PoolR wx B p V2 ks2 { MV.of z zb with wait := lineF z n } ∧ Turn p w V wx V2)) (fun i _ => 6 - (intOf i).toNat)
     case atStart => exact ⟨0, Nat.zero_le _, rfl, Lib.hid ⟨V1, ks1, by rw [show lineF z 0 = z.wait by unfold lineF; simp]; exact R1.out, T1.out⟩⟩
     case round =>
      obtain ⟨n, hn, rfl, HL⟩ := hrel
      by_cases h6 : n < 6
      ·have g1 : (n : Int) < 6 := by omega
       have g2 : (0 : Int) ≤ (n : Int) := by omega
       have H6 := Lib.hid h6
       obtain ⟨V2, ks2, r2, t2⟩ := HL.out
       obtain ⟨A1, cap1, e1, _⟩ := (r2.o.pend n h6).form
       have x1 : wr.cell? ⟨p, 6 + n * 10 + 1, none⟩ = some (V2.pend n) := r2.b.cellC (k := 1) h6 (by decide)
       have el : ((MV.of z zb).pend n).length = (z.c n).pend.length := by show ((z.c n).pend.map (·.1)).length = _; rw [List.length_map]
       have e1 : V2.pend n = .slice A1 ((MV.of z zb).pend n).length cap1 := e1
       rw [e1, el] at x1
       clear e1 el
       have hst := line_step z n
       have hhas := line_has z n
       have hlen := line_len O1.out.fi.few (Nat.le_of_lt h6)
       obtain ⟨A2, cap2, e2, _⟩ := r2.o.wait.form
       have x66 : wr.cell? ⟨p, 66, none⟩ = some V2.wait := r2.b.cell (j := 66) (by decide)
       have HST := Lib.hid hst
       have HHAS := Lib.hid hhas
       have HLEN := Lib.hid hlen
       have E2 := Lib.hid (show V2.wait = .slice A2 (lineF z n).length cap2 from e2)
       rw [show V2.wait = .slice A2 (lineF z n).length cap2 from e2] at x66
       have R2 := Lib.hid r2
       have T2 := Lib.hid t2
       have fp := r2.b.frozen
       clear e2 r2 t2 hst hhas hlen HL
       obtain ⟨k, hk⟩ : ∃ k, (z.c n).pend.length = k := ⟨_, rfl⟩
       rw [hk] at x1
       have HK := Lib.hid (show busy z n = decide (0 < k) by
        unfold busy
        rw [← hk]
        cases (z.c n).pend with
        | nil => rfl
        | cons _ _ => simp)
       clear hk
       rcases Nat.eq_zero_or_pos k with hk0 | hk0
       ·subst hk0
        have HF := Lib.hid (show lineF z (n + 1) = lineF z n by rw [HST.out, if_neg (by rw [HK.out]; simp)])
        go_wp2_with fail
        go_roundw
        case rel => exact ⟨n + 1, by omega, by go_num, Lib.hid ⟨V2, ks2, by rw [HF.out]; exact R2.out, T2.out⟩⟩
        case measure => simp [intOf]; omega
       ·have k1 : (0 : Int) < (k : Int) := by omega
        have HB := Lib.hid (show busy z n = true by rw [HK.out]; simp [hk0])
        have HW := Lib.hid R2.out.o.wait
        rw [E2.out] at HW
        obtain ⟨L, hL⟩ : ∃ L, lineF z n = L := ⟨_, rfl⟩
        have HLL := Lib.hid hL
        rw [hL] at HW x66 HLEN HHAS E2
        obtain ⟨nl, hnl⟩ : ∃ m, L.length = m := ⟨_, rfl⟩
        have HNL := Lib.hid hnl
        rw [hnl] at x66
        obtain ⟨hb, hhb⟩ : ∃ b, L.contains n = b := ⟨_, rfl⟩
        have HHB := Lib.hid hhb
        clear hL hnl hhb HK
        go_wp2_with fail
        have hc := contains_any HW.out (by have := HLEN.out; omega) n
        rw [HNL.out] at hc
        refine hc.mono ?_
        clear hc
        rintro e w3 ⟨rfl, rfl⟩
        rw [HHB.out]
        have hbw : z.wait.contains n = hb := by rw [← HHAS.out]; exact HHB.out
        have HBW := Lib.hid hbw
        clear hbw
        cases hb with
        | true =>
         have HF := Lib.hid (show lineF z (n + 1) = L by rw [HST.out, if_neg (by rw [HBW.out]; simp)]; exact HLL.out)
         go_wp2_with fail
         go_roundw
         case rel => exact ⟨n + 1, by omega, by go_num, Lib.hid ⟨V2, ks2, by rw [HF.out, ← HLL.out]; exact R2.out, T2.out⟩⟩
         case measure => simp [intOf]; omega
        | false =>
         have HF := Lib.hid (show lineF z (n + 1) = L ++ [n] by rw [HST.out, if_pos (by rw [HB.out, HBW.out]; rfl), HLL.out])
         go_upto_region 14 with fail
         obtain ⟨i0, hi0, hz0, hz1, hz2⟩ := info_parts int_info
         have D := Blk.new w3 3 #[.int .i64 (n : Int)]
         have R3 := Lib.hid (R2.out.below (boxed w3 (.cells #[.int .i64 (n : Int)] 3)))
         have T3 := Lib.hid (T2.out.below (boxed w3 (.cells #[.int .i64 (n : Int)] 3)))
         have ho3 := R3.out.o.wait
         simp only at ho3
         rw [HLL.out, HNL.out, E2.out, HNL.out] at ho3
         have HO3 := Lib.hid ho3
         have HD := Lib.hid D
         have HB3 := Lib.hid (Nat.le_of_lt (Nat.lt_of_le_of_lt R3.out.o.lb R3.out.b.lt))
         have HNB := Lib.hid (show nl ≤ 12 by rw [← HNL.out]; exact HLEN.out)
         clear ho3 D
         go_wp2_with (at_builtin; refine wpList_append_o _ rfl _ _ 87 rfl B 3 i0 _ 1 8 Tryz.underlying87 hi0 hz0 hz1 hz2 rfl (by decide) (.slice A2 nl cap2) nl (natV L) rfl HO3.out _ (some ⟨w3.heap.size, 0, none⟩) 1 1 [.int .i64 (n : Int)] rfl (reads_int HD.out) (by intro u hu; simp only [List.mem_cons, List.not_mem_nil, or_false] at hu; subst hu; rfl) (le_maxLen (by have := HNB.out; omega)) (by have := HNB.out; omega) HB3.out ?_)
         intro v' w4 ho hg hn'
         obtain ⟨A7, k7, e7, _⟩ := ho.form
         have ap := R3.out.app_wait (v := v') (l := L ++ [n]) (by rw [List.length_append, natV_app, HNL.out]; exact ho) (by rw [E2.out, HNL.out]; exact hg) (by rw [E2.out, HNL.out, show (w3.alloc (.cells #[.int .i64 (n : Int)] 3)).heap.size = w3.heap.size + 1 by simp]; exact hn')
         obtain ⟨r7, t7, y6, fp, -⟩ := ap
         rw [E2.out, HNL.out] at y6
         have S7 := Lib.hid (show ∃ V2 ks2, PoolR (w4.setCell ⟨p, 66, none⟩ v') B p V2 ks2 { MV.of z zb with wait := lineF z (n + 1) } ∧ Turn p w V (w4.setCell ⟨p, 66, none⟩ v') V2 from ⟨_, _, by rw [HF.out]; exact r7, T3.out.trans t7⟩)
         subst e7
         clear r7 t7 ho hg hn' R3 T3 HD HO3 HB3 hi0 hz0 hz1 hz2
         go_wp2_with fail
         generalize World.setCell _ _ _ = w5 at S7 ⊢
         go_wp2_with fail
         go_roundw
         case rel => exact ⟨n + 1, by omega, by go_num, Lib.hid S7.out⟩
         case measure => simp [intOf]; omega
      ·have g1 : (6 : Int) ≤ (n : Int) := by omega
       have HF := Lib.hid (show ∃ V2 ks2, PoolR wr B p V2 ks2 (MV.of (queueF z) zb) ∧ Turn p w V wr V2 by
        obtain rfl : n = 6 := by omega
        exact HL.out)
       go_wp2_with fail
       go_meet
       exact HF.out
    case rest =>
     obtain ⟨V2, ks2, r2, t2⟩ := hcut
     have R2 := Lib.hid r2
     have T2 := Lib.hid t2
     have OQ := Lib.hid O1.out.fi.few
     have y2 : wc.cell? ⟨p, 4, none⟩ = some V2.owner := r2.b.cell (j := 4) (by decide)
     have y66 : wc.cell? ⟨p, 66, none⟩ = some V2.wait := r2.b.cell (j := 66) (by decide)
     have fp := r2.b.frozen
     have ho := r2.o.owner
     have hw := r2.o.wait
     obtain ⟨Ao, co, eo, _⟩ := ho.form
     obtain ⟨Aw, cw, ew, hwc⟩ := hw.form
     have ew : V2.wait = .slice Aw (queueF z).wait.length cw := ew
     have eo : V2.owner = .slice Ao z.owner.length co := eo
     rw [eo] at y2 ho
     rw [ew] at y66 hw
     have HO2 := Lib.hid (show OwnO wc B 3 1 (.slice Ao z.owner.length co) z.owner.length (intV z.owner) from ho)
     have EW := Lib.hid ew
     have h8 : z.owner.length ≤ 1000 := by
      obtain ⟨_, rb⟩ := O1.out.rb
      have h1 := rb.ses
      have h2 := rb.good.few
      simp only at h1 h2
      omega
     have H8 := Lib.hid h8
     have HL := Lib.hid (line_len O1.out.fi.few (Nat.le_refl 6))
     clear r2 t2 ho eo ew h8
     obtain ⟨no, hno⟩ : ∃ n, z.owner.length = n := ⟨_, rfl⟩
     have HNO := Lib.hid hno
     rw [hno] at y2
     obtain ⟨ii, hii⟩ : ∃ i, idleI z.owner = i := ⟨_, rfl⟩
     have HII := Lib.hid hii
     clear hno hii
     cases hl : (queueF z).wait with
     | nil =>
      rw [hl] at y66
      simp only [List.length_nil] at y66
      have HLN := Lib.hid hl
      clear hw hwc hl
      go_wp2_with fail
      have hx := index_any HO2.out H8.out
      rw [HNO.out, HII.out] at hx
      refine hx.mono ?_
      clear hx
      rintro e w3 ⟨rfl, rfl⟩
      have HE := Lib.hid (show Mz = MV.of (queueF z) zb by
       have hs := step_stop poolB (z, zb) HP.out (.inl HLN.out)
       have he := pump_end poolB (z, zb) (by rw [hs])
       rw [hs] at he
       rw [← HMZ.out, ← E1.out, he])
      go_wp2_with fail
      refine bodyPost_ret (results_none rfl _ _ _) rfl ⟨rfl, ?_⟩
      rw [HE.out]
      exact ⟨V2, ks2, R2.out, T2.out⟩
     | cons i l =>
      rw [hl] at y66
      have HLN := Lib.hid hl
      have ew2 := EW.out
      rw [hl] at ew2
      have EW2 := Lib.hid ew2
      have hw2 : OwnO wc B 3 1 (.slice Aw (queueF z).wait.length cw) (queueF z).wait.length (natV (queueF z).wait) := hw
      rw [hl] at hw2
      have HW := Lib.hid hw2
      clear ew2 hw2
      obtain ⟨g, off, rfl, en, hk, x0⟩ := wait0 HW.out
      have hi := ((O1.out.fi.queue HP.out).wait i (by rw [hl]; exact List.mem_cons_self)).1
      have HI := Lib.hid hi
      clear hw hwc hl EW en hi
      obtain ⟨nw, hnw⟩ : ∃ n, (i :: l).length = n := ⟨_, rfl⟩
      have hn1 : (1 : Int) ≤ (nw : Int) := by rw [← hnw]; simp; omega
      have hn2 : (nw : Int) ≤ (cw : Int) := by rw [← hnw]; omega
      have hn3 : (0 : Int) < (nw : Int) := by omega
      have hn4 : ¬ nw = 0 := by omega
      have hn5 : ((nw : Int) == 0) = false := by simp; omega
      have hn6 : (nw == 0) = false := by simp; omega
      rw [hnw] at y66
      have HNW := Lib.hid hnw
      clear hnw hk
      cases hid : idleF z.owner with
      | none =>
       have e2 : ii = -1 := by rw [← HII.out]; unfold idleI; rw [hid]
       subst e2
       have HID := Lib.hid hid
       clear hid
       go_wp2_with fail
       have hx := index_any HO2.out H8.out
       rw [HNO.out, HII.out] at hx
       refine hx.mono ?_
       clear hx
       rintro e w3 ⟨rfl, rfl⟩
       have HE := Lib.hid (show Mz = MV.of (queueF z) zb by
        have hs := step_stop poolB (z, zb) HP.out (.inr HID.out)
        have he := pump_end poolB (z, zb) (by rw [hs])
        rw [hs] at he
        rw [← HMZ.out, ← E1.out, he])
       go_wp2_with fail
       refine bodyPost_ret (results_none rfl _ _ _) rfl ⟨rfl, ?_⟩
       rw [HE.out]
       exact ⟨V2, ks2, R2.out, T2.out⟩
      | some s =>
       have e2 : ii = (s : Int) := by rw [← HII.out]; unfold idleI; rw [hid]
       subst e2
       have HID := Lib.hid hid
       have hs0 : (0 : Int) ≤ (s : Int) := by omega
       clear hid
       go_wp2_with fail
       have hx := index_any HO2.out H8.out
       rw [HNO.out, HII.out] at hx
       refine hx.mono ?_
       clear hx
       rintro e w3 ⟨rfl, rfl⟩
       go_upto_region 19 with fail
       go_cut [] (fun wx => ∃ V3 ks3, PoolR wx B p V3 ks3 (MV.of (queueF z).unwait zb) ∧ Turn p w V wx V3)
       case first =>
        obtain ⟨V3, r3, t3⟩ := R2.out.cut_wait (show (MV.of (queueF z) zb).wait = i :: l from HLN.out) EW2.out
        rw [HNW.out] at r3 t3
        have e9 : ({ MV.of (queueF z) zb with wait := l } : MV) = MV.of (queueF z).unwait zb := by
         unfold MV.of Fr.unwait
         simp only
         rw [HLN.out]
         rfl
        rw [e9] at r3
        by_cases k1 : cw = 1
        ·simp only [k1, ↓reduceIte, Nat.sub_self] at r3 t3
         have R3 := Lib.hid r3
         have T3 := Lib.hid t3
         clear r3 t3 e9
         go_wp2_with fail
         go_meet
         exact ⟨V3, ks2, R3.out, T2.out.trans T3.out⟩
        ·simp only [k1, ↓reduceIte, Option.map_some, Addr.add_lit] at r3 t3
         have R3 := Lib.hid r3
         have T3 := Lib.hid t3
         clear r3 t3 e9
         go_wp2_with fail
         go_meet
         exact ⟨V3, ks2, R3.out, T2.out.trans T3.out⟩
       case rest =>
        obtain ⟨V3, ks3, r3, t3⟩ := hcut
        have R3 := Lib.hid r3
        have T3 := Lib.hid t3
        have hsl := (idle_at HID.out).1
        obtain ⟨_, rb⟩ := O1.out.rb
        have hkn := rb.kn
        have hgd := rb.good.few
        simp only at hkn hgd
        have HB := Lib.hid (show s < zb.known.length ∧ s < z.owner.length ∧ zb.w.ses.length ≤ 1000 ∧ s ≤ 1000 from ⟨by omega, hsl, by omega, by have := H8.out; omega⟩)
        clear r3 t3 hsl rb hkn hgd y2 y66 x0 fp
        go_wp2_with fail
        refine (bind_any _ B p V3 ks3 _ R3.out (HT.out.turn HR.out.o T3.out) i s HI.out HB.out.1 HB.out.2.1 HB.out.2.2.1 HB.out.2.2.2).mono ?_
        rintro e w5 ⟨rfl, ⟨V4, ks4, r4, t4⟩⟩
        have hst := step_bind poolB (z, zb) HP.out HLN.out HID.out
        have hmu := step_mu poolB (z, zb) (by rw [hst])
        have hgo := pump_go poolB (z, zb) (by rw [hst])
        have hok := O1.out.step
        rw [hst] at hmu hgo hok
        simp only at hmu hgo hok
        rw [← of_bind (f := (queueF z).unwait) (b := zb) (c := i) (O1.out.len HI.out) s] at r4
        have HF := Lib.hid (show PumpL w w5 B p V N (f, b) (mu z) from ⟨_, V4, ks4, hok, hmu, by rw [← hgo]; exact E1.out, r4, T3.out.trans t4⟩)
        clear hst hmu hgo hok r4 t4
        go_wp2_with fail
        go_roundg (mu z)
        case measure => exact M1.out
        case rel => exact HF
end Go.Proofs.YtjbnfigpflambacGreatDoor
