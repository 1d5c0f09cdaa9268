/- slices.DeleteFunc of one client in the pool's line. (pool).close: its walk. -/
import Derived.Test.YtjbnfigpflambacGreatDoorG24
import Derived.Test.YtjbnfigpflambacGreatDoorG26
import Derived.Test.YtjbnfigpflambacGreatDoorG29
import Derived.Lib.SliceRun
import Derived.Deep.CutBlock
/- slices.DeleteFunc of one client in the pool's line. -/
namespace Go.Proofs.YtjbnfigpflambacGreatDoor
open Go.ChangeShapes Go.WideShapes Go.ChangeAt Go.RowKit
def cloV (q : Nat) : Value := .func (.func 73) #[] #[.pointer (some ⟨q, 0, none⟩)]
theorem clo_any (i c : Int) (q : Nat) (w : World) (h : w.cell? ⟨q, 0, none⟩ = some (.int .i64 c)) :
  Calls Tryz.prog 73 #[.int .i64 i, .pointer (some ⟨q, 0, none⟩)] w fun e w' => e = .returned (.bool (i == c)) ∧ w' = w := by
 go_enter Tryz.func73, Tryz.ntmps73
 go_wp2_with fail
 go_ret
 exact ⟨rfl, rfl⟩
def posI (l : List Nat) (c : Nat) : Int := match (List.range l.length).find? (fun j => decide (l.getD j 0 = c)) with | some i => (i : Int) | none => -1
theorem natV_at {l : List Nat} {j : Nat} (h : j < l.length) : (natV l)[j]? = some (.int .i64 ((l.getD j 0 : Nat) : Int)) := by
 unfold natV
 rw [List.getElem?_map, List.getElem?_eq_getElem h, List.getD_eq_getElem?_getD, List.getElem?_eq_getElem h]
 rfl
theorem nat_eqI (a c : Nat) : ((a : Int) == (c : Int)) = decide (a = c) := by
 by_cases h : a = c
 ·subst h; simp
 ·have : ¬ (a : Int) = (c : Int) := by omega
  simp [h, this]
set_option maxHeartbeats 2000000 in
set_option maxRecDepth 100000 in
theorem idxf_any (w : World) (A : Option Addr) (n k : Nat) (l : List Nat) (c q : Nat) (h : Reads w w.heap.size 1 A n (natV l)) (hn : l.length = n) (hl : n ≤ 1000) (hq : w.cell? ⟨q, 0, none⟩ = some (.int .i64 (c : Int))) :
  Calls Tryz.prog 103 #[.slice A n k, cloV q] w fun e w' => e = .returned (.int .i64 (posI l c)) ∧ w' = w := by
 have HR := Lib.hid h
 have HN := Lib.hid hn
 have HL := Lib.hid hl
 obtain ⟨z, hz⟩ : ∃ z, posI l c = z := ⟨_, rfl⟩
 rw [hz]
 have HZ := Lib.hid hz
 clear h hn hz
 unfold cloV
 go_enter Tryz.func103, Tryz.ntmps103
 go_wp2_with fail
 go_loopw [8] (fun i wx => ∃ m : Nat, m ≤ n ∧ i = .int .i64 m ∧ wx = w ∧ Hid (∀ j, j < m → l.getD j 0 ≠ c)) (fun i _ => n - (intOf i).toNat)
 case atStart => exact ⟨0, Nat.zero_le _, rfl, rfl, Lib.hid (fun j hj => absurd hj (Nat.not_lt_zero _))⟩
 case round =>
  obtain ⟨m, hm, rfl, rfl, HJ⟩ := hrel
  by_cases hlt : m < n
  ·have g1 : (m : Int) < (n : Int) := by omega
   have g2 : (0 : Int) ≤ (m : Int) := by omega
   have hml : m < l.length := by rw [HN.out]; exact hlt
   obtain ⟨ad, hA, _, hcell⟩ := HR.out.2 (by omega)
   have hc := hcell m _ (natV_at hml)
   subst hA
   obtain ⟨a, ha⟩ : ∃ a, l.getD m 0 = a := ⟨_, rfl⟩
   rw [ha] at hc
   have HA := Lib.hid ha
   have HM := Lib.hid hml
   have ie := nat_eqI a c
   have IE := Lib.hid ie
   clear hcell ha ie hml
   go_wp2_with fail
   refine (clo_any a c q _ hq).mono ?_
   rintro e w1 ⟨rfl, rfl⟩
   rw [IE.out]
   by_cases hac : a = c
   ·have HF := Lib.hid (show z = (m : Int) by
     rw [← HZ.out]
     unfold posI
     rw [find_here HM.out (by rw [HA.out]; simp [hac]) (fun j hj => by simpa using HJ.out j hj)])
    have e1 : decide (a = c) = true := by simpa using hac
    rw [e1]
    go_wp2_with fail
    go_ret
    rw [HF.out]
    exact ⟨rfl, rfl⟩
   ·have e1 : decide (a = c) = false := by simpa using hac
    have HF := Lib.hid (show ∀ j, j < m + 1 → l.getD j 0 ≠ c by
     intro j hj
     rcases Nat.lt_succ_iff_lt_or_eq.1 hj with h | h
     ·exact HJ.out j h
     ·rw [h, HA.out]; exact hac)
    rw [e1]
    go_wp2_with fail
    go_roundw
    case rel => exact ⟨m + 1, by omega, by go_num, by first | rfl | trivial, Lib.hid HF.out⟩
    case measure => simp [intOf]; omega
  ·have g1 : (n : Int) ≤ (m : Int) := by omega
   have HF := Lib.hid (show z = -1 by
    rw [← HZ.out]
    unfold posI
    rw [List.find?_eq_none.2 (fun j hj => by simpa using HJ.out j (by have := List.mem_range.1 hj; rw [HN.out] at this; omega))])
   go_wp2_with fail
   go_ret
   rw [HF.out]
   exact ⟨rfl, rfl⟩
theorem OwnO.setCells {B : Nat} {e : TypeId} {g off k cap : Nat} {xs : List Value} : ∀ (vs : List Value) (o : Nat) {w : World}, off + k ≤ o → OwnO w B e 1 (.slice (some ⟨g, off, none⟩) k cap) k xs → OwnO (w.setCells g o vs) B e 1 (.slice (some ⟨g, off, none⟩) k cap) k xs
 | [], _, _, _, h => h
 | v :: vs, o, w, ho, h => by
  have h1 := h.put (o - off) v
  rw [List.set_eq_of_length_le (by rw [h.1]; omega), show off + (o - off) = o by omega] at h1
  exact OwnO.setCells vs (o + 1) (by omega) h1
theorem OwnO.front {w : World} {B : Nat} {e : TypeId} {g off n cap : Nat} {xs : List Value} (h : OwnO w B e 1 (.slice (some ⟨g, off, none⟩) n cap) n xs) {k : Nat} (hk : k ≤ n) : OwnO w B e 1 (.slice (some ⟨g, off, none⟩) k cap) k (xs.take k) := by
 have hl := h.1
 refine ⟨by rw [List.length_take]; omega, ?_⟩
 rcases h.2 with ⟨e0, _⟩ | ⟨g', off', cap', cur, e0, hB, hg, hn, hm, hc, hx⟩
 ·cases e0
 ·injection e0 with e1 e2 e3
  injection e1 with e1
  injection e1 with e1 e4
  subst e1 e3 e4
  refine .inr ⟨g, off, cap, cur, rfl, hB, hg, by omega, hm, hc, ?_⟩
  rw [← hx, List.take_take]
  congr 1
  omega
theorem grown_store {w wx : World} {g : Nat} (h : w.grownBy wx (some g)) (j : Nat) (u : Value) : w.grownBy (wx.setCell ⟨g, j, none⟩ u) (some g) :=
 ⟨h.os, h.tape, h.output, by simpa [World.setCell] using h.size, fun k hk hne => (Below.heap_setCell wx ⟨g, j, none⟩ u k (fun e => hne (by rw [e]))).trans (h.block k hk hne)⟩
theorem grown_stores {w : World} {g : Nat} : ∀ (vs : List Value) (o : Nat) {wx : World}, w.grownBy wx (some g) → w.grownBy (wx.setCells g o vs) (some g)
 | [], _, _, h => h
 | v :: vs, o, _, h => grown_stores vs (o + 1) (grown_store h o v)
def dropC (l : List Nat) (c : Nat) : List Nat := l.filter fun j => !decide (j = c)
structure DelS (w wx : World) (B : Nat) (g off cap : Nat) (l : List Nat) (c i j : Nat) : Prop where
 own : ∃ Y : List Nat, OwnO wx B 3 1 (.slice (some ⟨g, off, none⟩) l.length cap) l.length (natV (dropC (l.take j) c ++ Y ++ l.drop j)) ∧ Y.length = j - i
 len : (dropC (l.take j) c).length = i
 gr : w.grownBy wx (some g)
theorem drop_step {l : List Nat} {c j : Nat} (hj : j < l.length) : dropC (l.take (j + 1)) c = if l.getD j 0 = c then dropC (l.take j) c else dropC (l.take j) c ++ [l.getD j 0] := by
 unfold dropC
 rw [List.take_succ_eq_append_getElem hj, List.filter_append, List.getD_eq_getElem?_getD, List.getElem?_eq_getElem hj, Option.getD_some]
 by_cases h : l[j] = c
 ·rw [if_pos h]
  simp [h]
 ·rw [if_neg h]
  simp [h]
theorem drop_none {l : List Nat} {c j : Nat} (h : ∀ k, k < j → l.getD k 0 ≠ c) : dropC (l.take j) c = l.take j := by
 unfold dropC
 rw [List.filter_eq_self]
 intro a ha
 obtain ⟨k, hk, rfl⟩ := List.getElem_of_mem ha
 rw [List.length_take] at hk
 have := h k (by omega)
 rw [List.getD_eq_getElem?_getD, List.getElem?_eq_getElem (by omega)] at this
 rw [List.getElem_take]
 simpa using this
section
variable {w wx : World} {B g off cap c i j : Nat} {l : List Nat}
theorem DelS.lt (h : DelS w wx B g off cap l c i j) (hij : i < j) (hj : j < l.length) : wx.cell? ⟨g, off + j, none⟩ = some (.int .i64 ((l.getD j 0 : Nat) : Int)) ∧ ∃ u, wx.cell? ⟨g, off + i, none⟩ = some u := by
 obtain ⟨Y, o, hy⟩ := h.own
 have hl := h.len
 obtain ⟨g', off', cap', e, _, hc, _⟩ := o.pos (by omega)
 injection e with e1 e2 e3
 injection e1 with e1
 injection e1 with e1 e4
 subst e1 e4
 refine ⟨?_, ?_⟩
 ·rw [hc j (by omega)]
  unfold natV
  rw [List.getElem?_map, List.getElem?_append_right (by rw [List.length_append]; omega), List.length_append, hl, hy, show j - (i + (j - i)) = 0 by omega, List.getElem?_drop, Nat.add_zero, List.getElem?_eq_getElem hj, List.getD_eq_getElem?_getD, List.getElem?_eq_getElem hj]
  rfl
 ·have hn : i < (natV (dropC (l.take j) c ++ Y ++ l.drop j)).length := by rw [o.1]; omega
  rw [hc i (by omega)]
  exact ⟨_, List.getElem?_eq_getElem hn⟩
theorem DelS.frozen (h : DelS w wx B g off cap l c i j) (hj : 0 < l.length) (k : Nat) : wx.frozen? ⟨g, k, none⟩ = false := by
 obtain ⟨Y, o, hy⟩ := h.own
 obtain ⟨g', off', cap', e, _, _, hf⟩ := o.pos hj
 injection e with e1 e2 e3
 injection e1 with e1
 injection e1 with e1 e4
 subst e1 e4
 exact hf k
theorem DelS.skip (h : DelS w wx B g off cap l c i j) (hij : i < j) (hj : j < l.length) (hc : l.getD j 0 = c) : DelS w wx B g off cap l c i (j + 1) := by
 obtain ⟨Y, o, hy⟩ := h.own
 have e := drop_step (c := c) hj
 rw [if_pos hc] at e
 refine ⟨⟨Y ++ [l[j]], ?_, by rw [List.length_append, hy]; simp; omega⟩, by rw [e]; exact h.len, h.gr⟩
 rw [e]
 have ed : l.drop j = l[j] :: l.drop (j + 1) := List.drop_eq_getElem_cons hj
 rw [ed] at o
 simpa using o
theorem DelS.keep (h : DelS w wx B g off cap l c i j) (hij : i < j) (hj : j < l.length) (hc : l.getD j 0 ≠ c) : DelS w (wx.setCell ⟨g, off + i, none⟩ (.int .i64 ((l.getD j 0 : Nat) : Int))) B g off cap l c (i + 1) (j + 1) := by
 obtain ⟨Y, o, hy⟩ := h.own
 have e := drop_step (c := c) hj
 rw [if_neg hc] at e
 have hl := h.len
 obtain ⟨a, Z, rfl⟩ : ∃ a Z, Y = a :: Z := by
  cases Y with
  | nil => simp at hy; omega
  | cons a Z => exact ⟨a, Z, rfl⟩
 have hz : Z.length + 1 = j - i := hy
 refine ⟨⟨Z ++ [l[j]], ?_, by rw [List.length_append]; simp; omega⟩, by rw [e, List.length_append, hl]; rfl, grown_store h.gr _ _⟩
 have o1 := o.put i (.int .i64 ((l.getD j 0 : Nat) : Int))
 rw [e]
 have ed : l.drop j = l[j] :: l.drop (j + 1) := List.drop_eq_getElem_cons hj
 have hs : (natV (dropC (l.take j) c ++ a :: Z ++ l.drop j)).set i (.int .i64 ((l.getD j 0 : Nat) : Int)) = natV (dropC (l.take j) c ++ [l.getD j 0] ++ (Z ++ [l[j]]) ++ l.drop (j + 1)) := by
  unfold natV
  rw [← List.map_set (f := fun (i : Nat) => Value.int .i64 (i : Int)) (a := l.getD j 0), ed]
  congr 1
  rw [List.append_assoc, List.set_append_right _ _ (by omega), hl, Nat.sub_self]
  simp
 rw [hs] at o1
 exact o1
end
theorem posI_none {l : List Nat} {c : Nat} (h : posI l c = -1) : dropC l c = l := by
 unfold posI at h
 cases e : (List.range l.length).find? (fun j => decide (l.getD j 0 = c)) with
 | some i => rw [e] at h; simp only at h; omega
 | none =>
  have := drop_none (l := l) (c := c) (j := l.length) (fun k hk => by simpa using List.find?_eq_none.1 e k (List.mem_range.2 hk))
  rwa [List.take_length] at this
theorem posI_some {l : List Nat} {c : Nat} (h : posI l c ≠ -1) : ∃ i : Nat, posI l c = (i : Int) ∧ i < l.length ∧ l.getD i 0 = c ∧ ∀ j, j < i → l.getD j 0 ≠ c := by
 unfold posI at h ⊢
 cases e : (List.range l.length).find? (fun j => decide (l.getD j 0 = c)) with
 | none => rw [e] at h; exact absurd rfl h
 | some i =>
  obtain ⟨h1, h2, h3⟩ := find_first e
  exact ⟨i, rfl, h1, by simpa using h2, fun j hj => by simpa using h3 j hj⟩
set_option maxHeartbeats 4000000 in
set_option maxRecDepth 100000 in
theorem delf_any (w : World) (B : Nat) (v : Value) (l : List Nat) (c q : Nat) (h : OwnO w B 3 1 v l.length (natV l)) (hl : l.length ≤ 1000) (hq : w.cell? ⟨q, 0, none⟩ = some (.int .i64 (c : Int))) (hne : v.ownBlock ≠ some q) :
  Calls Tryz.prog 72 #[v, cloV q] w fun e w' => ∃ v', e = .returned v' ∧ OwnO w' B 3 1 v' (dropC l c).length (natV (dropC l c)) ∧ w.grownBy w' v.ownBlock ∧ v'.ownBlock = v.ownBlock := by
 obtain ⟨A, k, rfl, hk, hr⟩ := h.reads
 have HO := Lib.hid h
 have HRD := Lib.hid hr
 have HQ := Lib.hid hq
 have HL := Lib.hid hl
 obtain ⟨n, hn⟩ : ∃ n, l.length = n := ⟨_, rfl⟩
 rw [hn] at hr hk hl ⊢
 have HN := Lib.hid hn
 have hi := fun w' (hw : w' = w) => (show Calls Tryz.prog 103 #[.slice A n k, cloV q] w' fun e w'' => e = .returned (.int .i64 (posI l c)) ∧ w'' = w' by rw [hw]; exact idxf_any w A n k l c q hr hn hl hq)
 have HI := Lib.hid hi
 clear hi hr hn h
 unfold cloV
 by_cases hp : posI l c = -1
 ·have HD := Lib.hid (posI_none hp)
  rw [hp] at HI
  clear hp
  go_enter Tryz.func72, Tryz.ntmps72
  go_wp2_with fail
  refine (HI.out _ rfl).mono ?_
  rintro e w1 ⟨rfl, rfl⟩
  go_wp2_with fail
  go_ret
  refine ⟨_, rfl, ?_, World.grownBy.refl _ _, rfl⟩
  rw [HD.out, ← HN.out]
  have := HO.out
  rw [HN.out] at this ⊢
  exact this
 ·obtain ⟨i0, e0, h0, h1, h2⟩ := posI_some hp
  rw [e0] at HI
  have hnp : 0 < l.length := by omega
  obtain ⟨g, off, cap, es, hnc, _, hfz⟩ := HO.out.pos hnp
  injection es with es1 es2 es3
  subst es1 es3
  have hgq : g ≠ q := fun e => hne (by rw [e]; rfl)
  have S0 := Lib.hid (show DelS w w B g off k l c i0 (i0 + 1) from ⟨⟨[l.getD i0 0], by
   have e : dropC (l.take (i0 + 1)) c = l.take i0 := by rw [drop_step h0, if_pos h1, drop_none h2]
   rw [e]
   have e2 : l.take i0 ++ [l.getD i0 0] ++ l.drop (i0 + 1) = l := by
    rw [List.getD_eq_getElem?_getD, List.getElem?_eq_getElem h0, Option.getD_some, List.append_assoc, List.singleton_append, ← List.drop_eq_getElem_cons h0, List.take_append_drop]
   rw [e2]
   have := HO.out
   rw [HN.out] at this ⊢
   exact this, by simp⟩, by rw [drop_step h0, if_pos h1, drop_none h2, List.length_take]; omega, World.grownBy.refl _ _⟩)
  have h0n : i0 < n := by rw [← HN.out]; exact h0
  have hi1 : ¬ ((i0 : Int) = -1) := by omega
  have hi2 : ((i0 : Int) == -1) = false := by simp
  clear hp e0 h0 h1 h2 hnp hfz hnc es2
  go_enter Tryz.func72, Tryz.ntmps72
  go_wp2_with fail
  refine (HI.out _ rfl).mono ?_
  rintro e w1 ⟨rfl, rfl⟩
  go_wp2_with fail
  go_loopw [5, 6] (fun a b wx => ∃ i j : Nat, a = .int .i64 i ∧ b = .int .i64 j ∧ i < j ∧ j ≤ n ∧ Hid (DelS w1 wx B g off k l c i j)) (fun _ b _ => n - (intOf b).toNat)
  case atStart => exact ⟨i0, i0 + 1, rfl, by go_num, Nat.lt_succ_self _, h0n, S0⟩
  case round =>
   obtain ⟨i, j, rfl, rfl, hij, hjn, S⟩ := hrel
   by_cases hlt : j < n
   ·have hjl : j < l.length := by rw [HN.out]; exact hlt
    obtain ⟨c1, u, c2⟩ := S.out.lt hij hjl
    have ff := S.out.frozen (by omega)
    have hqx : wr.cell? ⟨q, 0, none⟩ = some (.int .i64 (c : Int)) := S.out.gr.cell HQ.out (by simpa using fun e => hgq e.symm)
    have HJ := Lib.hid hjl
    obtain ⟨a, ha⟩ : ∃ a, l.getD j 0 = a := ⟨_, rfl⟩
    rw [ha] at c1
    have HA := Lib.hid ha
    have ie := nat_eqI a c
    have IE := Lib.hid ie
    have g1 : (j : Int) < (n : Int) := by omega
    have g2 : (0 : Int) ≤ (j : Int) := by omega
    have g3 : (i : Int) < (n : Int) := by omega
    have g4 : (0 : Int) ≤ (i : Int) := by omega
    clear ha ie hjl
    go_wp2_with fail
    refine (clo_any a c q _ hqx).mono ?_
    rintro e w3 ⟨rfl, rfl⟩
    rw [IE.out]
    by_cases hac : a = c
    ·have e1 : decide (a = c) = true := by simpa using hac
     have SN := Lib.hid (S.out.skip hij HJ.out (by rw [HA.out]; exact hac))
     rw [e1]
     go_wp2_with fail
     go_roundw
     case rel => exact ⟨i, j + 1, rfl, by go_num, by omega, by omega, SN⟩
     case measure => simp [intOf]; omega
    ·have e1 : decide (a = c) = false := by simpa using hac
     have SN := S.out.keep hij HJ.out (by rw [HA.out]; exact hac)
     rw [HA.out] at SN
     have SN := Lib.hid SN
     rw [e1]
     go_wp2_with fail
     go_roundw
     case rel => exact ⟨i + 1, j + 1, by go_num, by go_num, by omega, by omega, SN⟩
     case measure => simp [intOf]; omega
   ·have hje : j = n := by omega
    obtain ⟨i1, hi1', hz1⟩ : ∃ i, Tryz.prog.info? 3 = some i ∧ i.zero = some (.int .i64 0) := by
     obtain ⟨i, h1, h2, _⟩ := info_parts (show (Tryz.prog.info? 3).map (fun i => (i.zero, i.size, i.bytes)) = some (some (.int .i64 0), 1, 8) by kernel_rfl)
     exact ⟨i, h1, h2⟩
    have hzv : ∀ w, (zeroValue 3).run Tryz.prog w = .ok (.int .i64 0) w := fun w => by simp [zeroValue, typeInfo, hi1', hz1]
    obtain ⟨Y, o, hy⟩ := S.out.own
    have hcells : ∀ t, t < n - i → (wr.cell? ⟨g, off + i + t, none⟩).isSome = true := fun t ht => by
     obtain ⟨g', off', cap', e, _, hc, _⟩ := o.pos (by rw [HN.out]; omega)
     injection e with e1 e2 e3
     injection e1 with e1
     injection e1 with e1 e4
     subst e1 e4
     rw [Nat.add_assoc, hc (i + t) (by rw [HN.out]; omega), List.getElem?_eq_getElem (by rw [o.1, HN.out]; omega)]
     rfl
    have hcl : ∀ ty, (Builtin.clear_ #[87] ty #[.slice (some ⟨g, off + i, none⟩) (n - i) (k - i)]).run Tryz.prog wr = .ok (.tuple #[]) (wr.setCells g (off + i) (List.replicate (n - i) (.int .i64 0))) :=
     fun ty => Lib.run_clear_slice wr _ _ ty _ Tryz.underlying87 hzv rfl rfl g (off + i) _ _ (by omega) hcells (fun t _ => S.out.frozen (by rw [HN.out]; omega) _)
    have o2 := (o.front (k := i) (by rw [HN.out]; omega)).setCells (List.replicate (n - i) (.int .i64 0)) (off + i) (Nat.le_refl _)
    have et : (natV (dropC (l.take j) c ++ Y ++ l.drop j)).take i = natV (dropC l c) := by
     have hli := S.out.len
     rw [hje, ← HN.out, List.take_length] at hli
     rw [hje, ← HN.out, List.take_length, List.drop_length, List.append_nil]
     unfold natV
     rw [← List.map_take, List.take_append_of_le_length (by omega), List.take_of_length_le (by omega)]
    rw [et] at o2
    have hli := S.out.len
    rw [hje, ← HN.out, List.take_length] at hli
    have o3 : OwnO (wr.setCells g (off + i) (List.replicate (n - i) (.int .i64 0))) B 3 1 (.slice (some ⟨g, off, none⟩) i k) (dropC l c).length (natV (dropC l c)) := by rw [hli]; exact o2
    have HF := Lib.hid (And.intro o3 (grown_stores (List.replicate (n - i) (.int .i64 0)) (off + i) S.out.gr))
    have g1 : (n : Int) ≤ (j : Int) := by omega
    have g3 : (i : Int) < (n : Int) := by omega
    have g4 : (0 : Int) ≤ (i : Int) := by omega
    have g5 : (n : Int) ≤ (k : Int) := by omega
    have g6 : (i : Int) ≤ (k : Int) := by omega
    have g7 : (i : Int) ≤ (n : Int) := by omega
    have g8 : ¬ (k = i) := by omega
    clear o2 o3 et hli hcells hzv hi1' hz1 o hy S hje
    go_wp2_with fail
    go_ret
    exact ⟨_, rfl, HF.out.1, HF.out.2, rfl⟩
end Go.Proofs.YtjbnfigpflambacGreatDoor
/- (pool).close: its walk. -/
namespace Go.Proofs.YtjbnfigpflambacGreatDoor
open Go.ChangeShapes Go.WideShapes Go.ChangeAt Go.RowKit
def MV.left (M : MV) (c : Nat) : MV := { M with bytes := up M.bytes c ⟨#[]⟩, pend := up M.pend c [], bad := up M.bad c [], ow := up M.ow c Ow.new, wait := dropC M.wait c }
def MV.undone (M : MV) (c s : Nat) : MV := if (M.ow c).st = 0 then M else (M.did (poDo M.w s backS).1).setOw c (learn (M.ow c) backS (poDo M.w s backS).2)
theorem of_undo {f : Fr} {b : PB} {c : Nat} (hb : c < b.own.length) (s : Nat) : MV.of f (undoP b c s) = (MV.of f b).undone c s := by
 unfold undoP MV.undone
 have e : ((MV.of f b).ow c).st = (b.ow c).st := rfl
 rw [e]
 split
 ·rfl
 ·exact of_act hb s backS
theorem own_undo (b : PB) (c s : Nat) : (undoP b c s).own.length = b.own.length := by
 unfold undoP
 split
 ·rfl
 ·exact List.length_set
theorem close_mv_none {f : Fr} {b : PB} {c : Nat} (hc : c < f.cl.length) (hb : c < b.own.length) (hs : (f.c c).srv = -1) :
  MV.of (closeM poolB (f, b) c).1 (closeM poolB (f, b) c).2 = (MV.of f b).left c := by
 have e2 : (closeM poolB (f, b) c).2 = leaveP b c := by
  show goneP b c (f.c c).srv = _
  rw [hs]
  rfl
 rw [e2, mv_set (f' := (closeM poolB (f, b) c).1) (leaveP b c) hc rfl]
 have e1 : (closeM poolB (f, b) c).1.owner = f.owner := by
  show (if 0 ≤ (f.c c).srv then _ else f.owner) = f.owner
  rw [hs, if_neg (by omega)]
 rw [e1]
 unfold MV.left MV.of leaveP
 rw [ow_up hb]
 have e3 := up_id (fun c => (f.c c).srv) c
 simp only [hs] at e3
 rw [up_id (fun c => (f.c c).sent)]
 simp only [e3]
 rfl
theorem close_mv_some {f : Fr} {b : PB} {c s : Nat} (hc : c < f.cl.length) (hb : c < b.own.length) (hs : (f.c c).srv = (s : Int)) :
  MV.of (closeM poolB (f, b) c).1 (closeM poolB (f, b) c).2 = (((MV.of f b).undone c s).freed c s).left c := by
 have e2 : (closeM poolB (f, b) c).2 = leaveP (freeP (undoP b c s) c s) c := by
  show goneP b c (f.c c).srv = _
  rw [hs]
  unfold goneP
  rw [if_pos (by omega), Int.toNat_natCast]
 rw [e2, mv_set (f' := (closeM poolB (f, b) c).1) _ hc rfl, ← of_undo hb s]
 have e1 : (closeM poolB (f, b) c).1.owner = f.owner.set s (-1) := by
  show (if 0 ≤ (f.c c).srv then f.owner.set (f.c c).srv.toNat (-1) else f.owner) = _
  rw [hs, if_pos (by omega), Int.toNat_natCast]
 rw [e1]
 unfold MV.left MV.freed MV.of leaveP freeP
 rw [ow_up (b := ⟨(undoP b c s).w, (undoP b c s).known.set s ((undoP b c s).ow c), (undoP b c s).own⟩) (by rw [show (⟨(undoP b c s).w, (undoP b c s).known.set s ((undoP b c s).ow c), (undoP b c s).own⟩ : PB).own = (undoP b c s).own from rfl, own_undo]; exact hb)]
 simp only [List.length_set]
 rw [up_id (fun c => (f.c c).sent)]
 rfl
structure CloseL (w0 wx : World) (B p : Nat) (V0 : PV) (M : MV) (q c : Nat) : Prop where
 r : ∃ V' ks', PoolR wx B p V' ks' M ∧ Turn p w0 V0 wx V' ∧ ¬ V'.mine p q
 b : Blk wx q 3 #[.int .i64 (c : Int)]
section
variable {w0 wx wy : World} {B p q c : Nat} {V0 V1 V2 : PV} {ks1 ks2 : List KV} {M M' : MV}
theorem CloseL.keep (h : CloseL w0 wx B p V0 M q c) (hb : Below wx.heap.size wx wy) : CloseL w0 wy B p V0 M q c := by
 obtain ⟨V', ks', r, t, m⟩ := h.r
 exact ⟨⟨V', ks', r.below hb, t.below hb, m⟩, h.b.keep hb⟩
theorem CloseL.did (t1 : Turn p w0 V0 wx V1) (m1 : ¬ V1.mine p q) (b1 : Blk wx q 3 #[.int .i64 (c : Int)]) (r2 : PoolR wy B p V2 ks2 M') (t2 : Turn p wx V1 wy V2) : CloseL w0 wy B p V0 M' q c :=
 ⟨⟨V2, ks2, r2, t1.trans t2, t2.not b1.lt m1⟩, t2.box b1 m1⟩
end
theorem PoolR.emptied {w : World} {B p : Nat} {V : PV} {ks : List KV} {M : MV} (h : PoolR w B p V ks M) {c : Nat} (hc : c < 6) :
  ∃ V', PoolR (((((((w.setCell ⟨p, 6 + c * 10 + 0, none⟩ (.string ⟨#[]⟩)).setCell ⟨p, 6 + c * 10 + 1, none⟩ (.slice none 0 0)).setCell ⟨p, 6 + c * 10 + 2, none⟩ (.slice none 0 0)).setCell ⟨p, 6 + c * 10 + 4, none⟩ (.slice none 0 0)).setCell ⟨p, 6 + c * 10 + 4 + 1, none⟩ (.slice none 0 0)).setCell ⟨p, 6 + c * 10 + 4 + 2, none⟩ (.slice none 0 0)).setCell ⟨p, 6 + c * 10 + 4 + 3, none⟩ (.int .i64 0)) B p V' ks
    { M with bytes := up M.bytes c ⟨#[]⟩, pend := up M.pend c [], bad := up M.bad c [], ow := up M.ow c Ow.new } ∧
   Turn p w V (((((((w.setCell ⟨p, 6 + c * 10 + 0, none⟩ (.string ⟨#[]⟩)).setCell ⟨p, 6 + c * 10 + 1, none⟩ (.slice none 0 0)).setCell ⟨p, 6 + c * 10 + 2, none⟩ (.slice none 0 0)).setCell ⟨p, 6 + c * 10 + 4, none⟩ (.slice none 0 0)).setCell ⟨p, 6 + c * 10 + 4 + 1, none⟩ (.slice none 0 0)).setCell ⟨p, 6 + c * 10 + 4 + 2, none⟩ (.slice none 0 0)).setCell ⟨p, 6 + c * 10 + 4 + 3, none⟩ (.int .i64 0)) V' := by
 have a1 := h.put_bytes hc ⟨#[]⟩
 have a2 := a1.1.put_pend hc (v := .slice none 0 0) (l := []) (OwnO.nil _ _ _ _) (fun k hk => by cases hk)
 have a3 := a2.1.put_bad hc (v := .slice none 0 0) (l := []) (OwnO.nil _ _ _ _) (fun k hk => by cases hk)
 obtain ⟨V4, r4, t4⟩ := a3.1.put_set' hc (OPL.nil_ _ _)
 obtain ⟨V5, r5, t5⟩ := r4.put_pre' hc (OPL.nil_ _ _)
 obtain ⟨V6, r6, t6⟩ := r5.put_sav' hc (OPL.nil_ _ _)
 obtain ⟨r7, t7⟩ := r6.put_st' hc 0
 refine ⟨V6, ?_, (((((a1.2.trans a2.2).trans a3.2).trans t4).trans t5).trans t6).trans t7⟩
 have r7' := r7
 unfold MV.setOw at r7'
 simp only [up_at, up_up] at r7'
 exact r7'
set_option maxHeartbeats 8000000 in
set_option maxRecDepth 100000 in
theorem close_any (w : World) (B p : Nat) (V : PV) (ks : List KV) (f : Fr) (b : PB) (N : Nat) (h : PoolR w B p V ks (MV.of f b)) (hT : TabB w B) (hO : Ok (f, b) N) (c : Nat) (hc : c < 6) :
  Calls Tryz.prog 43 #[.pointer (some ⟨p, 0, none⟩), .int .i64 (c : Nat)] w fun e w' => e = .returned (.tuple #[]) ∧ Done w B p V (MV.of (closeM poolB (f, b) c).1 (closeM poolB (f, b) c).2) w' := by
 have g1 : (c : Int) < 6 := by omega
 have g2 : (0 : Int) ≤ (c : Int) := by omega
 have HC := Lib.hid hc
 have HT := Lib.hid hT
 have HR := Lib.hid h
 have HO := Lib.hid hO
 have HCL := Lib.hid (hO.len hc)
 have HOW := Lib.hid (show c < b.own.length by rw [hO.own6]; exact hc)
 obtain ⟨sv, hsv⟩ : ∃ s, (f.c c).srv = s := ⟨_, rfl⟩
 have HSV := Lib.hid hsv
 obtain ⟨q, hq⟩ : ∃ q, w.heap.size = q := ⟨_, rfl⟩
 have hb := boxed w (.cells #[.int .i64 (c : Int)] 3)
 have L0 := Lib.hid (show CloseL w (w.alloc (.cells #[.int .i64 (c : Int)] 3)) B p V (MV.of f b) q c from ⟨⟨V, ks, h.below hb, (Turn.refl p w V).below hb, h.o.fresh (by omega)⟩, by rw [← hq]; exact Blk.new w _ _⟩)
 obtain ⟨M, hM⟩ : ∃ M, MV.of f b = M := ⟨_, rfl⟩
 rw [hM] at L0 HR
 have HM := Lib.hid hM
 have HWT := Lib.hid (show M.wait.length ≤ 6 by rw [← hM]; exact hO.fi.few)
 obtain ⟨Mz, hMz⟩ : ∃ Mz, MV.of (closeM poolB (f, b) c).1 (closeM poolB (f, b) c).2 = Mz := ⟨_, rfl⟩
 rw [hMz]
 have HMZ := Lib.hid hMz
 clear h hT hO hM hMz hsv hb hc
 go_enter Tryz.func43, Tryz.ntmps43
 go_upto_region 1 with fail
 clear hq
 generalize World.alloc _ _ = x1 at L0 ⊢
 have q0 := L0.out.b.cell_ 0 _ rfl
 refine region_segs [] (by kernel_rfl) ?_
 refine anyB_seg [0, 1, 2, 3, 4, 5] 0 rfl (by kernel_rfl) (by kernel_rfl) (by kernel_rfl) (fun _ _ d _ _ h => by cases d <;> exact h) ?_
 simp only [pickOps, List.getElem?_toArray, List.getElem?_cons_zero, List.getElem?_cons_succ]
 go_wp2_with fail
 refine ⟨rfl, by rfl, ?_⟩
 refine anyB_done (by kernel_rfl) ?_ _
 have L1 := Lib.hid (L0.out.keep (Below.refl _ _).drew)
 clear q0 L0
 generalize World.drew _ = x2 at L1 ⊢
 obtain ⟨⟨V1, ks1, r1, t1, m1⟩, b1⟩ := L1.out
 have x3 : x2.cell? ⟨p, 6 + c * 10 + 3, none⟩ = some (.int .i64 sv) := by
  rw [← HSV.out]
  have e : M.srv c = (f.c c).srv := by rw [← HM.out]; rfl
  rw [← e]
  exact r1.b.cellC (k := 3) HC.out (by decide)
 have q0 := b1.cell_ 0 _ rfl
 clear r1 t1 m1 b1
 go_upto_if 15 with fail
 go_cut [] (fun wx => ∃ M1 : MV, Hid (M1.left c = Mz ∧ M1.wait.length ≤ 6) ∧ CloseL w wx B p V M1 q c)
 case first =>
  rcases HO.out.fi.fo.cl c HC.out with h1 | ⟨s, hso, h2, _⟩
  ·have e1 : sv = -1 := by rw [← HSV.out]; exact h1
   subst e1
   have HE := Lib.hid (show M.left c = Mz by rw [← HMZ.out, close_mv_none HCL.out HOW.out HSV.out, HM.out])
   clear h1
   go_wp2_with fail
   go_meet
   exact ⟨M, Lib.hid ⟨HE.out, HWT.out⟩, L1.out⟩
  ·have e1 : sv = (s : Int) := by rw [← HSV.out]; exact h2
   subst e1
   have HE := Lib.hid (show ((M.undone c s).freed c s).left c = Mz by rw [← HMZ.out, close_mv_some HCL.out HOW.out HSV.out, HM.out])
   obtain ⟨s', hs1, hs2, hs3, hs4⟩ := HO.out.srv HC.out (show 0 ≤ (f.c c).srv by rw [HSV.out]; omega)
   obtain rfl : s' = s := by rw [HSV.out] at hs1; omega
   have hs0 : (0 : Int) ≤ (s' : Int) := by omega
   obtain ⟨⟨V1, ks1, r1, t1, m1⟩, b1⟩ := L1.out
   obtain ⟨st, hst⟩ : ∃ n, (M.ow c).st = n := ⟨_, rfl⟩
   have x7 : x2.cell? ⟨p, 6 + c * 10 + 7, none⟩ = some (.int .i64 st) := by rw [← hst]; exact r1.b.cellC (k := 7) HC.out (by decide)
   have HST := Lib.hid hst
   have HB := Lib.hid (show s' < M.known.length ∧ s' < M.owner.length ∧ M.srv c = (s' : Int) by rw [← HM.out]; exact ⟨hs3, hs2, HSV.out⟩)
   have HI := Lib.hid (i64_wf (a := (s' : Int)) (by omega) (by omega))
   have H8 := Lib.hid (show M.w.ses.length ≤ 1000 by rw [← HM.out]; exact Nat.le_trans HO.out.ses8 (by decide))
   have HSO := Lib.hid (show (Sorted (M.ow c).set ∧ Sorted (M.ow c).pre) ∧ (M.ow c).set.length < 4398046510976 ∧ (M.ow c).pre.length < 4398046510976 by rw [← HM.out]; exact HO.out.sorted HC.out)
   clear r1 t1 m1 b1 hst h2 hso hs1 hs2 hs3 hs4
   by_cases h0 : st = 0
   ·subst h0
    have HU := Lib.hid (show M.undone c s' = M by unfold MV.undone; rw [if_pos HST.out])
    obtain ⟨⟨V1, ks1, r1, t1, m1⟩, b1⟩ := L1.out
    have R1 := Lib.hid r1
    have T1 := Lib.hid t1
    have M1 := Lib.hid m1
    have B1 := Lib.hid b1
    clear r1 t1 m1 b1 L1
    go_wp2_with fail
    refine (free_any _ B p V1 ks1 M R1.out c HC.out s' HB.out.2.2 HB.out.1 HB.out.2.1).mono ?_
    rintro e x3' ⟨rfl, ⟨V2, ks2, r2, t2⟩⟩
    have L2 := Lib.hid (CloseL.did T1.out M1.out B1.out r2 t2)
    clear r2 t2 x3 x7 q0
    go_wp2_with fail
    go_meet
    exact ⟨M.freed c s', Lib.hid ⟨by rw [← HE.out, HU.out], HWT.out⟩, L2.out⟩
   ·have n1 : (st != 0) = true := by simpa using h0
    have n2 : (!(st == 0)) = true := n1
    obtain ⟨⟨W1, aK, aT, aS⟩, hdo⟩ : ∃ R, poDo M.w s' backS = R := ⟨_, rfl⟩
    have HU := Lib.hid (show M.undone c s' = (M.did W1).setOw c (learn (M.ow c) backS ⟨aK, aT, aS⟩) by unfold MV.undone; rw [if_neg (by rw [HST.out]; exact h0), hdo])
    have HDO := Lib.hid hdo
    clear hdo
    go_upto_region 5 with fail
    obtain ⟨z5, hz5⟩ : ∃ z, x2.heap.size = z := ⟨_, rfl⟩
    have D5 := Blk.new x2 41 #[.int .i64 3, .string ⟨#[]⟩, .string ⟨#[]⟩]
    have hb5 := boxed x2 (.cells #[.int .i64 3, .string ⟨#[]⟩, .string ⟨#[]⟩] 41)
    obtain ⟨⟨V1, ks1, r1, t1, m1⟩, b1⟩ := L1.out
    have nm5 : ¬ V1.mine p z5 := r1.o.fresh (by omega)
    have R1 := Lib.hid ((r1.below hb5).below (Below.refl _ _).drew)
    have T1 := Lib.hid ((t1.below hb5).below (Below.refl _ _).drew)
    have M1 := Lib.hid m1
    have B1 := Lib.hid ((b1.keep hb5).keep (Below.refl _ _).drew)
    rw [hz5] at D5
    have f0 := D5.cell_ 0 _ rfl
    have f1 := D5.cell_ 1 _ rfl
    have f2 := D5.cell_ 2 _ rfl
    have D6 := Lib.hid (D5.keep (Below.refl _ _).drew)
    have N6 := Lib.hid nm5
    replace x3 := keep_cell hb5 x3
    clear r1 t1 m1 b1 L1 D5 hb5 x7 q0 nm5
    refine region_segs [10, 11] (by kernel_rfl) ?_
    refine anyB_seg [0, 1, 2, 4, 5, 6, 7, 8, 9] 3 rfl (by kernel_rfl) (by kernel_rfl) (by kernel_rfl) (fun _ _ d _ _ h => by cases d <;> exact h) ?_
    simp only [pickOps, List.getElem?_toArray, List.getElem?_cons_zero, List.getElem?_cons_succ]
    go_wp2_with fail
    refine ⟨rfl, by rfl, ?_⟩
    clear x3 f0 f1 f2
    generalize World.drew _ = x4 at R1 T1 B1 D6 ⊢
    refine anyB_two (i := 3) (j := 10) (by kernel_rfl) rfl rfl (fun K hK => ?_) (fun K hK => ?_)
    ·have f0 := D6.out.cell_ 0 _ rfl
     have f1 := D6.out.cell_ 1 _ rfl
     have f2 := D6.out.cell_ 2 _ rfl
     go_simp
     refine hK.out _ _ (fun _ => (Below.refl _ _)) ?_
     clear hK K
     clear f0 f1 f2
     refine anyB_one (i := 10) (by kernel_rfl) rfl (fun K hK => ?_)
     go_simp
     refine (pdo_any _ B p V1 ks1 M R1.out (HT.out.turn HR.out.o T1.out) s' HI.out ⟨3, ⟨#[]⟩, ⟨#[]⟩⟩ ⟨by decide, by decide⟩ H8.out).mono ?_
     rintro e x5 ⟨rfl, ⟨V2, ks2, r2, t2⟩⟩
     refine hK.out _ _ (fun h => absurd (by decide) h) ?_
     clear hK K
     rw [show poR M.w (s' : Int) ⟨3, ⟨#[]⟩, ⟨#[]⟩⟩ = (W1, ⟨aK, aT, aS⟩) from HDO.out] at r2 ⊢
     have R2 := Lib.hid r2
     have T2 := Lib.hid t2
     clear r2 t2
     unfold anV
     refine anyB_one (i := 11) (by kernel_rfl) rfl (fun K hK => ?_)
     go_simp
     refine (learn_any _ B p V2 ks2 _ R2.out c HC.out ⟨3, ⟨#[]⟩, ⟨#[]⟩⟩ ⟨aK, aT, aS⟩ ⟨by decide, by decide⟩ HSO.out.1 HSO.out.2).mono ?_
     rintro e x6 ⟨rfl, ⟨V3, ks3, r3, t3⟩⟩
     refine hK.out _ _ (fun h => absurd (by decide) h) ?_
     clear hK K
     refine anyB_done (by kernel_rfl) ?_ _
     have L2 := Lib.hid (CloseL.did T1.out M1.out B1.out r3 (T2.out.trans t3))
     have HU2 := Lib.hid (show M.undone c s' = (({ M with w := (W1, (⟨aK, aT, aS⟩ : An)).1 } : MV).setOw c (learn (({ M with w := (W1, (⟨aK, aT, aS⟩ : An)).1 } : MV).ow c) ⟨3, ⟨#[]⟩, ⟨#[]⟩⟩ ⟨aK, aT, aS⟩)) from HU.out)
     clear r3 t3 R1 T1 M1 B1 R2 T2
     rw [← HU2.out] at L2
     obtain ⟨Mu, hMu⟩ : ∃ Mu, M.undone c s' = Mu := ⟨_, rfl⟩
     rw [hMu] at L2
     have HMU := Lib.hid hMu
     have HB2 := Lib.hid (show s' < Mu.known.length ∧ s' < Mu.owner.length ∧ Mu.srv c = (s' : Int) by rw [← hMu, HU.out]; exact HB.out)
     obtain ⟨⟨V3, ks3, r3, t3, m3⟩, b3⟩ := L2.out
     have R3 := Lib.hid r3
     have T3 := Lib.hid t3
     have M3 := Lib.hid m3
     have B3 := Lib.hid b3
     have q0 := b3.cell_ 0 _ rfl
     clear r3 t3 m3 b3 L2 hMu
     go_wp2_with fail
     refine (free_any _ B p V3 ks3 Mu R3.out c HC.out s' HB2.out.2.2 HB2.out.1 HB2.out.2.1).mono ?_
     rintro e x7 ⟨rfl, ⟨V4, ks4, r4, t4⟩⟩
     have L4 := Lib.hid (CloseL.did T3.out M3.out B3.out r4 t4)
     clear r4 t4 q0
     go_wp2_with fail
     go_meet
     exact ⟨Mu.freed c s', Lib.hid ⟨by rw [← HMU.out]; exact HE.out, by rw [← HMU.out, HU.out]; exact HWT.out⟩, L4.out⟩
    ·go_simp
     refine (pdo_any _ B p V1 ks1 M R1.out (HT.out.turn HR.out.o T1.out) s' HI.out ⟨3, ⟨#[]⟩, ⟨#[]⟩⟩ ⟨by decide, by decide⟩ H8.out).mono ?_
     rintro e x5 ⟨rfl, ⟨V2, ks2, r2, t2⟩⟩
     refine hK.out _ _ (fun h => absurd (by decide) h) ?_
     clear hK K
     rw [show poR M.w (s' : Int) ⟨3, ⟨#[]⟩, ⟨#[]⟩⟩ = (W1, ⟨aK, aT, aS⟩) from HDO.out] at r2 ⊢
     have R2 := Lib.hid r2
     have T2 := Lib.hid t2
     clear r2 t2
     unfold anV
     have f0 := (T2.out.box D6.out N6.out).cell_ 0 _ rfl
     have f1 := (T2.out.box D6.out N6.out).cell_ 1 _ rfl
     have f2 := (T2.out.box D6.out N6.out).cell_ 2 _ rfl
     refine anyB_seg [3] 1 rfl (by kernel_rfl) (by kernel_rfl) (by kernel_rfl) (fun _ _ d _ _ h => by cases d <;> exact h) ?_
     simp only [pickOps, List.getElem?_toArray, List.getElem?_cons_zero, List.getElem?_cons_succ]
     go_wp2_with fail
     refine ⟨rfl, by rfl, ?_⟩
     clear f0 f1 f2
     refine anyB_one (i := 11) (by kernel_rfl) rfl (fun K hK => ?_)
     go_simp
     refine (learn_any _ B p V2 ks2 _ R2.out c HC.out ⟨3, ⟨#[]⟩, ⟨#[]⟩⟩ ⟨aK, aT, aS⟩ ⟨by decide, by decide⟩ HSO.out.1 HSO.out.2).mono ?_
     rintro e x6 ⟨rfl, ⟨V3, ks3, r3, t3⟩⟩
     refine hK.out _ _ (fun h => absurd (by decide) h) ?_
     clear hK K
     refine anyB_done (by kernel_rfl) ?_ _
     have L2 := Lib.hid (CloseL.did T1.out M1.out B1.out r3 (T2.out.trans t3))
     have HU2 := Lib.hid (show M.undone c s' = (({ M with w := (W1, (⟨aK, aT, aS⟩ : An)).1 } : MV).setOw c (learn (({ M with w := (W1, (⟨aK, aT, aS⟩ : An)).1 } : MV).ow c) ⟨3, ⟨#[]⟩, ⟨#[]⟩⟩ ⟨aK, aT, aS⟩)) from HU.out)
     clear r3 t3 R1 T1 M1 B1 R2 T2
     rw [← HU2.out] at L2
     obtain ⟨Mu, hMu⟩ : ∃ Mu, M.undone c s' = Mu := ⟨_, rfl⟩
     rw [hMu] at L2
     have HMU := Lib.hid hMu
     have HB2 := Lib.hid (show s' < Mu.known.length ∧ s' < Mu.owner.length ∧ Mu.srv c = (s' : Int) by rw [← hMu, HU.out]; exact HB.out)
     obtain ⟨⟨V3, ks3, r3, t3, m3⟩, b3⟩ := L2.out
     have R3 := Lib.hid r3
     have T3 := Lib.hid t3
     have M3 := Lib.hid m3
     have B3 := Lib.hid b3
     have q0 := b3.cell_ 0 _ rfl
     clear r3 t3 m3 b3 L2 hMu
     go_wp2_with fail
     refine (free_any _ B p V3 ks3 Mu R3.out c HC.out s' HB2.out.2.2 HB2.out.1 HB2.out.2.1).mono ?_
     rintro e x7 ⟨rfl, ⟨V4, ks4, r4, t4⟩⟩
     have L4 := Lib.hid (CloseL.did T3.out M3.out B3.out r4 t4)
     clear r4 t4 q0
     go_wp2_with fail
     go_meet
     exact ⟨Mu.freed c s', Lib.hid ⟨by rw [← HMU.out]; exact HE.out, by rw [← HMU.out, HU.out]; exact HWT.out⟩, L4.out⟩
 case rest =>
  obtain ⟨M1, HM1, l1⟩ := hcut
  obtain ⟨⟨V1, ks1, r1, t1, m1⟩, b1⟩ := l1
  obtain ⟨V2, r2, t2⟩ := r1.emptied HC.out
  have x : ∀ k, k < 10 → ∃ u, wc.cell? ⟨p, 6 + c * 10 + k, none⟩ = some u := fun k hk => ⟨_, r1.b.cellC HC.out hk⟩
  obtain ⟨u0, y0⟩ := x 0 (by decide)
  obtain ⟨u1, y1⟩ := x 1 (by decide)
  obtain ⟨u2, y2⟩ := x 2 (by decide)
  obtain ⟨u4, y4⟩ := x 4 (by decide)
  obtain ⟨u5, y5⟩ := x 5 (by decide)
  obtain ⟨u6, y6⟩ := x 6 (by decide)
  obtain ⟨u7, y7⟩ := x 7 (by decide)
  have y0 : wc.cell? ⟨p, 6 + c * 10, none⟩ = some u0 := y0
  have fp := r1.b.frozen
  have L2 := Lib.hid (CloseL.did t1 m1 b1 r2 t2)
  clear r1 t1 m1 b1 r2 t2 x q0 x3 L1
  go_upto_region 8 with fail
  clear y0 y1 y2 y4 y5 y6 y7 fp
  generalize World.setCell _ _ _ = x6 at L2 ⊢
  obtain ⟨⟨V3, ks3, r3, t3, m3⟩, b3⟩ := L2.out
  have q0 := b3.cell_ 0 _ rfl
  have y66 : x6.cell? ⟨p, 66, none⟩ = some V3.wait := r3.b.cell (j := 66) (by decide)
  obtain ⟨Aw, cw, ew, _⟩ := r3.o.wait.form
  have hne : V3.wait.ownBlock ≠ some q := fun e => m3 ⟨.wait, trivial, e⟩
  have hdf := delf_any x6 B V3.wait M1.wait c q r3.o.wait (Nat.le_trans HM1.out.2 (by decide)) q0 hne
  have EW := Lib.hid ew
  obtain ⟨nw, hnw⟩ : ∃ n, M1.wait.length = n := ⟨_, rfl⟩
  have ew : V3.wait = .slice Aw M1.wait.length cw := ew
  rw [hnw] at ew
  rw [ew] at y66 hdf
  have EW := Lib.hid ew
  have HDF := Lib.hid hdf
  have R3 := Lib.hid r3
  have T3 := Lib.hid t3
  unfold cloV at HDF
  clear r3 t3 m3 b3 hne hdf ew hnw L2
  go_wp2_with fail
  refine HDF.out.mono ?_
  rintro e x7 ⟨v', rfl, ho, hg, hn⟩
  obtain ⟨A7, k7, e7, _⟩ := ho.form
  obtain ⟨r7, t7, y6, fp, -⟩ := R3.out.app_wait (v := v') (l := dropC M1.wait c) ho (by rw [EW.out]; exact hg) (.inl (by rw [EW.out]; exact hn))
  rw [EW.out] at y6
  have HF := Lib.hid (show Done w B p V Mz (x7.setCell ⟨p, 66, none⟩ v') from ⟨_, _, by rw [← HM1.out.1]; exact r7, T3.out.trans t7⟩)
  subst e7
  clear r7 t7 ho hg hn q0 y66
  go_wp2_with fail
  refine bodyPost_end (results_none rfl _ _ _) rfl ⟨rfl, HF.out⟩
end Go.Proofs.YtjbnfigpflambacGreatDoor
