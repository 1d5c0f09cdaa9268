/- What the pool knows, field by field, as its front and its sessions turn: no program. slices.Repeat of one number. pool.Run's beginning: acts in memory; the pool's first blocks. The acts of raw things: tillermankeep.Acts. append of a string's bytes onto a slice of the call's own. -/
import Derived.Test.YtjbnfigpflambacGreatDoorG07
import Derived.Test.YtjbnfigpflambacGreatDoorG09
import Derived.Test.YtjbnfigpflambacGreatDoorG21
import Derived.Test.YtjbnfigpflambacGreatDoorG22
import Derived.Test.YtjbnfigpflambacGreatDoorG23
import Derived.Test.YtjbnfigpflambacGreatDoorG25
import Derived.Test.YtjbnfigpflambacGreatDoorG26
import Derived.Laws.MakeOwn
import Derived.Deep.CutBlock
import Derived.Lib.AppendStr
/- What the pool knows, field by field, as its front and its sessions turn: no program. -/
namespace Go.Proofs.YtjbnfigpflambacGreatDoor
theorem up_of {α : Type} (g : Cl → α) {f f' : Fr} {i : Nat} (hi : i < f.cl.length) {x : Cl} (e : f'.cl = f.cl.set i x) : (fun c => g (f'.c c)) = up (fun c => g (f.c c)) i (g x) := by
 funext c
 rw [c_setcl hi e]
 unfold up
 split <;> rfl
theorem up_id {α : Type} (f : Nat → α) (i : Nat) : up f i (f i) = f := by
 funext c
 unfold up
 split
 ·rename_i h
  rw [h]
 ·rfl
theorem mv_set {f f' : Fr} (b : PB) {i : Nat} (hi : i < f.cl.length) {x : Cl} (e : f'.cl = f.cl.set i x) :
  MV.of f' b = ⟨f'.mode, f'.owner.length, f'.owner, up (fun c => (f.c c).bytes) i x.bytes, up (fun c => (f.c c).pend.map (·.1)) i (x.pend.map (·.1)), up (fun c => (f.c c).pend.map (·.2)) i (x.pend.map (·.2)), up (fun c => (f.c c).srv) i x.srv, up (fun c => (f.c c).sent) i x.sent, b.ow, f'.wait, f'.deeds, b.w, b.known⟩ := by
 unfold MV.of
 rw [up_of (·.bytes) hi e, up_of (fun y => y.pend.map (·.1)) hi e, up_of (fun y => y.pend.map (·.2)) hi e, up_of (·.srv) hi e, up_of (·.sent) hi e]
def MV.drop (M : MV) (c : Nat) (xs : List St) (ys : List Bool) : MV := { M with pend := up M.pend c xs, bad := up M.bad c ys }
def MV.told (M : MV) (c : Nat) (a : An) : MV := { M with sent := up M.sent c (M.sent c ++ tellM a) }
def MV.deed (M : MV) (d : De) : MV := { M with deeds := M.deeds ++ [d] }
def MV.did (M : MV) (W : Wo) : MV := { M with w := W }
section
variable {f : Fr} {b : PB} {c : Nat}
theorem of_drop (hc : c < f.cl.length) {x : St} {y : Bool} {l : List (St × Bool)} (h : (f.c c).pend = (x, y) :: l) : MV.of (f.drop c) b = (MV.of f b).drop c (l.map (·.1)) (l.map (·.2)) := by
 rw [mv_set (f' := f.drop c) b hc rfl]
 unfold MV.drop MV.of
 simp only [h, List.tail_cons]
 rw [up_id (fun c => (f.c c).bytes), up_id (fun c => (f.c c).srv), up_id (fun c => (f.c c).sent)]
 rfl
theorem of_tell (hc : c < f.cl.length) (a : An) : MV.of (f.tell c a) b = (MV.of f b).told c a := by
 rw [mv_set (f' := f.tell c a) b hc rfl]
 unfold MV.told MV.of Cl.tell
 simp only
 rw [up_id (fun c => (f.c c).bytes), up_id (fun c => (f.c c).srv), up_id (fun c => (f.c c).pend.map (·.1)), up_id (fun c => (f.c c).pend.map (·.2))]
 rfl
theorem of_deed (d : De) : MV.of (f.deed d) b = (MV.of f b).deed d := rfl
theorem ow_up {b : PB} {i : Nat} (hi : i < b.own.length) (x : Ow) (w : Wo) (kn : List Ow) : (⟨w, kn, b.own.set i x⟩ : PB).ow = up b.ow i x := by
 funext j
 rw [ow_set hi x w kn j]
 rfl
theorem of_act (hb : c < b.own.length) (s : Nat) (x : St) : MV.of f (actP b c s x).1 = ((MV.of f b).did (poDo b.w s x).1).setOw c (learn (b.ow c) x (poDo b.w s x).2) := by
 unfold MV.of actP MV.did MV.setOw
 simp only
 rw [ow_up hb]
theorem of_free (hc : c < f.cl.length) {s : Nat} (h : (f.c c).srv = (s : Int)) : MV.of (f.freeS c) (freeP b c s) = (MV.of f b).freed c s := by
 rw [mv_set (f' := f.freeS c) (freeP b c s) hc rfl]
 unfold MV.freed MV.of freeP Fr.freeS
 simp only [h, Int.toNat_natCast, List.length_set]
 rw [up_id (fun c => (f.c c).bytes), up_id (fun c => (f.c c).pend.map (·.1)), up_id (fun c => (f.c c).pend.map (·.2)), up_id (fun c => (f.c c).sent)]
 rfl
theorem of_bind (hc : c < f.cl.length) (s : Nat) : MV.of (f.bindS s c) ⟨bindW b s c, b.known, b.own⟩ = (MV.of f b).bound s c := by
 rw [mv_set (f' := f.bindS s c) ⟨bindW b s c, b.known, b.own⟩ hc rfl]
 unfold MV.bound MV.of Fr.bindS
 simp only [List.length_set]
 rw [up_id (fun c => (f.c c).bytes), up_id (fun c => (f.c c).pend.map (·.1)), up_id (fun c => (f.c c).pend.map (·.2)), up_id (fun c => (f.c c).sent)]
 rfl
end
theorem next_mv_bad {f : Fr} {b : PB} {c : Nat} (hc : c < f.cl.length) {x : St} {l : List (St × Bool)} (h : (f.c c).pend = (x, true) :: l) :
  MV.of (nextM poolB (f, b) c).1 (nextM poolB (f, b) c).2 = ((MV.of f b).drop c (l.map (·.1)) (l.map (·.2))).told c ⟨4, tNotUnd, (b.ow c).st⟩ := by
 rw [next_bad poolB (f, b) c h, of_tell (by rw [len_drop]; exact hc), of_drop hc h]
 rfl
theorem next_mv_mode {f : Fr} {b : PB} {c : Nat} (hc : c < f.cl.length) {x : St} {l : List (St × Bool)} (h : (f.c c).pend = (x, false) :: l) (hm : f.mode = 3 ∧ x.k = 1) :
  MV.of (nextM poolB (f, b) c).1 (nextM poolB (f, b) c).2 = ((MV.of f b).drop c (l.map (·.1)) (l.map (·.2))).told c ⟨4, tNotMode, (b.ow c).st⟩ := by
 rw [next_mode poolB (f, b) c h hm, of_tell (by rw [len_drop]; exact hc), of_drop hc h]
 rfl
def MV.acted (M : MV) (c s : Nat) (x : St) (xs : List St) (ys : List Bool) : MV :=
 (((((M.drop c xs ys).did (poDo M.w s x).1).setOw c (learn (M.ow c) x (poDo M.w s x).2)).deed ⟨c, x, (poDo M.w s x).2⟩).told c (poDo M.w s x).2)
theorem of_done {f : Fr} {b : PB} {c s : Nat} (hc : c < f.cl.length) (hb : c < b.own.length) {x : St} {l : List (St × Bool)} (h : (f.c c).pend = (x, false) :: l) :
  MV.of (doneF f c x (poDo b.w s x).2) (actP b c s x).1 = (MV.of f b).acted c s x (l.map (·.1)) (l.map (·.2)) := by
 unfold doneF
 rw [of_tell (f := (f.drop c).deed _) (by show c < (f.drop c).cl.length; rw [len_drop]; exact hc), of_deed, of_act hb, of_drop hc h]
 rfl
theorem next_mv_act {f : Fr} {b : PB} {c s : Nat} (hc : c < f.cl.length) (hb : c < b.own.length) {x : St} {l : List (St × Bool)} (h : (f.c c).pend = (x, false) :: l) (hm : ¬ (f.mode = 3 ∧ x.k = 1)) (hs : (f.c c).srv = (s : Int)) :
  MV.of (nextM poolB (f, b) c).1 (nextM poolB (f, b) c).2 = if f.mode ≠ 1 ∧ (poDo b.w s x).2.st = 0 then ((MV.of f b).acted c s x (l.map (·.1)) (l.map (·.2))).freed c s else (MV.of f b).acted c s x (l.map (·.1)) (l.map (·.2)) := by
 have e : (poolB.act b c (f.c c).srv.toNat x) = ((actP b c s x).1, (poDo b.w s x).2) := by rw [hs]; rfl
 rw [next_act poolB (f, b) c h hm]
 simp only [e]
 split
 ·have h2 : ((doneF f c x (poDo b.w s x).2).c c).srv = (s : Int) := by
   have hd := done_cl hc x (poDo b.w s x).2
   rw [c_setcl hc hd, if_pos rfl]
   exact hs
  have e2 : (poolB.free (actP b c s x).1 c (f.c c).srv.toNat) = freeP (actP b c s x).1 c s := by rw [hs]; rfl
  simp only [e2]
  rw [of_free (by rw [len_done]; exact hc) h2, of_done hc hb h]
 ·exact of_done hc hb h
end Go.Proofs.YtjbnfigpflambacGreatDoor
/- slices.Repeat of one number. -/
namespace Go.Proofs.YtjbnfigpflambacGreatDoor
open Go.ChangeShapes Go.WideShapes Go.ChangeAt Go.RowKit
structure RepS (w : World) (q n m : Nat) : Prop where
 b : ∃ cs : Array Value, Blk w q 3 cs ∧ cs.size = n ∧ ∀ j, j < m → cs[j]? = some (.int .i64 (-1))
theorem rep_splice {cs : Array Value} {n m k : Nat} (hs : cs.size = n) (hm : ∀ j, j < m → cs[j]? = some (.int .i64 (-1))) (hk : m + k ≤ n) :
  ((cs.toList.take m ++ List.replicate k (Value.int .i64 (-1)) ++ cs.toList.drop (m + (List.replicate k (Value.int .i64 (-1))).length)).toArray).size = n ∧
   ∀ j, j < m + k → ((cs.toList.take m ++ List.replicate k (Value.int .i64 (-1)) ++ cs.toList.drop (m + (List.replicate k (Value.int .i64 (-1))).length)).toArray)[j]? = some (.int .i64 (-1)) := by
 have hl : cs.toList.length = n := by simpa using hs
 refine ⟨by simp; omega, fun j hj => ?_⟩
 rw [List.getElem?_toArray, List.append_assoc]
 rcases Nat.lt_or_ge j m with h | h
 ·rw [List.getElem?_append_left (by rw [List.length_take]; omega), List.getElem?_take_of_lt h, Array.getElem?_toList]
  exact hm j h
 ·rw [List.getElem?_append_right (by rw [List.length_take]; omega), List.length_take, List.getElem?_append_left (by rw [List.length_replicate]; omega), List.getElem?_replicate, if_pos (by omega)]
set_option maxRecDepth 100000 in
theorem RepS.copy {w : World} {q n m k : Nat} (h : RepS w q n m) {a : Addr} {sLen sCap : Nat} (hk : k = Nat.min sLen (n - m)) (hmn : m ≤ n) (hsrc : ∀ j, j < k → w.cell? (a.add j) = some (.int .i64 (-1))) (dCap : Nat) :
  ∃ w', (∀ ty, (Builtin.copy_ #[87, 87] ty #[.slice (some ⟨q, m, none⟩) (n - m) dCap, .slice (some a) sLen sCap]).run Tryz.prog w = .ok (.int .i64 (k : Int)) w') ∧ RepS w' q n (m + k) ∧ ∀ {B : Nat} {u : World}, Below B u w → B ≤ q → Below B u w' := by
 obtain ⟨cs, b, hs, hm⟩ := h.b
 have hkn : m + k ≤ n := by have := Nat.min_le_right sLen (n - m); simp only [Nat.min_def] at hk this; split at hk <;> omega
 obtain ⟨h1, h2⟩ := rep_splice hs hm hkn
 obtain ⟨i0, hi0, _, hz1, _⟩ := info_parts (show (Tryz.prog.info? 3).map (fun i => (i.zero, i.size, i.bytes)) = some (some (.int .i64 0), 1, 8) by kernel_rfl)
 refine ⟨w.setRow q (cs.toList.take m ++ List.replicate k (Value.int .i64 (-1)) ++ cs.toList.drop (m + (List.replicate k (Value.int .i64 (-1))).length)).toArray, fun ty => ?_, ⟨_, setRow_heap w q cs _ _ _ b, h1, h2⟩, fun hb hB => ?_⟩
 ·have := run_copy_row (P := Tryz.prog) w 87 87 ty 3 q m (n - m) dCap a sLen sCap cs 3 (List.replicate k (.int .i64 (-1))) Tryz.underlying87 (by rw [hi0]; simp [hz1]) b (by rw [List.length_replicate]; exact hk)
   (fun j v hj => by
    rw [List.getElem?_replicate] at hj
    split at hj
    ·injection hj with hj
     subst hj
     exact hsrc j (by assumption)
    ·cases hj) (by rw [List.length_replicate, hs]; omega) (fun v hv => by rw [List.eq_of_mem_replicate hv]; rfl)
  rw [List.length_replicate] at this ⊢
  exact this
 ·exact ⟨hb.os, hb.tape, hb.output, by simpa [World.setRow] using hb.size, fun k hk => (setRow_other w q k _ (by omega)).trans (hb.block k hk)⟩
set_option maxHeartbeats 4000000 in
set_option maxRecDepth 100000 in
theorem rep_any (w : World) (g n : Nat) (h1 : 1 ≤ n) (h4 : n ≤ 1000) (hg : w.cell? ⟨g, 0, none⟩ = some (.int .i64 (-1))) :
  Calls Tryz.prog 42 #[.slice (some ⟨g, 0, none⟩) 1 1, .int .i64 (n : Int)] w fun e w' => ∃ q cs, e = .returned (.slice (some ⟨q, 0, none⟩) n n) ∧ Blk w' q 3 cs ∧ cs.size = n ∧ (∀ j, j < n → cs[j]? = some (.int .i64 (-1))) ∧ w.heap.size ≤ q ∧ Below w.heap.size w w' := by
 have hmul : ∀ w, Calls Tryz.prog 68 #[.int .u64 1, .int .u64 (n : Int)] w fun e w' => e = .returned (.tuple #[.int .u64 0, .int .u64 (n : Int)]) ∧ w' = w := fun w => by
  have h := Tryz.bits_Mul 1 n (by omega) (by omega) w
  rw [Nat.one_mul, Nat.div_eq_of_lt (by omega), Nat.mod_eq_of_lt (by omega)] at h
  exact h
 have HMUL := Lib.hid hmul
 obtain ⟨i0, hi0, hz0, hz1, hz2⟩ := info_parts (show (Tryz.prog.info? 3).map (fun i => (i.zero, i.size, i.bytes)) = some (some (.int .i64 0), 1, 8) by kernel_rfl)
 obtain ⟨ZS, hmk, hZS⟩ : ∃ ZS : Array Value, (∀ w : World, (Instr.makeSlice 87 (.int .i64 (n : Int)) (.int .i64 (n : Int))).run Tryz.prog w = .ok (.slice (some ⟨w.heap.size, 0, none⟩) n n) (w.alloc (.cells ZS 3))) ∧ ZS.size = n :=
  ⟨_, fun w => run_make w _ _ i0 _ Tryz.underlying87 hi0 hz0 .i64 .i64 n n (by omega) (Int.le_refl _) (by rw [hz2]; omega) (by omega), by rw [size_madeCells, hz1]; simp⟩
 have w1 : IntKind.u64.wrap (n : Int) = n := by rw [IntKind.wrap_u64]; omega
 have w2 : IntKind.i64.wrap (n : Int) = n := IntWalk.i64_in _ (by omega)
 have q1 : (0 : Int) ≤ (n : Int) := by omega
 have q2 : ¬ ((n : Int) < 0) := by omega
 have q3 : ¬ ((9223372036854775807 : Int) < (n : Int)) := by omega
 obtain ⟨gl, gn⟩ : g < w.heap.size ∧ True := ⟨World.block_lt_of_cell? w _ hg, trivial⟩
 have HMK := Lib.hid hmk
 have HZS := Lib.hid hZS
 have HG := Lib.hid hg
 clear hmul hi0 hz0 hz1 hz2 hmk hZS gn hg
 go_enter Tryz.func42, Tryz.ntmps42
 go_wp2_with fail
 refine (HMUL.out _).mono ?_
 rintro e w3 ⟨rfl, rfl⟩
 have hmk := HMK.out
 obtain ⟨q, hq⟩ : ∃ q, w3.heap.size = q := ⟨_, rfl⟩
 have S0 : RepS (w3.alloc (.cells ZS 3)) q n 0 := ⟨⟨ZS, by rw [← hq]; exact Blk.new w3 _ _, HZS.out, fun j hj => absurd hj (Nat.not_lt_zero _)⟩⟩
 obtain ⟨w5, hcp, S1, hb5⟩ := S0.copy (k := 1) (a := ⟨g, 0, none⟩) (sLen := 1) (sCap := 1) (by rw [Nat.sub_zero]; simp [Nat.min_def]; omega) (Nat.zero_le _) (fun j hj => by
  obtain rfl : j = 0 := by omega
  exact keep_cell (boxed w3 _) HG.out) n
 have HB := Lib.hid (hb5 (boxed w3 (.cells ZS 3)) (Nat.le_of_eq hq))
 have HS := Lib.hid S1
 simp only [Nat.sub_zero] at hcp
 have HQ := Lib.hid (Nat.le_of_eq hq)
 clear S0 S1 hb5
 go_upto_block 0 with fail
 clear hmk hcp
 try rw [hq]
 clear hq
 go_wp2_with fail
 go_loopw [8] (fun i wx => ∃ m : Nat, i = .int .i64 m ∧ 1 ≤ m ∧ m ≤ n ∧ Hid (RepS wx q n m) ∧ Below w3.heap.size w3 wx) (fun i _ => n - (intOf i).toNat)
 case atStart => exact ⟨1, rfl, Nat.le_refl _, h1, HS, HB.out⟩
 case round =>
  obtain ⟨m, rfl, hm1, hmn, HR, hb⟩ := hrel
  have HBX := Lib.hid hb
  clear hb
  by_cases hlt : m < n
  ·have g1 : (m : Int) < (n : Int) := by omega
   have g2 : (0 : Int) ≤ (m : Int) := by omega
   have g3 : (m : Int) ≤ (n : Int) := by omega
   have g4 : ¬ n = m := by omega
   obtain ⟨k, hk⟩ : ∃ k, Nat.min m (n - m) = k := ⟨_, rfl⟩
   have hk1 : 1 ≤ k ∧ m + k ≤ n := by simp only [Nat.min_def] at hk; split at hk <;> omega
   obtain ⟨cs, bb, hcs, hcm⟩ := HR.out.b
   have SD : RepS wr.drew q n m := ⟨⟨cs, bb, hcs, hcm⟩⟩
   obtain ⟨w5, hcp, S1, hb5⟩ := SD.copy (a := ⟨q, 0, none⟩) (sLen := m) (sCap := n) hk.symm hmn (fun j hj => by rw [Addr.add_lit, Nat.zero_add]; exact Blk.cell_ (w := wr.drew) bb j _ (hcm j (by simp only [Nat.min_def] at hk; split at hk <;> omega))) (n - m)
   have HS5 := Lib.hid S1
   have HB5 := Lib.hid (hb5 (HBX.out.drew) HQ.out)
   have HK := Lib.hid hk
   clear SD S1 hb5 hk bb hcs hcm HR HBX
   go_upto_region 9 with fail
   refine region_segs [7] (by kernel_rfl) ?_
   refine anyB_seg [0, 1, 2, 3, 4, 5, 6] 3 rfl (by kernel_rfl) (by kernel_rfl) (by kernel_rfl) (fun _ _ d _ _ h => by cases d <;> exact h) ?_
   simp only [pickOps, List.getElem?_toArray, List.getElem?_cons_zero, List.getElem?_cons_succ]
   go_wp2_with fail
   refine ⟨rfl, by rfl, ?_⟩
   refine anyB_one (i := 7) (by kernel_rfl) rfl (fun K hK => ?_)
   go_simp
   refine hK.out _ _ (fun h => absurd (by decide) h) ?_
   clear hK K
   clear hcp
   have wk : IntKind.i64.wrap ((m : Int) + (k : Int)) = ((m + k : Nat) : Int) := by rw [IntWalk.i64_in _ (by omega)]; omega
   refine anyB_seg [8, 9] 0 rfl (by kernel_rfl) (by kernel_rfl) (by kernel_rfl) (fun _ _ d _ _ h => by cases d <;> exact h) ?_
   simp only [pickOps, List.getElem?_toArray, List.getElem?_cons_zero, List.getElem?_cons_succ]
   go_wp2_with fail
   refine ⟨rfl, by rfl, ?_⟩
   refine anyB_done (by kernel_rfl) ?_ _
   go_wp2_with fail
   go_roundw
   case rel => exact ⟨m + k, rfl, by omega, hk1.2, HS5, HB5.out⟩
   case measure => simp [intOf]; omega
  ·have g1 : (n : Int) ≤ (m : Int) := by omega
   obtain rfl : m = n := by omega
   obtain ⟨cs, bb, hcs, hcm⟩ := HR.out.b
   have HF := Lib.hid (And.intro bb (And.intro hcs (And.intro hcm (And.intro HQ.out HBX.out))))
   clear bb hcs hcm HR HBX
   go_wp2_with fail
   go_ret
   exact ⟨q, cs, rfl, HF.out.1, HF.out.2.1, HF.out.2.2.1, HF.out.2.2.2.1, HF.out.2.2.2.2⟩
end Go.Proofs.YtjbnfigpflambacGreatDoor
/- pool.Run's beginning: acts in memory; the pool's first blocks. -/
namespace Go.Proofs.YtjbnfigpflambacGreatDoor
open Go.ChangeShapes Go.WideShapes Go.ChangeAt Go.RowKit
structure AcAt (w : World) (p : Addr) (x : Ac) : Prop where
 k : w.cell? p = some (.int .i64 x.kind)
 c : w.cell? ⟨p.block, p.off + 1, none⟩ = some (.int .i64 x.c)
 d : w.cell? ⟨p.block, p.off + 2, none⟩ = some (.string x.data)
def AcL (w : World) (B : Nat) (v : Value) (l : List Ac) : Prop :=
 ∃ A cap, v = .slice A l.length cap ∧ (0 < l.length → ∃ ad, A = some ad ∧ ad.block < B ∧ ∀ i (h : i < l.length), AcAt w (ad.add (i * 3)) l[i])
theorem AcAt.below {w w' : World} {B : Nat} {p : Addr} {x : Ac} (h : AcAt w p x) (hp : p.block < B) (hb : Below B w w') : AcAt w' p x :=
 ⟨(hb.cell hp).trans h.k, (hb.cell (by exact hp)).trans h.c, (hb.cell (by exact hp)).trans h.d⟩
theorem AcL.below {w w' : World} {B : Nat} {v : Value} {l : List Ac} (h : AcL w B v l) (hb : Below B w w') : AcL w' B v l := by
 obtain ⟨A, cap, e, h3⟩ := h
 refine ⟨A, cap, e, fun hn => ?_⟩
 obtain ⟨ad, e, hB, hi⟩ := h3 hn
 exact ⟨ad, e, hB, fun i h => (hi i h).below (by rw [block_of_add]; exact hB) hb⟩
theorem AcL.more {w : World} {B B' : Nat} {v : Value} {l : List Ac} (h : AcL w B v l) (hB : B ≤ B') : AcL w B' v l := by
 obtain ⟨A, cap, e, h3⟩ := h
 exact ⟨A, cap, e, fun hn => (by obtain ⟨ad, e, hb, hi⟩ := h3 hn; exact ⟨ad, e, by omega, hi⟩)⟩
structure AcOk (a : Ac) : Prop where
 k : a.kind = 1 ∨ a.kind = 2
 c0 : 0 ≤ a.c
 c6 : a.c < 6
 d : a.data.size ≤ 1000
def kv0 : KV := ⟨.slice none 0 0, .slice none 0 0, .slice none 0 0, 0⟩
def M00 (mode : Int) (n : Nat) : MV := ⟨mode, n, List.replicate n (-1), fun _ => ⟨#[]⟩, fun _ => [], fun _ => [], fun _ => 0, fun _ => ⟨#[]⟩, fun _ => Ow.new, [], [], ⟨[], []⟩, List.replicate n Ow.new⟩
def V00 (n o k : Nat) : PV := ⟨.slice none 0 0, .slice none 0 0, .slice (some ⟨o, 0, none⟩) n n, .slice (some ⟨k, 0, none⟩) n n, fun _ => .slice none 0 0, fun _ => .slice none 0 0, fun _ => .slice none 0 0, fun _ => .slice none 0 0, fun _ => .slice none 0 0, fun _ => .pointer none, fun _ => .slice none 0 0, .slice none 0 0, .slice none 0 0⟩
def pool00 (mode : Int) (n o k : Nat) : Array Value := ((List.range 68).map (cellV (M00 mode n) (V00 n o k))).toArray
theorem kv_cells (n : Nat) : ((List.replicate n kv0).flatMap KV.cells).length = n * 4 := by
 induction n with
 | zero => rfl
 | succ n ih =>
  rw [List.replicate_succ, List.flatMap_cons, List.length_append, ih]
  show 4 + n * 4 = _
  omega
theorem own_blk {w : World} {g : Nat} {t : TypeId} {cs : Array Value} {B size n : Nat} (h : Blk w g t cs) (hB : B ≤ g) (hs : cs.size = n * size) (hm : n ≤ maxLen) : OwnO w B t size (.slice (some ⟨g, 0, none⟩) n n) n cs.toList :=
 ⟨by simpa using hs, .inr ⟨g, 0, n, cs, rfl, hB, h, Nat.le_refl _, hm, by omega, by rw [List.drop_zero, List.take_of_length_le (by simp; omega)]⟩⟩
theorem intV_rep (n : Nat) : intV (List.replicate n (-1)) = List.replicate n (.int .i64 (-1)) := by unfold intV; rw [List.map_replicate]
theorem rep_list {cs : Array Value} {n : Nat} {v : Value} (hs : cs.size = n) (h : ∀ j, j < n → cs[j]? = some v) : cs.toList = List.replicate n v := by
 refine List.ext_getElem? fun j => ?_
 rw [List.getElem?_replicate, Array.getElem?_toList]
 split
 ·exact h j (by assumption)
 ·exact Array.getElem?_eq_none (by omega)
theorem start_pool {w : World} {B p o k n : Nat} {mode : Int} (hp : Blk w p 101 (pool00 mode n o k)) {co : Array Value} (ho : Blk w o 3 co) (hco : co.size = n) (hc1 : ∀ j, j < n → co[j]? = some (.int .i64 (-1)))
  (hk : Blk w k 92 ((List.replicate n kv0).flatMap KV.cells).toArray) (h1 : B ≤ p) (h2 : B ≤ o) (h3 : B ≤ k) (hn : n ≤ 1000) : PoolR w B p (V00 n o k) (List.replicate n kv0) (M00 mode n) := by
 have hm : n ≤ maxLen := le_maxLen (by omega)
 have npo : p ≠ o := hp.ne_ ho (by decide)
 have npk : p ≠ k := hp.ne_ hk (by decide)
 have nok : o ≠ k := ho.ne_ hk (by decide)
 refine ⟨⟨⟨_, hp⟩, h1, OPL.nil_ _ _, ⟨[], World.ownsRow_nil _ _ _ _, rfl⟩, ?_, ?_, ?_, ?_, fun _ _ => OwnO.nil _ _ _ _, fun _ _ => OwnO.nil _ _ _ _, fun _ _ => ⟨OPL.nil_ _ _, OPL.nil_ _ _, OPL.nil_ _ _⟩, fun _ _ => .inl rfl, fun _ _ => OwnO.nil _ _ _ _, OwnO.nil _ _ _ _, OwnO.nil _ _ _ _, ?_⟩, ⟨_, hp, ?_, ?_⟩⟩
 ·have := own_blk (n := n) ho h2 (size := 1) (by omega) hm
  rw [rep_list hco hc1, ← intV_rep] at this
  show OwnO w B 3 1 (.slice (some ⟨o, 0, none⟩) n n) (List.replicate n (-1)).length _
  rw [List.length_replicate]
  exact this
 ·have := own_blk (n := n) hk h3 (size := 4) (by rw [List.size_toArray]; exact kv_cells n) hm
  show OwnO w B 92 4 (.slice (some ⟨k, 0, none⟩) n n) (List.replicate n kv0).length _
  rw [List.length_replicate]
  exact this
 ·show (List.replicate n kv0).length = (List.replicate n Ow.new).length
  rw [List.length_replicate, List.length_replicate]
 ·intro s hs
  have e1 : (List.replicate n kv0)[s] = kv0 := List.getElem_replicate ..
  have e2 : (M00 mode n).known.getD s Ow.new = Ow.new := rep_getD n s Ow.new
  rw [e1, e2]
  exact ⟨⟨OPL.nil_ _ _, OPL.nil_ _ _, OPL.nil_ _ _⟩, rfl⟩
 ·intro r r' q hr hr' e e'
  have at_ : ∀ r : Role, (V00 n o k).at p r = some q → (r = .pool ∧ q = p) ∨ (r = .owner ∧ q = o) ∨ (r = .known ∧ q = k) := by
   intro r e
   cases r
   case pool => exact .inl ⟨rfl, (Option.some.inj e).symm⟩
   case owner => exact .inr (.inl ⟨rfl, (Option.some.inj e).symm⟩)
   case known => exact .inr (.inr ⟨rfl, (Option.some.inj e).symm⟩)
   all_goals cases e
  rcases at_ r e with ⟨rfl, h⟩ | ⟨rfl, h⟩ | ⟨rfl, h⟩ <;> rcases at_ r' e' with ⟨rfl, h'⟩ | ⟨rfl, h'⟩ | ⟨rfl, h'⟩ <;> first | rfl | omega
 ·show (pool00 mode n o k).size = 68
  simp [pool00]
 ·intro j hj
  unfold pool00
  rw [List.getElem?_toArray, List.getElem?_map, List.getElem?_range hj]
  rfl
def M01 (mode : Int) (n m : Nat) : MV := { M00 mode n with srv := fun c => if c < m then -1 else 0, w := ⟨[], List.replicate n Se.new⟩ }
theorem m01_step (mode : Int) (n m : Nat) : ({ M01 mode n m with srv := up (M01 mode n m).srv m (-1) } : MV) = M01 mode n (m + 1) := by
 have e : up (M01 mode n m).srv m (-1) = (M01 mode n (m + 1)).srv := by
  funext c
  show (if c = m then (-1 : Int) else if c < m then -1 else 0) = if c < m + 1 then -1 else 0
  by_cases h : c = m
  ·rw [if_pos h, if_pos (by omega)]
  ·by_cases h2 : c < m
   ·rw [if_neg h, if_pos h2, if_pos (by omega)]
   ·rw [if_neg h, if_neg h2, if_neg (by omega)]
 rw [e]
 rfl
theorem m01_end {w : World} {B p : Nat} {V : PV} {ks : List KV} {mode : Int} {n : Nat} (h : PoolR w B p V ks (M01 mode n 6)) : PoolR w B p V ks (MV.of (startF mode n) (startP n)) := by
 have hc : ∀ c, (startF mode n).c c = Cl.new := start_c mode n
 have hlo : (startF mode n).owner.length = n := by show (List.replicate n (-1 : Int)).length = n; rw [List.length_replicate]
 have how : ∀ c, (startP n).ow c = Ow.new := fun c => rep_getD 6 c Ow.new
 have e : MV.of (startF mode n) (startP n) = { M01 mode n 6 with srv := fun _ => -1 } := by
  unfold MV.of M01 M00
  simp only [hc, hlo]
  congr 1
  funext c
  exact how c
 rw [e]
 refine ⟨⟨h.o.blk, h.o.lb, h.o.rows, h.o.ses, h.o.owner, h.o.known, h.o.klen, h.o.kn, h.o.pend, h.o.bad, h.o.ow, h.o.adr, h.o.buf, h.o.wait, h.o.deeds, h.o.apart⟩, h.b.same fun j hj => ?_⟩
 unfold cellV
 split
 ·rfl
 split
 ·have hj6 : (j - 6) / 10 < 6 := by omega
  refine congrFun (clV_ext fun k hk => ?_) _
  match k, hk with
  | 3, _ =>
   show Value.int .i64 (-1) = .int .i64 (if (j - 6) / 10 < 6 then -1 else 0)
   rw [if_pos hj6]
  | 0, _ | 1, _ | 2, _ | 4, _ | 5, _ | 6, _ | 7, _ | 8, _ | 9, _ => rfl
 ·rfl
def zcS : Nat → List Value
 | 0 => []
 | n + 1 => .int .i64 0 :: .slice none 0 0 :: .slice none 0 0 :: .slice none 0 0 :: .slice none 0 0 :: zcS n
theorem zcS_ok (w : World) (B : Nat) : ∀ n, SesC w B (zcS n) (List.replicate n Se.new)
 | 0 => rfl
 | n + 1 => ⟨_, _, _, _, zcS n, rfl, OPL.nil_ _ _, OPL.nil_ _ _, OPL.nil_ _ _, OPL.nil_ _ _, by unfold Se.new; decide, zcS_ok w B n⟩
theorem zcS_len : ∀ n, (zcS n).length = n * 5
 | 0 => rfl
 | n + 1 => by
  show (zcS n).length + 5 = _
  rw [zcS_len n]
  omega
theorem zcS_osl {w : World} {g B n : Nat} (h : Blk w g 133 (zcS n).toArray) (hB : B ≤ g) (hn : n ≤ 1000) : OSL w B (.slice (some ⟨g, 0, none⟩) n n) (List.replicate n Se.new) (zcS n) := by
 refine ⟨?_, zcS_ok w B n⟩
 have hm : n ≤ maxLen := le_maxLen (by omega)
 refine ⟨by rw [zcS_len, List.length_replicate], .inr ⟨g, n, _, by rw [List.length_replicate], hB, h, by rw [List.length_replicate]; exact Nat.le_refl _, hm, by rw [List.size_toArray, zcS_len], ?_⟩⟩
 rw [List.length_replicate, List.take_of_length_le (by simp [zcS_len])]
theorem m01_zero (mode : Int) (n : Nat) : ({ M00 mode n with w := ⟨[], List.replicate n Se.new⟩ } : MV) = M01 mode n 0 := by
 have e : (M00 mode n).srv = (M01 mode n 0).srv := by
  funext c
  show (0 : Int) = if c < 0 then -1 else 0
  rw [if_neg (by omega)]
 show MV.mk _ _ _ _ _ _ (M00 mode n).srv _ _ _ _ _ _ = _
 rw [e]
 rfl
theorem run_step (z : Fr × PB) (l : List Ac) {m : Nat} (h : m < l.length) : runM poolB z (l.take (m + 1)) = actM poolB (runM poolB z (l.take m)) l[m] := by
 unfold runM
 rw [List.take_succ_eq_append_getElem h, List.foldl_append]
 rfl
theorem run_take_ok (mode : Int) (n : Nat) (hn : n ≤ 8) {l : List Ac} (hl : ∀ a ∈ l, AcOk a) : ∀ (m : Nat), m ≤ l.length → Ok (runM poolB (startF mode n, startP n) (l.take m)) (m * 1000)
 | 0, _ => by
  have := Ok.start mode n hn
  simpa [runM] using this
 | m + 1, h => by
  have ih := run_take_ok mode n hn hl m (by omega)
  have ha := hl l[m] (List.getElem_mem _)
  rw [run_step _ _ (by omega)]
  have hc := ha.c6
  have h0 := ha.c0
  have := ih.act (a := l[m]) (by omega)
  have hd := ha.d
  exact ⟨this.sim, this.fit.more (by omega)⟩
set_option maxRecDepth 100000 in
theorem made_ses (n : Nat) (h1 : 1 ≤ n) (h4 : n ≤ 4) : ∀ w : World, (Instr.makeSlice 37 (.int .i64 (n : Int)) (.int .i64 (n : Int))).run Tryz.prog w = .ok (.slice (some ⟨w.heap.size, 0, none⟩) n n) (w.alloc (.cells (zcS n).toArray 133)) := by
 rcases (show n = 1 ∨ n = 2 ∨ n = 3 ∨ n = 4 by omega) with rfl | rfl | rfl | rfl <;> (intro w; kernel_rfl)
set_option maxRecDepth 100000 in
theorem made_own (n : Nat) (h1 : 1 ≤ n) (h4 : n ≤ 4) : ∀ w : World, (Instr.makeSlice 89 (.int .i64 (n : Int)) (.int .i64 (n : Int))).run Tryz.prog w = .ok (.slice (some ⟨w.heap.size, 0, none⟩) n n) (w.alloc (.cells ((List.replicate n kv0).flatMap KV.cells).toArray 92)) := by
 rcases (show n = 1 ∨ n = 2 ∨ n = 3 ∨ n = 4 by omega) with rfl | rfl | rfl | rfl <;> (intro w; kernel_rfl)
end Go.Proofs.YtjbnfigpflambacGreatDoor
/- The acts of raw things: tillermankeep.Acts. -/
namespace Go.Proofs.YtjbnfigpflambacGreatDoor
open Go.ChangeShapes Go.WideShapes Go.ChangeAt Go.RowKit
def inc (n : Int) : Int := wrap64 (n + 1)
def Rw.next (r : Rw) : Rw := ⟨inc r.k, inc r.a, r.b, r.c⟩
def acV (l : List Ac) : List Value := l.flatMap fun a => [.int .i64 a.kind, .int .i64 a.c, .string a.data]
theorem acV_at : ∀ (l : List Ac) (i : Nat) (h : i < l.length), (acV l)[i * 3]? = some (.int .i64 l[i].kind) ∧ (acV l)[i * 3 + 1]? = some (.int .i64 l[i].c) ∧ (acV l)[i * 3 + 2]? = some (.string l[i].data)
 | [], i, h => absurd h (by simp)
 | a :: l, 0, _ => ⟨rfl, rfl, rfl⟩
 | a :: l, i + 1, h => by
  have h' := acV_at l i (by simpa using h)
  have e : ∀ k, (acV (a :: l))[(i + 1) * 3 + k]? = (acV l)[i * 3 + k]? := fun k => by
   unfold acV
   rw [List.flatMap_cons, List.getElem?_append_right (by simp; omega)]
   simp only [List.length_cons, List.length_nil]
   congr 1
   omega
  have e0 := e 0
  rw [Nat.add_zero, Nat.add_zero] at e0
  exact ⟨e0.trans h'.1, (e 1).trans h'.2.1, (e 2).trans h'.2.2⟩
theorem acV_app (l m : List Ac) : acV (l ++ m) = acV l ++ acV m := by unfold acV; rw [List.flatMap_append]
theorem own_acl {w : World} {B : Nat} {v : Value} {l : List Ac} (h : w.ownsRow B 54 3 v l.length (acV l)) : AcL w w.heap.size v l := by
 obtain ⟨A, c, rfl⟩ := own_slice h
 have r := Reads.of_own h
 refine ⟨A, c, rfl, fun hn => ?_⟩
 obtain ⟨ad, e, hb, hc⟩ := r.2 hn
 refine ⟨ad, e, hb, fun i hi => ?_⟩
 obtain ⟨a0, a1, a2⟩ := acV_at l i hi
 have ea : ∀ j, (⟨(ad.add (i * 3)).block, (ad.add (i * 3)).off + (j + 1), none⟩ : Addr) = (ad.add (i * 3)).add (j + 1) := fun j => rfl
 refine ⟨hc _ _ a0, ?_, ?_⟩
 ·rw [ea 0, add_of_add]; exact hc _ _ a1
 ·rw [ea 1, add_of_add]; exact hc _ _ a2
structure AcS (wr wx : World) (z : Option Nat) : Prop where
 hb : Below wr.heap.size wr wx
 bz : ∀ y, z = some y → wr.heap.size ≤ y ∧ Blk wx y 54 #[.int .i64 0, .int .i64 0, .string ⟨#[]⟩]
theorem AcS.start (wr : World) : AcS wr wr none := ⟨Below.refl _ _, fun _ h => (by cases h)⟩
theorem AcS.keep {wr wx wy : World} {z : Option Nat} (h : AcS wr wx z) (hb : Below wx.heap.size wx wy) : AcS wr wy z :=
 ⟨below_step h.hb (Nat.le_refl _) hb, fun y e => ⟨(h.bz y e).1, (h.bz y e).2.keep hb⟩⟩
theorem AcS.fz {wr wx : World} (h : AcS wr wx none) : AcS wr (wx.alloc (.cells #[.int .i64 0, .int .i64 0, .string ⟨#[]⟩] 54)) (some wx.heap.size) := by
 have k := h.keep (boxed wx (.cells #[.int .i64 0, .int .i64 0, .string ⟨#[]⟩] 54))
 exact ⟨k.hb, fun y hy => (by injection hy with hy; subst hy; exact ⟨h.hb.size, Blk.new wx _ _⟩)⟩
structure AcB (wr wx : World) (z : Nat) (a : Ac) : Prop where
 hb : Below wr.heap.size wr wx
 lb : wr.heap.size ≤ z
 blk : Blk wx z 54 #[.int .i64 a.kind, .int .i64 a.c, .string a.data]
theorem AcB.keep {wr wx wy : World} {z : Nat} {a : Ac} (h : AcB wr wx z a) (hb : Below wx.heap.size wx wy) : AcB wr wy z a := ⟨below_step h.hb (Nat.le_refl _) hb, h.lb, h.blk.keep hb⟩
theorem AcB.next {w0 wr wx : World} {z : Nat} {a : Ac} (h : AcB wr wx z a) (hb : Below w0.heap.size w0 wr) : AcB w0 wx z a := ⟨hb.trans (h.hb.mono hb.size), Nat.le_trans hb.size h.lb, h.blk⟩
structure RwB (wr wx : World) (z : Nat) (x : Rw) : Prop where
 lb : wr.heap.size ≤ z
 blk : Blk wx z 44 #[.int .i64 x.k, .int .i64 x.a, .int .i64 x.b, .int .i64 x.c]
theorem RwB.keep {wr wx wy : World} {z : Nat} {x : Rw} (h : RwB wr wx z x) (hb : Below wx.heap.size wx wy) : RwB wr wy z x := ⟨h.lb, h.blk.keep hb⟩
theorem act_info : (Tryz.prog.info? 54).map (fun i => (i.zero, i.size, i.bytes)) = some (some (.agg #[.int .i64 0, .int .i64 0, .string ⟨#[]⟩]), 3, 32) := by kernel_rfl
end Go.Proofs.YtjbnfigpflambacGreatDoor
/- append of a string's bytes onto a slice of the call's own. -/
namespace Go.Proofs.YtjbnfigpflambacGreatDoor
open Go.RowKit
theorem strCells_app (a b : ByteArray) : Lib.strCells (a ++ b) = Lib.strCells a ++ Lib.strCells b := by
 unfold Lib.strCells
 simp
section
variable {P : Program} (w : World)
theorem run_append_room_stringO (t u ty e : TypeId) (i : TypeInfo) (ht : P.underlying t = some (.slice e)) (hu : P.underlying u = some .string) (hi : P.info? e = some i) (hs1 : i.size = 1)
  (g off sLen sCap : Nat) (cur : Array Value) (hg : w.heap[g]? = some (.cells cur e (0, 0))) (s : ByteArray)
  (hroom : sLen + s.size ≤ sCap) (hfit : off + sLen + s.size ≤ cur.size) :
  (Builtin.append_ #[t, u] ty #[.slice (some ⟨g, off, none⟩) sLen sCap, .string s]).run P w =
   .ok (.slice (some ⟨g, off, none⟩) (sLen + s.size) sCap) (w.setRow g (cur.toList.take (off + sLen) ++ Lib.strCells s ++ cur.toList.drop (off + sLen + s.size)).toArray) := by
 have hf := Lib.run_firstCells_string (P := P) w 1 s
 have hst := run_storeCells_at P g (off + sLen) e (Lib.strCells s) 0 cur w hg (by simpa [Lib.strCells_length] using hfit) (Lib.strCells_oneCell s)
 simp only [Nat.add_zero, Lib.strCells_length] at hst
 simp [Builtin.append_, run_underlying ht, run_underlying hu, sizeOf, typeInfo, hi, hs1, Builtin.lenOf, hroom, hf, Addr.add_lit, hst]
theorem run_append_s (B : Nat) (t u ty e : TypeId) (i : TypeInfo) (ht : P.underlying t = some (.slice e)) (hu : P.underlying u = some .string) (hi : P.info? e = some i) (hz : i.zero = some (.int .u8 0))
  (hsize : i.size = 1) (hby : i.bytes = 1)
  (v : Value) (n : Nat) (xs : List Value) (hown : OwnO w B e 1 v n xs) (s : ByteArray)
  (h63 : n + s.size ≤ maxLen) (hbytes : n + s.size ≤ 140737488355328) (hbase : B ≤ w.heap.size) :
  ∃ v' w', (Builtin.append_ #[t, u] ty #[v, .string s]).run P w = .ok v' w' ∧ OwnO w' B e 1 v' (n + s.size) (xs ++ Lib.strCells s) ∧ w.grownBy w' v.ownBlock ∧
   (v'.ownBlock = v.ownBlock ∨ v'.ownBlock = some w.heap.size) := by
 have hsmall : n + s.size ≤ 9223372036854775807 := by simp only [maxLen] at h63; omega
 have hxl : xs.length = n := by simpa using hown.1
 have hlen : (xs ++ Lib.strCells s).length = (n + s.size) * 1 := by rw [List.length_append, hxl, Lib.strCells_length, Nat.mul_one]
 have hz1 : (Value.int IntKind.u8 0).cells.size = 1 := rfl
 have grown : ∀ (old : Nat), old < n + s.size → ∀ (row : Option Nat),
   OwnO (w.drew.alloc (.cells (xs.toArray ++ (Lib.strCells s).toArray ++ Builtin.zeroCells (Value.int .u8 0).cells (grownCap w (n + s.size) old e - (n + s.size))) e)) B e 1
    (.slice (some ⟨w.heap.size, 0, none⟩) (n + s.size) (grownCap w (n + s.size) old e)) (n + s.size) (xs ++ Lib.strCells s) ∧
   w.grownBy (w.drew.alloc (.cells (xs.toArray ++ (Lib.strCells s).toArray ++ Builtin.zeroCells (Value.int .u8 0).cells (grownCap w (n + s.size) old e - (n + s.size))) e)) row := by
  intro old ho row
  have hge := grownCap_ge w (n + s.size) old e
  have hcm : grownCap w (n + s.size) old e ≤ maxLen := grownCap_le_maxLen w (n + s.size) old e h63
  refine ⟨⟨hlen, .inr ⟨w.heap.size, 0, _, _, rfl, hbase, heap_alloc_new w.drew _, hge, hcm, ?_, ?_⟩⟩, ⟨rfl, rfl, rfl, by simp, fun k hk _ => Below.heap_alloc w.drew _ k hk⟩⟩
  ·simp only [Array.size_append, List.size_toArray, size_zeroCells, hz1, hxl, Lib.strCells_length]
   omega
  ·simp only [Array.toList_append, List.append_assoc, List.drop_zero]
   rw [← List.append_assoc, ← hlen]
   exact List.take_left
 rcases hown.2 with ⟨rfl, rfl⟩ | ⟨g, off, cap, cur, rfl, hbg, hg, hnc, hcm, hcs, htake⟩
 ·have hx : xs = [] := List.eq_nil_of_length_eq_zero hxl
  subst hx
  by_cases hm : s.size = 0
  ·have hn : Lib.strCells s = [] := List.eq_nil_of_length_eq_zero (by rw [Lib.strCells_length]; exact hm)
   refine ⟨.slice none 0 0, w, ?_, by rw [hm, hn]; exact OwnO.nil w B e 1, World.grownBy.refl w _, .inl rfl⟩
   have hf := Lib.run_firstCells_string (P := P) w 1 s
   rw [hm] at hf
   simp [Builtin.append_, run_underlying ht, run_underlying hu, sizeOf, typeInfo, hi, hsize, Builtin.lenOf, hm, hf]
  ·have hr := run_append_nil_string (P := P) w t u ty e i (.int .u8 0) ht hu hi hz s (by omega) (by omega) (by rw [hby]; omega)
   have hgr := grown 0 (by omega) (Value.ownBlock (.slice none 0 0))
   simp only [Nat.zero_add, List.nil_append, Array.empty_append] at hgr ⊢
   have e1 : (s.data.map fun b => Value.int .u8 b.toNat) = (Lib.strCells s).toArray := by
    apply Array.ext'
    simp [Lib.strCells]
   rw [e1] at hr
   exact ⟨_, _, hr, hgr.1, hgr.2, .inr rfl⟩
 ·by_cases hroom : n + s.size ≤ cap
  ·have hr := run_append_room_stringO (P := P) w t u ty e i ht hu hi hsize g off n cap cur hg s hroom (by omega)
   have hcl : cur.toList.length = cur.size := Array.length_toList
   refine ⟨_, _, hr, ⟨hlen, .inr ⟨g, off, cap, _, rfl, hbg, setRow_heap w g cur _ e _ hg, hroom, hcm, ?_, ?_⟩⟩, ⟨rfl, rfl, rfl, by simp, fun k _ hk => setRow_other w g k _ (fun e => hk (by simp [Value.ownBlock, e]))⟩, .inl rfl⟩
   ·simp only [List.size_toArray, List.length_append, List.length_take, List.length_drop, Array.length_toList, Lib.strCells_length]
    omega
   ·have e1 : cur.toList.take (off + n) = cur.toList.take off ++ xs := by
     rw [← htake, List.take_add, Nat.mul_one]
    have e2 : (cur.toList.take off).length = off := by rw [List.length_take, Array.length_toList]; omega
    rw [e1]
    simp only [List.append_assoc]
    rw [List.drop_left' e2, ← List.append_assoc, ← hlen]
    exact List.take_left
  ·obtain ⟨A', c', e', _, hr0⟩ := hown.reads
   have holds : ∀ j u, xs[j]? = some u → w.cell? ((⟨g, off, none⟩ : Addr).add j) = some u := by
    intro j u hj
    injection e' with e1 _ _
    rcases Nat.eq_zero_or_pos n with h0 | h0
    ·have hx : xs = [] := List.eq_nil_of_length_eq_zero (by omega)
     rw [hx] at hj
     cases hj
    ·obtain ⟨ad, e2, _, hc⟩ := hr0.2 h0
     rw [← e1] at e2
     injection e2 with e2
     subst e2
     exact hc j u hj
   have hr := Lib.run_append_grow_string (P := P) w t u ty e i (.int .u8 0) ht hu hi hz ⟨g, off, none⟩ n cap xs (by rw [hsize, Nat.mul_one]; exact hxl) holds s (by omega) (by omega) (by rw [hby, Nat.mul_one]; have := growslice_fits (need := n + s.size) (old := cap) (bytes := 1) (by omega) (by omega); omega)
   have hgr := grown cap (by omega) (Value.ownBlock (.slice (some ⟨g, off, none⟩) n cap))
   exact ⟨_, _, hr, hgr.1, hgr.2, .inr rfl⟩
theorem wpList_append_s {ops : Array Oper} {rest : List Oper} {o : Oper} {a : Act} {Q : Exit → Act → World → Prop} (hgd : o.guard = none) (x y : Operand) (t u : TypeId)
  (ho : o.op = .call { callee := .builtin .append, args := #[x, y], argTypes := #[t, u] })
  (B : Nat) (e : TypeId) (i : TypeInfo) (ht : P.underlying t = some (.slice e)) (hu : P.underlying u = some .string) (hi : P.info? e = some i) (hz : i.zero = some (.int .u8 0))
  (hsize : i.size = 1) (hby : i.bytes = 1)
  (v : Value) (n : Nat) (xs : List Value) (hx : a.eval x = v) (hown : OwnO w B e 1 v n xs) (s : ByteArray) (hy : a.eval y = .string s)
  (h63 : n + s.size ≤ maxLen) (hbytes : n + s.size ≤ 140737488355328) (hbase : B ≤ w.heap.size)
  (h : ∀ v' w', OwnO w' B e 1 v' (n + s.size) (xs ++ Lib.strCells s) → w.grownBy w' v.ownBlock → (v'.ownBlock = v.ownBlock ∨ v'.ownBlock = some w.heap.size) → wpList P ops Q rest (a.put o.dst v') w') :
  wpList P ops Q (o :: rest) a w := by
 refine wpList_plain hgd fun K hK => ?_
 obtain ⟨v', w', hr, h2, h3, h4⟩ := run_append_s (P := P) w B t u o.type e i ht hu hi hz hsize hby v n xs hown s h63 hbytes hbase
 unfold Oper.wp execOp
 simp only [ho, resolve, invoke, builtin, Sem.run_bind, Sem.run_pure, Result.andThen_ok, List.map_toArray, List.map_cons, List.map_nil, hx, hy, hr]
 exact hK _ _ (h v' w' h2 h3 h4)
end
end Go.Proofs.YtjbnfigpflambacGreatDoor
