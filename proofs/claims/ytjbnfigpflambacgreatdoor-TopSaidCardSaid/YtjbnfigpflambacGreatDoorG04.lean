/- A raw thing's statement: what tillermankeep.Stmt returns. Plain laws of the texts of statements: text that was read is the text of the statement; the statements of raw things are valid and read back. The walk of StmtsBack. An argument that is a slice of raw things. Plain laws, no program: messages and the texts of answers. say.Pack and say.Unpack, and what the reference says: what each returns. -/
import Derived.Test.YtjbnfigpflambacGreatDoorG00
import Derived.Test.YtjbnfigpflambacGreatDoorG01
import Derived.Test.YtjbnfigpflambacGreatDoorG03
import Derived.Lib.IndexLaws
/- A raw thing's statement: what tillermankeep.Stmt returns. -/
namespace Go.Proofs.YtjbnfigpflambacGreatDoor
open Go.ChangeShapes Go.WideShapes Go.ChangeAt Go.RowKit
def keysL : List ByteArray := [⟨#[97]⟩, ⟨#[98]⟩, ⟨#[114, 111, 119]⟩, ⟨#[110, 97, 109, 101]⟩]
def keyT (i : Int) : ByteArray := keysL.getD i.toNat ByteArray.empty
def valT (i : Int) : ByteArray := (⟨#[118]⟩ : ByteArray) ++ numT i
def prepsL (v : ByteArray) : List ByteArray := [⟨#[103, 101, 116, 32, 97]⟩, ⟨#[114, 101, 97, 100, 32, 114, 111, 119]⟩, (⟨#[112, 117, 116, 32, 114, 111, 119, 32]⟩ : ByteArray) ++ v, ⟨#[112, 117, 116, 32, 98, 32, 120]⟩]
def prepT (i : Int) (v : ByteArray) : ByteArray := (prepsL v).getD i.toNat ByteArray.empty
def stAt (k a b c d : Int) : St :=
 if k < 3 then ⟨1, ⟨#[]⟩, ⟨#[]⟩⟩ else if k < 5 then ⟨2, ⟨#[]⟩, ⟨#[]⟩⟩ else if k = 5 then ⟨3, ⟨#[]⟩, ⟨#[]⟩⟩ else if k = 6 then ⟨if c = 0 then 4 else 5, ⟨#[]⟩, ⟨#[]⟩⟩
 else if k < 10 then ⟨6, keyT a, ⟨#[]⟩⟩ else if k < 13 then ⟨7, keyT a, ⟨#[]⟩⟩ else if k < 15 then ⟨8, keyT a, ⟨#[]⟩⟩
 else if k < 18 then ⟨9, keyT a, valT b⟩ else if k < 22 then ⟨10, keyT a, valT b⟩ else ⟨11, keyT a, prepT d (valT b)⟩
def rawS (k a b c : Int) : St := stAt (pick k 24) (pick a 4) (pick b 12) (pick c 3) (pick c 4)
theorem below3 {n : Int} (h0 : 0 ≤ n) (h1 : n < 3) : n = 0 ∨ n = 1 ∨ n = 2 := by omega
theorem below4 {n : Int} (h0 : 0 ≤ n) (h1 : n < 4) : n = 0 ∨ n = 1 ∨ n = 2 ∨ n = 3 := by omega
structure RH (w0 : World) (k a b c : Int) (w : World) : Prop where
 bel : Below w0.heap.size w0 w
 raw : Blk w w0.heap.size 44 #[.int .i64 k, .int .i64 a, .int .i64 b, .int .i64 c]
 res : Blk w (w0.heap.size + 1) 41 #[.int .i64 0, .string ⟨#[]⟩, .string ⟨#[]⟩]
theorem RH.start (w : World) (k a b c : Int) : RH w k a b c ((w.alloc (.cells #[.int .i64 k, .int .i64 a, .int .i64 b, .int .i64 c] 44 (0, 0))).alloc (.cells #[.int .i64 0, .string ⟨#[]⟩, .string ⟨#[]⟩] 41 (0, 0))) := by
 refine ⟨boxed2 w _ _, (Blk.new w _ _).alloc _, ?_⟩
 have h := Blk.new (w.alloc (.cells #[.int .i64 k, .int .i64 a, .int .i64 b, .int .i64 c] 44 (0, 0))) 41 #[.int .i64 0, .string ⟨#[]⟩, .string ⟨#[]⟩]
 have e : ∀ o : Obj, (w.alloc o).heap.size = w.heap.size + 1 := fun o => by simp
 rw [e] at h
 exact h
theorem RH.alloc {w0 w : World} {k a b c : Int} (h : RH w0 k a b c w) (o : Obj) : RH w0 k a b c (w.alloc o) :=
 ⟨h.bel.alloc h.bel.size o, h.raw.alloc o, h.res.alloc o⟩
theorem str_k {s t : ByteArray} (h : s = t) : Value.string s = .string t := by rw [h]
theorem st_cases (K I V C D : Int) : (K < 3 ∧ stAt K I V C D = ⟨1, ⟨#[]⟩, ⟨#[]⟩⟩) ∨ (3 ≤ K ∧ K < 5 ∧ stAt K I V C D = ⟨2, ⟨#[]⟩, ⟨#[]⟩⟩) ∨ (K = 5 ∧ stAt K I V C D = ⟨3, ⟨#[]⟩, ⟨#[]⟩⟩) ∨ (K = 6 ∧ stAt K I V C D = ⟨if C = 0 then 4 else 5, ⟨#[]⟩, ⟨#[]⟩⟩) ∨ (7 ≤ K ∧ K < 10 ∧ stAt K I V C D = ⟨6, keyT I, ⟨#[]⟩⟩) ∨ (10 ≤ K ∧ K < 13 ∧ stAt K I V C D = ⟨7, keyT I, ⟨#[]⟩⟩) ∨ (13 ≤ K ∧ K < 15 ∧ stAt K I V C D = ⟨8, keyT I, ⟨#[]⟩⟩) ∨ (15 ≤ K ∧ K < 18 ∧ stAt K I V C D = ⟨9, keyT I, valT V⟩) ∨ (18 ≤ K ∧ K < 22 ∧ stAt K I V C D = ⟨10, keyT I, valT V⟩) ∨ (22 ≤ K ∧ stAt K I V C D = ⟨11, keyT I, prepT D (valT V)⟩) := by
 unfold stAt
 by_cases h0 : K < 3
 ·exact .inl ⟨by omega, by rw [if_pos h0]⟩
 by_cases h1 : K < 5
 ·exact .inr (.inl ⟨by omega, by omega, by rw [if_neg h0, if_pos h1]⟩)
 by_cases h2 : K = 5
 ·exact .inr (.inr (.inl ⟨by omega, by rw [if_neg h0, if_neg h1, if_pos h2]⟩))
 by_cases h3 : K = 6
 ·exact .inr (.inr (.inr (.inl ⟨by omega, by rw [if_neg h0, if_neg h1, if_neg h2, if_pos h3]⟩)))
 by_cases h4 : K < 10
 ·exact .inr (.inr (.inr (.inr (.inl ⟨by omega, by omega, by rw [if_neg h0, if_neg h1, if_neg h2, if_neg h3, if_pos h4]⟩))))
 by_cases h5 : K < 13
 ·exact .inr (.inr (.inr (.inr (.inr (.inl ⟨by omega, by omega, by rw [if_neg h0, if_neg h1, if_neg h2, if_neg h3, if_neg h4, if_pos h5]⟩)))))
 by_cases h6 : K < 15
 ·exact .inr (.inr (.inr (.inr (.inr (.inr (.inl ⟨by omega, by omega, by rw [if_neg h0, if_neg h1, if_neg h2, if_neg h3, if_neg h4, if_neg h5, if_pos h6]⟩))))))
 by_cases h7 : K < 18
 ·exact .inr (.inr (.inr (.inr (.inr (.inr (.inr (.inl ⟨by omega, by omega, by rw [if_neg h0, if_neg h1, if_neg h2, if_neg h3, if_neg h4, if_neg h5, if_neg h6, if_pos h7]⟩)))))))
 by_cases h8 : K < 22
 ·exact .inr (.inr (.inr (.inr (.inr (.inr (.inr (.inr (.inl ⟨by omega, by omega, by rw [if_neg h0, if_neg h1, if_neg h2, if_neg h3, if_neg h4, if_neg h5, if_neg h6, if_neg h7, if_pos h8]⟩))))))))
 exact .inr (.inr (.inr (.inr (.inr (.inr (.inr (.inr (.inr (⟨by omega, by rw [if_neg h0, if_neg h1, if_neg h2, if_neg h3, if_neg h4, if_neg h5, if_neg h6, if_neg h7, if_neg h8]⟩)))))))))
set_option maxHeartbeats 2000000 in
theorem stmt_any (k a b c : Int) (hk : (Lit.int .i64 k).wf = true) (ha : (Lit.int .i64 a).wf = true) (hb : (Lit.int .i64 b).wf = true) (hc : (Lit.int .i64 c).wf = true) (w : World) :
  Calls Tryz.prog 16 #[.agg #[.int .i64 k, .int .i64 a, .int .i64 b, .int .i64 c]] w fun e w' => e = .returned (rawS k a b c).v ∧ Below w.heap.size w w' := by
 unfold rawS
 obtain ⟨k0, k1⟩ := pick_bd k 24 (by decide)
 obtain ⟨a0, a1⟩ := pick_bd a 4 (by decide)
 obtain ⟨b0, b1⟩ := pick_bd b 12 (by decide)
 obtain ⟨c0, c1⟩ := pick_bd c 3 (by decide)
 obtain ⟨d0, d1⟩ := pick_bd c 4 (by decide)
 obtain ⟨K, hK⟩ : ∃ K, pick k 24 = K := ⟨_, rfl⟩
 obtain ⟨I, hI⟩ : ∃ I, pick a 4 = I := ⟨_, rfl⟩
 obtain ⟨V, hV⟩ : ∃ V, pick b 12 = V := ⟨_, rfl⟩
 obtain ⟨C, hC⟩ : ∃ C, pick c 3 = C := ⟨_, rfl⟩
 obtain ⟨D, hD⟩ : ∃ D, pick c 4 = D := ⟨_, rfl⟩
 rw [hK] at k0 k1 ⊢
 rw [hI] at a0 a1 ⊢
 rw [hV] at b0 b1 ⊢
 rw [hC] at c0 c1 ⊢
 rw [hD] at d0 d1 ⊢
 have PK : ∀ w : World, _ := fun w => picked_is k 24 K w hk (by decide) (by decide) hK
 have PA : ∀ w : World, _ := fun w => picked_is a 4 I w ha (by decide) (by decide) hI
 have PB : ∀ w : World, _ := fun w => picked_is b 12 V w hb (by decide) (by decide) hV
 have PC : ∀ w : World, _ := fun w => picked_is c 3 C w hc (by decide) (by decide) hC
 have PD : ∀ w : World, _ := fun w => picked_is c 4 D w hc (by decide) (by decide) hD
 have PI : ∀ w : World, _ := fun w => itoa_any V b0 b1 w
 have XK := Lib.hid PK
 have XA := Lib.hid PA
 have XB := Lib.hid PB
 have XC := Lib.hid PC
 have XD := Lib.hid PD
 have XI := Lib.hid PI
 clear hk ha hb hc hK hI hV hC hD PK PA PB PC PD PI
 go_enter Tryz.func16, Tryz.ntmps16
 go_upto_region 1 with fail
 go_cut [3] (fun v wx => v = .string (keyT I) ∧ RH w k a b c wx)
 case first =>
  have hz1 : ∀ o : Obj, (w.alloc o).heap.size = w.heap.size + 1 := fun o => by simp
  rcases below4 a0 a1 with rfl | rfl | rfl | rfl
  all_goals
   go_wp2_with fail
   refine (XA.out _).mono ?_
   rintro e w1 ⟨rfl, rfl⟩
   go_wp2_with fail
   go_meet
   exact ⟨str_k (by decide +kernel), (RH.start w k a b c).alloc _⟩
 case rest =>
  obtain ⟨rfl, hr⟩ := hcut
  have r0 := hr.raw.cell_ 0 _ rfl
  have r1 := hr.raw.cell_ 1 _ rfl
  have r2 := hr.raw.cell_ 2 _ rfl
  have r3 := hr.raw.cell_ 3 _ rfl
  have s0 := hr.res.cell_ 0 _ rfl
  have s1 := hr.res.cell_ 1 _ rfl
  have s2 := hr.res.cell_ 2 _ rfl
  have fs := hr.res.frozen
  have lr := hr.raw.lt
  have ls := hr.res.lt
  have nr : w.heap.size ≠ wc.heap.size := Nat.ne_of_lt lr
  have nr' : wc.heap.size ≠ w.heap.size := Ne.symm nr
  have ns : w.heap.size + 1 ≠ wc.heap.size := Nat.ne_of_lt ls
  have ns' : wc.heap.size ≠ w.heap.size + 1 := Ne.symm ns
  have HR := Lib.hid hr
  clear hr
  have hlk : (keyT I).size ≤ 4 := by
   rcases below4 a0 a1 with rfl | rfl | rfl | rfl <;> decide +kernel
  have hln : (numT V).size ≤ 2 := by
   rcases below12 b0 b1 with rfl | rfl | rfl | rfl | rfl | rfl | rfl | rfl | rfl | rfl | rfl | rfl <;> decide +kernel
  go_wp2_with fail
  refine (XB.out _).mono ?_
  rintro e w1 ⟨rfl, rfl⟩
  go_wp2_with fail
  refine (XI.out _).mono ?_
  rintro e w1 ⟨rfl, rfl⟩
  go_wp2_with fail
  refine (XK.out _).mono ?_
  rintro e w1 ⟨rfl, rfl⟩
  rcases st_cases K I V C D with ⟨h1, e⟩ | ⟨h1, h2, e⟩ | ⟨rfl, e⟩ | ⟨rfl, e⟩ | ⟨h1, h2, e⟩ | ⟨h1, h2, e⟩ | ⟨h1, h2, e⟩ | ⟨h1, h2, e⟩ | ⟨h1, h2, e⟩ | ⟨h1, e⟩
  ·have b5 : (K == 5) = false := by simp; omega
   have b6 : (K == 6) = false := by simp; omega
   go_wp2_with fail
   refine bodyPost_ret (v := St.v ⟨1, ⟨#[]⟩, ⟨#[]⟩⟩) ?_ rfl ⟨by rw [e], ?_⟩
   ·simp [results, Tryz.results16, go_sem, St.v, s0, s1, s2]
   ·exact ((HR.out.bel.setCell (Nat.le_succ _) _).setCell (Nat.le_succ _) _).setCell (Nat.le_succ _) _
  ·have b5 : (K == 5) = false := by simp; omega
   have b6 : (K == 6) = false := by simp; omega
   go_wp2_with fail
   refine bodyPost_ret (v := St.v ⟨2, ⟨#[]⟩, ⟨#[]⟩⟩) ?_ rfl ⟨by rw [e], ?_⟩
   ·simp [results, Tryz.results16, go_sem, St.v, s0, s1, s2]
   ·exact ((HR.out.bel.setCell (Nat.le_succ _) _).setCell (Nat.le_succ _) _).setCell (Nat.le_succ _) _
  ·go_wp2_with fail
   refine bodyPost_ret (v := St.v ⟨3, ⟨#[]⟩, ⟨#[]⟩⟩) ?_ rfl ⟨by rw [e], ?_⟩
   ·simp [results, Tryz.results16, go_sem, St.v, s0, s1, s2]
   ·exact ((HR.out.bel.setCell (Nat.le_succ _) _).setCell (Nat.le_succ _) _).setCell (Nat.le_succ _) _
  ·rcases below3 c0 c1 with rfl | rfl | rfl
   ·go_wp2_with fail
    refine (XC.out _).mono ?_
    rintro e' w1 ⟨rfl, rfl⟩
    go_wp2_with fail
    have B := (((HR.out.res.set_ 0 (.int .i64 4)).set_ 1 (.string ⟨#[]⟩)).set_ 2 (.string ⟨#[]⟩)).alloc (.cells #[.int .i64 4, .int .i64 5, .int .i64 5] 3 (0, 0))
    have t0 := B.cell_ 0 _ rfl
    have t1 := B.cell_ 1 _ rfl
    have t2 := B.cell_ 2 _ rfl
    refine bodyPost_ret (v := St.v ⟨4, ⟨#[]⟩, ⟨#[]⟩⟩) ?_ rfl ⟨by rw [e]; rfl, ?_⟩
    ·simp [results, Tryz.results16, go_sem, St.v, t0, t1, t2]
    ·exact (((HR.out.bel.setCell (Nat.le_succ _) _).setCell (Nat.le_succ _) _).setCell (Nat.le_succ _) _).alloc (by have := lr; simp; omega) _
   ·go_wp2_with fail
    refine (XC.out _).mono ?_
    rintro e' w1 ⟨rfl, rfl⟩
    go_wp2_with fail
    have B := (((HR.out.res.set_ 0 (.int .i64 5)).set_ 1 (.string ⟨#[]⟩)).set_ 2 (.string ⟨#[]⟩)).alloc (.cells #[.int .i64 4, .int .i64 5, .int .i64 5] 3 (0, 0))
    have t0 := B.cell_ 0 _ rfl
    have t1 := B.cell_ 1 _ rfl
    have t2 := B.cell_ 2 _ rfl
    refine bodyPost_ret (v := St.v ⟨5, ⟨#[]⟩, ⟨#[]⟩⟩) ?_ rfl ⟨by rw [e]; rfl, ?_⟩
    ·simp [results, Tryz.results16, go_sem, St.v, t0, t1, t2]
    ·exact (((HR.out.bel.setCell (Nat.le_succ _) _).setCell (Nat.le_succ _) _).setCell (Nat.le_succ _) _).alloc (by have := lr; simp; omega) _
   ·go_wp2_with fail
    refine (XC.out _).mono ?_
    rintro e' w1 ⟨rfl, rfl⟩
    go_wp2_with fail
    have B := (((HR.out.res.set_ 0 (.int .i64 5)).set_ 1 (.string ⟨#[]⟩)).set_ 2 (.string ⟨#[]⟩)).alloc (.cells #[.int .i64 4, .int .i64 5, .int .i64 5] 3 (0, 0))
    have t0 := B.cell_ 0 _ rfl
    have t1 := B.cell_ 1 _ rfl
    have t2 := B.cell_ 2 _ rfl
    refine bodyPost_ret (v := St.v ⟨5, ⟨#[]⟩, ⟨#[]⟩⟩) ?_ rfl ⟨by rw [e]; rfl, ?_⟩
    ·simp [results, Tryz.results16, go_sem, St.v, t0, t1, t2]
    ·exact (((HR.out.bel.setCell (Nat.le_succ _) _).setCell (Nat.le_succ _) _).setCell (Nat.le_succ _) _).alloc (by have := lr; simp; omega) _
  ·have b5 : (K == 5) = false := by simp; omega
   have b6 : (K == 6) = false := by simp; omega
   go_wp2_with fail
   refine bodyPost_ret (v := St.v ⟨6, keyT I, ⟨#[]⟩⟩) ?_ rfl ⟨by rw [e], ?_⟩
   ·simp [results, Tryz.results16, go_sem, St.v, s0, s1, s2]
   ·exact ((HR.out.bel.setCell (Nat.le_succ _) _).setCell (Nat.le_succ _) _).setCell (Nat.le_succ _) _
  ·have b5 : (K == 5) = false := by simp; omega
   have b6 : (K == 6) = false := by simp; omega
   go_wp2_with fail
   refine bodyPost_ret (v := St.v ⟨7, keyT I, ⟨#[]⟩⟩) ?_ rfl ⟨by rw [e], ?_⟩
   ·simp [results, Tryz.results16, go_sem, St.v, s0, s1, s2]
   ·exact ((HR.out.bel.setCell (Nat.le_succ _) _).setCell (Nat.le_succ _) _).setCell (Nat.le_succ _) _
  ·have b5 : (K == 5) = false := by simp; omega
   have b6 : (K == 6) = false := by simp; omega
   go_wp2_with fail
   refine bodyPost_ret (v := St.v ⟨8, keyT I, ⟨#[]⟩⟩) ?_ rfl ⟨by rw [e], ?_⟩
   ·simp [results, Tryz.results16, go_sem, St.v, s0, s1, s2]
   ·exact ((HR.out.bel.setCell (Nat.le_succ _) _).setCell (Nat.le_succ _) _).setCell (Nat.le_succ _) _
  ·have b5 : (K == 5) = false := by simp; omega
   have b6 : (K == 6) = false := by simp; omega
   go_wp2_with fail
   refine bodyPost_ret (v := St.v ⟨9, keyT I, valT V⟩) ?_ rfl ⟨by rw [e], ?_⟩
   ·simp [results, Tryz.results16, go_sem, St.v, s0, s1, s2, valT]
   ·exact ((HR.out.bel.setCell (Nat.le_succ _) _).setCell (Nat.le_succ _) _).setCell (Nat.le_succ _) _
  ·have b5 : (K == 5) = false := by simp; omega
   have b6 : (K == 6) = false := by simp; omega
   go_wp2_with fail
   refine bodyPost_ret (v := St.v ⟨10, keyT I, valT V⟩) ?_ rfl ⟨by rw [e], ?_⟩
   ·simp [results, Tryz.results16, go_sem, St.v, s0, s1, s2, valT]
   ·exact ((HR.out.bel.setCell (Nat.le_succ _) _).setCell (Nat.le_succ _) _).setCell (Nat.le_succ _) _
  ·have b5 : (K == 5) = false := by simp; omega
   have b6 : (K == 6) = false := by simp; omega
   rcases below4 d0 d1 with rfl | rfl | rfl | rfl
   ·go_wp2_with fail
    refine (XD.out _).mono ?_
    rintro e' w1 ⟨rfl, rfl⟩
    go_wp2_with fail
    have B := (((HR.out.res.set_ 0 (.int .i64 11)).set_ 1 (.string (keyT I))).set_ 2 (.string ⟨#[103, 101, 116, 32, 97]⟩)).alloc (.cells #[.string ⟨#[103, 101, 116, 32, 97]⟩, .string ⟨#[114, 101, 97, 100, 32, 114, 111, 119]⟩, .string ((⟨#[112, 117, 116, 32, 114, 111, 119, 32]⟩ : ByteArray) ++ ((⟨#[118]⟩ : ByteArray) ++ numT V)), .string ⟨#[112, 117, 116, 32, 98, 32, 120]⟩] 9 (0, 0))
    have t0 := B.cell_ 0 _ rfl
    have t1 := B.cell_ 1 _ rfl
    have t2 := B.cell_ 2 _ rfl
    refine bodyPost_ret (v := St.v ⟨11, keyT I, ⟨#[103, 101, 116, 32, 97]⟩⟩) ?_ rfl ⟨by rw [e]; rfl, ?_⟩
    ·simp [results, Tryz.results16, go_sem, St.v, t0, t1, t2]
    ·exact (((HR.out.bel.setCell (Nat.le_succ _) _).setCell (Nat.le_succ _) _).setCell (Nat.le_succ _) _).alloc (by have := lr; simp; omega) _
   ·go_wp2_with fail
    refine (XD.out _).mono ?_
    rintro e' w1 ⟨rfl, rfl⟩
    go_wp2_with fail
    have B := (((HR.out.res.set_ 0 (.int .i64 11)).set_ 1 (.string (keyT I))).set_ 2 (.string ⟨#[114, 101, 97, 100, 32, 114, 111, 119]⟩)).alloc (.cells #[.string ⟨#[103, 101, 116, 32, 97]⟩, .string ⟨#[114, 101, 97, 100, 32, 114, 111, 119]⟩, .string ((⟨#[112, 117, 116, 32, 114, 111, 119, 32]⟩ : ByteArray) ++ ((⟨#[118]⟩ : ByteArray) ++ numT V)), .string ⟨#[112, 117, 116, 32, 98, 32, 120]⟩] 9 (0, 0))
    have t0 := B.cell_ 0 _ rfl
    have t1 := B.cell_ 1 _ rfl
    have t2 := B.cell_ 2 _ rfl
    refine bodyPost_ret (v := St.v ⟨11, keyT I, ⟨#[114, 101, 97, 100, 32, 114, 111, 119]⟩⟩) ?_ rfl ⟨by rw [e]; rfl, ?_⟩
    ·simp [results, Tryz.results16, go_sem, St.v, t0, t1, t2]
    ·exact (((HR.out.bel.setCell (Nat.le_succ _) _).setCell (Nat.le_succ _) _).setCell (Nat.le_succ _) _).alloc (by have := lr; simp; omega) _
   ·go_wp2_with fail
    refine (XD.out _).mono ?_
    rintro e' w1 ⟨rfl, rfl⟩
    go_wp2_with fail
    have B := (((HR.out.res.set_ 0 (.int .i64 11)).set_ 1 (.string (keyT I))).set_ 2 (.string ((⟨#[112, 117, 116, 32, 114, 111, 119, 32]⟩ : ByteArray) ++ ((⟨#[118]⟩ : ByteArray) ++ numT V)))).alloc (.cells #[.string ⟨#[103, 101, 116, 32, 97]⟩, .string ⟨#[114, 101, 97, 100, 32, 114, 111, 119]⟩, .string ((⟨#[112, 117, 116, 32, 114, 111, 119, 32]⟩ : ByteArray) ++ ((⟨#[118]⟩ : ByteArray) ++ numT V)), .string ⟨#[112, 117, 116, 32, 98, 32, 120]⟩] 9 (0, 0))
    have t0 := B.cell_ 0 _ rfl
    have t1 := B.cell_ 1 _ rfl
    have t2 := B.cell_ 2 _ rfl
    refine bodyPost_ret (v := St.v ⟨11, keyT I, ((⟨#[112, 117, 116, 32, 114, 111, 119, 32]⟩ : ByteArray) ++ ((⟨#[118]⟩ : ByteArray) ++ numT V))⟩) ?_ rfl ⟨by rw [e]; rfl, ?_⟩
    ·simp [results, Tryz.results16, go_sem, St.v, t0, t1, t2]
    ·exact (((HR.out.bel.setCell (Nat.le_succ _) _).setCell (Nat.le_succ _) _).setCell (Nat.le_succ _) _).alloc (by have := lr; simp; omega) _
   ·go_wp2_with fail
    refine (XD.out _).mono ?_
    rintro e' w1 ⟨rfl, rfl⟩
    go_wp2_with fail
    have B := (((HR.out.res.set_ 0 (.int .i64 11)).set_ 1 (.string (keyT I))).set_ 2 (.string ⟨#[112, 117, 116, 32, 98, 32, 120]⟩)).alloc (.cells #[.string ⟨#[103, 101, 116, 32, 97]⟩, .string ⟨#[114, 101, 97, 100, 32, 114, 111, 119]⟩, .string ((⟨#[112, 117, 116, 32, 114, 111, 119, 32]⟩ : ByteArray) ++ ((⟨#[118]⟩ : ByteArray) ++ numT V)), .string ⟨#[112, 117, 116, 32, 98, 32, 120]⟩] 9 (0, 0))
    have t0 := B.cell_ 0 _ rfl
    have t1 := B.cell_ 1 _ rfl
    have t2 := B.cell_ 2 _ rfl
    refine bodyPost_ret (v := St.v ⟨11, keyT I, ⟨#[112, 117, 116, 32, 98, 32, 120]⟩⟩) ?_ rfl ⟨by rw [e]; rfl, ?_⟩
    ·simp [results, Tryz.results16, go_sem, St.v, t0, t1, t2]
    ·exact (((HR.out.bel.setCell (Nat.le_succ _) _).setCell (Nat.le_succ _) _).setCell (Nat.le_succ _) _).alloc (by have := lr; simp; omega) _
end Go.Proofs.YtjbnfigpflambacGreatDoor
/- Plain laws of the texts of statements: text that was read is the text of the statement; the statements of raw things are valid and read back. The walk of StmtsBack. -/
namespace Go.Proofs.YtjbnfigpflambacGreatDoor
open Go.ChangeShapes Go.WideShapes Go.ChangeAt Go.RowKit
def okB (s : St) : Bool := decide (checkE s = 0) && decide (readE (textOf s) = 0) && decide ((readS (textOf s)).k = s.k) && decide ((readS (textOf s)).key = s.key) && decide ((readS (textOf s)).val = s.val)
theorem ok_of {s : St} (h : okB s = true) : checkE s = 0 ∧ readE (textOf s) = 0 ∧ readS (textOf s) = s := by
 unfold okB at h
 simp only [Bool.and_eq_true, decide_eq_true_eq] at h
 obtain ⟨⟨⟨⟨h1, h2⟩, h3⟩, h4⟩, h5⟩ := h
 refine ⟨h1, h2, ?_⟩
 obtain ⟨k, key, val⟩ := s
 generalize readS (textOf ⟨k, key, val⟩) = r at h3 h4 h5
 obtain ⟨k', key', val'⟩ := r
 simp only at h3 h4 h5
 rw [h3, h4, h5]
def fourR : List Int := [0, 1, 2, 3]
def twelveR : List Int := [0, 1, 2, 3, 4, 5, 6, 7, 8, 9, 10, 11]
theorem in4 {n : Int} (h0 : 0 ≤ n) (h1 : n < 4) : n ∈ fourR := by
 rcases below4 h0 h1 with rfl | rfl | rfl | rfl <;> simp [fourR]
theorem in12 {n : Int} (h0 : 0 ≤ n) (h1 : n < 12) : n ∈ twelveR := by
 rcases below12 h0 h1 with rfl | rfl | rfl | rfl | rfl | rfl | rfl | rfl | rfl | rfl | rfl | rfl <;> simp [twelveR]
theorem ok_low : [1, 2, 3, 4, 5].all (fun k => okB ⟨k, ⟨#[]⟩, ⟨#[]⟩⟩) = true := by decide +kernel
theorem ok_mid : [6, 7, 8].all (fun k => fourR.all fun a => okB ⟨k, keyT a, ⟨#[]⟩⟩) = true := by decide +kernel
theorem ok_top : [9, 10].all (fun k => fourR.all fun a => twelveR.all fun b => okB ⟨k, keyT a, valT b⟩) = true := by decide +kernel
theorem ok_prep : fourR.all (fun a => twelveR.all fun b => fourR.all fun d => okB ⟨11, keyT a, prepT d (valT b)⟩) = true := by decide +kernel
theorem ok_raw (K I V C D : Int) (_k0 : 0 ≤ K) (_k1 : K < 24) (a0 : 0 ≤ I) (a1 : I < 4) (b0 : 0 ≤ V) (b1 : V < 12) (d0 : 0 ≤ D) (d1 : D < 4) : okB (stAt K I V C D) = true := by
 have mI := in4 a0 a1
 have mV := in12 b0 b1
 have mD := in4 d0 d1
 have low : ∀ k ∈ [(1 : Int), 2, 3, 4, 5], okB ⟨k, ⟨#[]⟩, ⟨#[]⟩⟩ = true := List.all_eq_true.1 ok_low
 have mid : ∀ k ∈ [(6 : Int), 7, 8], okB ⟨k, keyT I, ⟨#[]⟩⟩ = true := fun k hk => List.all_eq_true.1 (List.all_eq_true.1 ok_mid k hk) I mI
 have top : ∀ k ∈ [(9 : Int), 10], okB ⟨k, keyT I, valT V⟩ = true := fun k hk => List.all_eq_true.1 (List.all_eq_true.1 (List.all_eq_true.1 ok_top k hk) I mI) V mV
 have prep : okB ⟨11, keyT I, prepT D (valT V)⟩ = true := List.all_eq_true.1 (List.all_eq_true.1 (List.all_eq_true.1 ok_prep I mI) V mV) D mD
 rcases st_cases K I V C D with ⟨-, e⟩ | ⟨-, -, e⟩ | ⟨-, e⟩ | ⟨-, e⟩ | ⟨-, -, e⟩ | ⟨-, -, e⟩ | ⟨-, -, e⟩ | ⟨-, -, e⟩ | ⟨-, -, e⟩ | ⟨-, e⟩
 all_goals rw [e]
 ·exact low 1 (by simp)
 ·exact low 2 (by simp)
 ·exact low 3 (by simp)
 ·split
  ·exact low 4 (by simp)
  ·exact low 5 (by simp)
 ·exact mid 6 (by simp)
 ·exact mid 7 (by simp)
 ·exact mid 8 (by simp)
 ·exact top 9 (by simp)
 ·exact top 10 (by simp)
 ·exact prep
theorem raw_ok (k a b c : Int) : checkE (rawS k a b c) = 0 ∧ readE (textOf (rawS k a b c)) = 0 ∧ readS (textOf (rawS k a b c)) = rawS k a b c :=
 ok_of (ok_raw _ _ _ _ _ (pick_bd k 24 (by decide)).1 (pick_bd k 24 (by decide)).2 (pick_bd a 4 (by decide)).1 (pick_bd a 4 (by decide)).2 (pick_bd b 12 (by decide)).1 (pick_bd b 12 (by decide)).2 (pick_bd c 4 (by decide)).1 (pick_bd c 4 (by decide)).2)
theorem raw_size (k a b c : Int) : (rawS k a b c).key.size ≤ 60 ∧ (rawS k a b c).val.size ≤ 60 := by
 have h := (raw_ok k a b c).1
 have hv := valid_sorts h
 have hz := valid_sizes h
 have he : ∀ x : ByteArray, x.toList.isEmpty = true → x.size ≤ 60 := fun x hx => by
  have := size_of_nil (by simpa using hx)
  omega
 rcases hv with ⟨-, -, e1, e2⟩ | ⟨h1, -, -, e2⟩ | ⟨h1, -⟩
 ·exact ⟨he _ e1, he _ e2⟩
 ·exact ⟨(hz h1).1, he _ e2⟩
 ·exact ⟨(hz (by omega)).1, (hz (by omega)).2 h1⟩
end Go.Proofs.YtjbnfigpflambacGreatDoor
/- An argument that is a slice of raw things. -/
namespace Go.Proofs.YtjbnfigpflambacGreatDoor
open Go.ChangeShapes Go.WideShapes Go.ChangeAt Go.RowKit Go.Deep Go.Joins
structure Rw where
 (k a b c : Int)
def Rw.st (x : Rw) : St := rawS x.k x.a x.b x.c
structure Rw.Wf (x : Rw) : Prop where
 k : (Lit.int .i64 x.k).wf = true
 a : (Lit.int .i64 x.a).wf = true
 b : (Lit.int .i64 x.b).wf = true
 c : (Lit.int .i64 x.c).wf = true
instance : Inhabited Rw := ⟨⟨0, 0, 0, 0⟩⟩
structure RwAt (w : World) (p : Addr) (x : Rw) : Prop where
 k : w.cell? p = some (.int .i64 x.k)
 a : w.cell? ⟨p.block, p.off + 1, none⟩ = some (.int .i64 x.a)
 b : w.cell? ⟨p.block, p.off + 2, none⟩ = some (.int .i64 x.b)
 c : w.cell? ⟨p.block, p.off + 3, none⟩ = some (.int .i64 x.c)
def RL (w : World) (B : Nat) (v : Value) (l : List Rw) : Prop :=
 ∃ A cap, v = .slice A l.length cap ∧ l.length ≤ cap ∧ cap ≤ maxLen ∧ (0 < l.length → ∃ ad, A = some ad ∧ ad.block < B ∧ ∀ i (h : i < l.length), RwAt w (ad.add (i * 4)) l[i]) ∧ ∀ x ∈ l, x.Wf
theorem RwAt.below {w w' : World} {B : Nat} {p : Addr} {x : Rw} (h : RwAt w p x) (hp : p.block < B) (hb : Below B w w') : RwAt w' p x :=
 ⟨(hb.cell hp).trans h.k, (hb.cell (by exact hp)).trans h.a, (hb.cell (by exact hp)).trans h.b, (hb.cell (by exact hp)).trans h.c⟩
theorem RL.below {w w' : World} {B : Nat} {v : Value} {l : List Rw} (h : RL w B v l) (hb : Below B w w') : RL w' B v l := by
 obtain ⟨A, cap, e, h1, h2, h3, h4⟩ := h
 refine ⟨A, cap, e, h1, h2, fun hn => ?_, h4⟩
 obtain ⟨ad, e, hB, hi⟩ := h3 hn
 exact ⟨ad, e, hB, fun i h => (hi i h).below (by rw [block_of_add]; exact hB) hb⟩
theorem RL.more {w : World} {B B' : Nat} {v : Value} {l : List Rw} (h : RL w B v l) (hB : B ≤ B') : RL w B' v l := by
 obtain ⟨A, cap, e, h1, h2, h3, h4⟩ := h
 exact ⟨A, cap, e, h1, h2, fun hn => (by obtain ⟨ad, e, hb, hi⟩ := h3 hn; exact ⟨ad, e, by omega, hi⟩), h4⟩
set_option maxRecDepth 100000 in
theorem open_raws {H : Type} {enc : TypeId × Value → H} {W : World} {base base' : Nat} {sp : Nat → Bool} {held : Bool} {v : Value} {d : DataW H} {p : List MemPlace} (hv : Value.okWide Tryz.prog W .any base 35 v) (k : DataW.Trod enc Tryz.prog W base' sp held 35 v d p) :
  ∃ l, RL W W.heap.size v l := by
 obtain ⟨a0, len, cap, rfl⟩ := okWide_slice Tryz.underlying35 hv
 obtain ⟨fuel, h⟩ := k
 rcases open_slice_fields Tryz.underlying35 Tryz.underlying44 (by kernel_rfl) (by kernel_rfl) h with ⟨hc, _⟩ | ⟨a, len', cap', m, D, Pl, hc, hb, hl, hm, hmm, hx, hf⟩
 ·simp only [Value.cells, List.cons.injEq, Value.slice.injEq, and_true] at hc
  obtain ⟨rfl, rfl, rfl⟩ := hc
  exact ⟨[], none, 0, rfl, Nat.le_refl _, Nat.zero_le _, fun h => absurd h (by simp), by simp⟩
 ·simp only [Value.cells, List.cons.injEq, Value.slice.injEq, and_true] at hc
  obtain ⟨rfl, rfl, rfl⟩ := hc
  have hlm : len ≤ m := by rw [hmm]; split <;> omega
  have each : ∀ i, i < len → ∃ x : Rw, RwAt W (a.add (i * 4)) x ∧ x.Wf := by
   intro i hi
   obtain ⟨ys, n', hDi, _, hyl, hj⟩ := hf i (by omega)
   obtain ⟨v0, y0, c0, _, t0⟩ := hj 0 _ rfl
   obtain ⟨v1, y1, c1, _, t1⟩ := hj 1 _ rfl
   obtain ⟨v2, y2, c2, _, t2⟩ := hj 2 _ rfl
   obtain ⟨v3, y3, c3, _, t3⟩ := hj 3 _ rfl
   obtain ⟨q0, e0, _, w0⟩ := DataW.trod_int Tryz.underlying3 t0
   obtain ⟨q1, e1, _, w1⟩ := DataW.trod_int Tryz.underlying3 t1
   obtain ⟨q2, e2, _, w2⟩ := DataW.trod_int Tryz.underlying3 t2
   obtain ⟨q3, e3, _, w3⟩ := DataW.trod_int Tryz.underlying3 t3
   obtain rfl : v0 = _ := by simpa using e0
   obtain rfl : v1 = _ := by simpa using e1
   obtain rfl : v2 = _ := by simpa using e2
   obtain rfl : v3 = _ := by simpa using e3
   have ea : ∀ j, (⟨(a.add (i * 4)).block, (a.add (i * 4)).off + (j + 1), none⟩ : Addr) = a.add (i * 4 + (j + 1)) := fun j => by rw [← add_of_add]; rfl
   exact ⟨⟨q0, q1, q2, q3⟩, ⟨c0, by rw [ea 0]; exact c1, by rw [ea 1]; exact c2, by rw [ea 2]; exact c3⟩, ⟨w0, w1, w2, w3⟩⟩
  obtain ⟨f, hfp⟩ := choose_lt each
  have hlen : ((List.range len).map f).length = len := by simp
  refine ⟨(List.range len).map f, some a, cap, by rw [hlen], by rw [hlen]; exact hl, hm, fun hn => ⟨a, rfl, ?_, fun i hi => ?_⟩, fun x hx => ?_⟩
  ·have := World.block_lt_of_cell? W _ (hfp 0 (by rw [hlen] at hn; exact hn)).1.k
   rwa [block_of_add] at this
  ·rw [getElem_map_range]
   exact (hfp i (by rw [hlen] at hi; exact hi)).1
  ·obtain ⟨i, hi, rfl⟩ := List.mem_map.1 hx
   exact (hfp i (List.mem_range.1 hi)).2
end Go.Proofs.YtjbnfigpflambacGreatDoor
/- Plain laws, no program: messages and the texts of answers. -/
namespace Go.Proofs.YtjbnfigpflambacGreatDoor
theorem arr_eq {a b : ByteArray} (h : a.data.toList = b.data.toList) : a = b := by
 obtain ⟨⟨x⟩⟩ := a
 obtain ⟨⟨y⟩⟩ := b
 simp only at h
 rw [h]
def msg (k : UInt8) (s : ByteArray) : ByteArray := ⟨#[k, UInt8.ofNat s.size]⟩ ++ s
def packS (k : UInt8) (s : ByteArray) : ByteArray := if 120 < s.size then ⟨#[]⟩ else msg k s
def packE (s : ByteArray) : Int := if 120 < s.size then 1 else 0
def whole (s : ByteArray) : Prop := ∃ h : 1 < s.size, 2 + (s[1]'h).toNat ≤ s.size
def stB (st : Int) : ByteArray := if st = 0 then ⟨#[73]⟩ else if st = 1 then ⟨#[84]⟩ else ⟨#[70]⟩
def bodyB (k : Int) (t : ByteArray) : ByteArray := if k = 1 then ⟨#[111, 107]⟩ else if k = 2 then ⟨#[61]⟩ ++ t else if k = 3 then ⟨#[110, 111, 110, 101]⟩ else ⟨#[33]⟩ ++ t
def headN (s : ByteArray) : Nat := 2 + (s.data.toList.getD 1 0).toNat
def wholeB (s : ByteArray) : Bool := decide (2 ≤ s.size) && decide (headN s ≤ s.size)
def kindAt (s : ByteArray) : UInt8 := s.data.toList.getD 0 0
def textAt (s : ByteArray) : ByteArray := s.extract 2 (headN s)
def restAt (s : ByteArray) : ByteArray := s.extract (headN s) s.size
theorem msg_size (k : UInt8) (t : ByteArray) : (msg k t).size = 2 + t.size := by
 unfold msg
 rw [ByteArray.size_append]
 rfl
theorem list_get {s : ByteArray} {i : Nat} (h : i < s.size) : s[i]'h = s.data.toList[i]'(by simpa using h) := by simp; rfl
theorem extract_list (s : ByteArray) (a b : Nat) : (s.extract a b).data.toList = (s.data.toList.drop a).take (b - a) := by simp
theorem whole_iff (s : ByteArray) : wholeB s = true ↔ whole s := by
 unfold wholeB whole headN
 simp only [Bool.and_eq_true, decide_eq_true_eq]
 constructor
 ·rintro ⟨h1, h2⟩
  refine ⟨by omega, ?_⟩
  rw [list_get]
  have hl : 1 < s.data.toList.length := by have : s.data.toList.length = s.size := by simp
                                           omega
  rw [List.getD_eq_getElem?_getD, List.getElem?_eq_getElem hl] at h2
  exact h2
 ·rintro ⟨h1, h2⟩
  refine ⟨by omega, ?_⟩
  rw [list_get] at h2
  have hl : 1 < s.data.toList.length := by simpa using h1
  rw [List.getD_eq_getElem?_getD, List.getElem?_eq_getElem hl]
  exact h2
theorem rest_lt {s : ByteArray} (h : wholeB s = true) : (restAt s).size < s.size := by
 unfold wholeB at h
 simp only [Bool.and_eq_true, decide_eq_true_eq] at h
 unfold restAt
 rw [ByteArray.size_extract]
 have : 2 ≤ headN s := by unfold headN; omega
 omega
theorem rest_le (s : ByteArray) (h : wholeB s = true) : (restAt s).size + 2 ≤ s.size := by
 unfold wholeB at h
 simp only [Bool.and_eq_true, decide_eq_true_eq] at h
 unfold restAt
 rw [ByteArray.size_extract]
 have : 2 ≤ headN s := by unfold headN; omega
 omega
def fitA (k : Int) (t : ByteArray) (st : Int) : Bool :=
 decide (1 ≤ k) && decide (k ≤ 4) && decide (0 ≤ st) && decide (st ≤ 2) && (!(decide (k = 2) || decide (k = 4)) == t.data.toList.isEmpty) && decide (t.size ≤ 60)
def tellS (k : Int) (t : ByteArray) (st : Int) : ByteArray := if fitA k t st = true then stB st ++ bodyB k t else ⟨#[]⟩
end Go.Proofs.YtjbnfigpflambacGreatDoor
/- say.Pack and say.Unpack, and what the reference says: what each returns. -/
namespace Go.Proofs.YtjbnfigpflambacGreatDoor
open Go.ChangeShapes Go.WideShapes Go.ChangeAt Go.RowKit
theorem two_bytes (k : UInt8) (s : ByteArray) (w : World) (h : s.size ≤ 120) :
  (convert 94 9 (.slice (some ⟨w.heap.size, 0, none⟩) 2 2)).run Tryz.prog (w.alloc (.cells #[.int .u8 (k.toNat : Int), .int .u8 (s.size : Int)] 5)) = .ok (.string ⟨#[k, UInt8.ofNat s.size]⟩) (w.alloc (.cells #[.int .u8 (k.toNat : Int), .int .u8 (s.size : Int)] 5)) := by
 have hm : s.size % 256 = s.size := by omega
 exact run_convert_bytes_back (P := Tryz.prog) _ 94 9 5 ⟨w.heap.size, 0, none⟩ 2 [k, UInt8.ofNat s.size] Tryz.underlying94 Tryz.underlying5 Tryz.underlying9 (fun j hj => by
  rcases j with _ | _ | j
  ·exact (cell_of_row _ _ 0 _ _ (0, 0) (heap_alloc_new w _))
  ·refine (cell_of_row _ _ 1 _ _ (0, 0) (heap_alloc_new w _)).trans ?_
   simp [hm]
  ·simp at hj; omega)
set_option maxRecDepth 100000 in
theorem pack_ok (k : UInt8) (s : ByteArray) (w : World) (h : s.size ≤ 120) :
  Calls Tryz.prog 39 #[.int .u8 (k.toNat : Int), .string s] w fun e w' => e = .returned (.tuple #[.string (msg k s), .int .i64 0]) ∧ Below w.heap.size w w' := by
 have H := two_bytes k s w h
 go_enter Tryz.func39, Tryz.ntmps39
 go_wp2
 go_ret2
 exact ⟨rfl, (Below.refl _ _).alloc (Nat.le_refl _) _⟩
set_option maxRecDepth 100000 in
theorem pack_big (k : UInt8) (s : ByteArray) (w : World) (h : 120 < s.size) (hm : s.size ≤ maxLen) :
  Calls Tryz.prog 39 #[.int .u8 (k.toNat : Int), .string s] w fun e w' => e = .returned (.tuple #[.string ⟨#[]⟩, .int .i64 1]) ∧ Below w.heap.size w w' := by
 unfold maxLen at hm
 go_enter Tryz.func39, Tryz.ntmps39
 go_wp2
 go_ret2
 exact ⟨rfl, Below.refl _ _⟩
theorem pack_any (k : UInt8) (s : ByteArray) (w : World) (hm : s.size ≤ maxLen) :
  Calls Tryz.prog 39 #[.int .u8 (k.toNat : Int), .string s] w fun e w' => e = .returned (.tuple #[.string (packS k s), .int .i64 (packE s)]) ∧ Below w.heap.size w w' := by
 unfold packS packE
 by_cases h : 120 < s.size
 ·rw [if_pos h, if_pos h]; exact pack_big k s w h hm
 ·rw [if_neg h, if_neg h]; exact pack_ok k s w (by omega)
end Go.Proofs.YtjbnfigpflambacGreatDoor
