/- A raw thing's statement: what tillermankeep.Stmt returns. -/
import Derived.Test.YtjbnfigpflambabDoorPick
import Derived.Test.YtjbnfigpflambabDoorItoa
import Derived.Test.YtjbnfigpflambabDoorStmtOf
namespace Go.Proofs.YtjbnfigpflambabDoor
open Go.ChangeShapes Go.WideShapes Go.ChangeAt Go.RowKit

def keysL : List ByteArray := [⟨#[97]⟩, ⟨#[98]⟩, ⟨#[114, 111, 119]⟩, ⟨#[110, 97, 109, 101]⟩]
def keyT (i : Int) : ByteArray := keysL.getD i.toNat ByteArray.empty
def valT (i : Int) : ByteArray := (⟨#[118]⟩ : ByteArray) ++ numT i
def prepsL (v : ByteArray) : List ByteArray := [⟨#[103, 101, 116, 32, 97]⟩, ⟨#[114, 101, 97, 100, 32, 114, 111, 119]⟩, (⟨#[112, 117, 116, 32, 114, 111, 119, 32]⟩ : ByteArray) ++ v, ⟨#[112, 117, 116, 32, 98, 32, 120]⟩]
def prepT (i : Int) (v : ByteArray) : ByteArray := (prepsL v).getD i.toNat ByteArray.empty
/-- out of numbers that are in range: kind 0 to 23, key 0 to 3, value 0 to 11, the rest 0 to 2 and 0 to 3 -/
def stAt (k a b c d : Int) : St :=
  if k < 3 then ⟨1, ⟨#[]⟩, ⟨#[]⟩⟩ else if k < 5 then ⟨2, ⟨#[]⟩, ⟨#[]⟩⟩ else if k = 5 then ⟨3, ⟨#[]⟩, ⟨#[]⟩⟩ else if k = 6 then ⟨if c = 0 then 4 else 5, ⟨#[]⟩, ⟨#[]⟩⟩
  else if k < 10 then ⟨6, keyT a, ⟨#[]⟩⟩ else if k < 13 then ⟨7, keyT a, ⟨#[]⟩⟩ else if k < 15 then ⟨8, keyT a, ⟨#[]⟩⟩
  else if k < 18 then ⟨9, keyT a, valT b⟩ else if k < 22 then ⟨10, keyT a, valT b⟩ else ⟨11, keyT a, prepT d (valT b)⟩
def rawS (k a b c : Int) : St := stAt (pick k 24) (pick a 4) (pick b 12) (pick c 3) (pick c 4)
theorem below3 {n : Int} (h0 : 0 ≤ n) (h1 : n < 3) : n = 0 ∨ n = 1 ∨ n = 2 := by omega
theorem below4 {n : Int} (h0 : 0 ≤ n) (h1 : n < 4) : n = 0 ∨ n = 1 ∨ n = 2 ∨ n = 3 := by omega

/-- what the walk holds -/
structure RH (w0 : World) (k a b c : Int) (w : World) : Prop where
  bel : Below w0.heap.size w0 w
  raw : Blk w w0.heap.size 42 #[.int .i64 k, .int .i64 a, .int .i64 b, .int .i64 c]
  res : Blk w (w0.heap.size + 1) 23 #[.int .i64 0, .string ⟨#[]⟩, .string ⟨#[]⟩]
theorem RH.start (w : World) (k a b c : Int) : RH w k a b c ((w.alloc (.cells #[.int .i64 k, .int .i64 a, .int .i64 b, .int .i64 c] 42 (0, 0))).alloc (.cells #[.int .i64 0, .string ⟨#[]⟩, .string ⟨#[]⟩] 23 (0, 0))) := by
  refine ⟨boxed2 w _ _, (Blk.new w _ _).alloc _, ?_⟩
  have h := Blk.new (w.alloc (.cells #[.int .i64 k, .int .i64 a, .int .i64 b, .int .i64 c] 42 (0, 0))) 23 #[.int .i64 0, .string ⟨#[]⟩, .string ⟨#[]⟩]
  have e : ∀ o : Obj, (w.alloc o).heap.size = w.heap.size + 1 := fun o => by simp
  rw [e] at h
  exact h
theorem RH.alloc {w0 w : World} {k a b c : Int} (h : RH w0 k a b c w) (o : Obj) : RH w0 k a b c (w.alloc o) :=
  ⟨h.bel.alloc h.bel.size o, h.raw.alloc o, h.res.alloc o⟩
theorem str_k {s t : ByteArray} (h : s = t) : Value.string s = .string t := by rw [h]
theorem st_cases (K I V C D : Int) : (K < 3 ∧ stAt K I V C D = ⟨1, ⟨#[]⟩, ⟨#[]⟩⟩) ∨ (3 ≤ K ∧ K < 5 ∧ stAt K I V C D = ⟨2, ⟨#[]⟩, ⟨#[]⟩⟩) ∨ (K = 5 ∧ stAt K I V C D = ⟨3, ⟨#[]⟩, ⟨#[]⟩⟩) ∨ (K = 6 ∧ stAt K I V C D = ⟨if C = 0 then 4 else 5, ⟨#[]⟩, ⟨#[]⟩⟩) ∨ (7 ≤ K ∧ K < 10 ∧ stAt K I V C D = ⟨6, keyT I, ⟨#[]⟩⟩) ∨ (10 ≤ K ∧ K < 13 ∧ stAt K I V C D = ⟨7, keyT I, ⟨#[]⟩⟩) ∨ (13 ≤ K ∧ K < 15 ∧ stAt K I V C D = ⟨8, keyT I, ⟨#[]⟩⟩) ∨ (15 ≤ K ∧ K < 18 ∧ stAt K I V C D = ⟨9, keyT I, valT V⟩) ∨ (18 ≤ K ∧ K < 22 ∧ stAt K I V C D = ⟨10, keyT I, valT V⟩) ∨ (22 ≤ K ∧ stAt K I V C D = ⟨11, keyT I, prepT D (valT V)⟩) := by
  unfold stAt
  by_cases h0 : K < 3
  · exact .inl ⟨by omega, by rw [if_pos h0]⟩
  by_cases h1 : K < 5
  · exact .inr (.inl ⟨by omega, by omega, by rw [if_neg h0, if_pos h1]⟩)
  by_cases h2 : K = 5
  · exact .inr (.inr (.inl ⟨by omega, by rw [if_neg h0, if_neg h1, if_pos h2]⟩))
  by_cases h3 : K = 6
  · exact .inr (.inr (.inr (.inl ⟨by omega, by rw [if_neg h0, if_neg h1, if_neg h2, if_pos h3]⟩)))
  by_cases h4 : K < 10
  · exact .inr (.inr (.inr (.inr (.inl ⟨by omega, by omega, by rw [if_neg h0, if_neg h1, if_neg h2, if_neg h3, if_pos h4]⟩))))
  by_cases h5 : K < 13
  · exact .inr (.inr (.inr (.inr (.inr (.inl ⟨by omega, by omega, by rw [if_neg h0, if_neg h1, if_neg h2, if_neg h3, if_neg h4, if_pos h5]⟩)))))
  by_cases h6 : K < 15
  · exact .inr (.inr (.inr (.inr (.inr (.inr (.inl ⟨by omega, by omega, by rw [if_neg h0, if_neg h1, if_neg h2, if_neg h3, if_neg h4, if_neg h5, if_pos h6]⟩))))))
  by_cases h7 : K < 18
  · exact .inr (.inr (.inr (.inr (.inr (.inr (.inr (.inl ⟨by omega, by omega, by rw [if_neg h0, if_neg h1, if_neg h2, if_neg h3, if_neg h4, if_neg h5, if_neg h6, if_pos h7]⟩)))))))
  by_cases h8 : K < 22
  · exact .inr (.inr (.inr (.inr (.inr (.inr (.inr (.inr (.inl ⟨by omega, by omega, by rw [if_neg h0, if_neg h1, if_neg h2, if_neg h3, if_neg h4, if_neg h5, if_neg h6, if_neg h7, if_pos h8]⟩))))))))
  exact .inr (.inr (.inr (.inr (.inr (.inr (.inr (.inr (.inr (⟨by omega, by rw [if_neg h0, if_neg h1, if_neg h2, if_neg h3, if_neg h4, if_neg h5, if_neg h6, if_neg h7, if_neg h8]⟩)))))))))
set_option maxHeartbeats 2000000 in
theorem stmt_any (k a b c : Int) (hk : (Lit.int .i64 k).wf = true) (ha : (Lit.int .i64 a).wf = true) (hb : (Lit.int .i64 b).wf = true) (hc : (Lit.int .i64 c).wf = true) (w : World) :
    Calls Tryd.prog 20 #[.agg #[.int .i64 k, .int .i64 a, .int .i64 b, .int .i64 c]] w fun e w' => e = .returned (rawS k a b c).v ∧ Below w.heap.size w w' := by
  unfold rawS
  obtain ⟨k0, k1⟩ := pick_bd k 24 (by decide)
  obtain ⟨a0, a1⟩ := pick_bd a 4 (by decide)
  obtain ⟨b0, b1⟩ := pick_bd b 12 (by decide)
  obtain ⟨c0, c1⟩ := pick_bd c 3 (by decide)
  obtain ⟨d0, d1⟩ := pick_bd c 4 (by decide)
  obtain ⟨K, hK⟩ : ∃ K, pick k 24 = K := ⟨_, rfl⟩
  obtain ⟨I, hI⟩ : ∃ I, pick a 4 = I := ⟨_, rfl⟩
  obtain ⟨V, hV⟩ : ∃ V, pick b 12 = V := ⟨_, rfl⟩
  obtain ⟨C, hC⟩ : ∃ C, pick c 3 = C := ⟨_, rfl⟩
  obtain ⟨D, hD⟩ : ∃ D, pick c 4 = D := ⟨_, rfl⟩
  rw [hK] at k0 k1 ⊢
  rw [hI] at a0 a1 ⊢
  rw [hV] at b0 b1 ⊢
  rw [hC] at c0 c1 ⊢
  rw [hD] at d0 d1 ⊢
  have PK : ∀ w : World, _ := fun w => picked_is k 24 K w hk (by decide) (by decide) hK
  have PA : ∀ w : World, _ := fun w => picked_is a 4 I w ha (by decide) (by decide) hI
  have PB : ∀ w : World, _ := fun w => picked_is b 12 V w hb (by decide) (by decide) hV
  have PC : ∀ w : World, _ := fun w => picked_is c 3 C w hc (by decide) (by decide) hC
  have PD : ∀ w : World, _ := fun w => picked_is c 4 D w hc (by decide) (by decide) hD
  have PI : ∀ w : World, _ := fun w => itoa_any V b0 b1 w
  have XK := Lib.hid PK
  have XA := Lib.hid PA
  have XB := Lib.hid PB
  have XC := Lib.hid PC
  have XD := Lib.hid PD
  have XI := Lib.hid PI
  clear hk ha hb hc hK hI hV hC hD PK PA PB PC PD PI
  go_enter Tryd.func20, Tryd.ntmps20
  go_upto_region 1 with fail
  go_cut [3] (fun v wx => v = .string (keyT I) ∧ RH w k a b c wx)
  case first =>
    have hz1 : ∀ o : Obj, (w.alloc o).heap.size = w.heap.size + 1 := fun o => by simp
    rcases below4 a0 a1 with rfl | rfl | rfl | rfl
    all_goals
      go_wp2_with fail
      refine (XA.out _).mono ?_
      rintro e w1 ⟨rfl, rfl⟩
      go_wp2_with fail
      go_meet
      exact ⟨str_k (by decide +kernel), (RH.start w k a b c).alloc _⟩
  case rest =>
    obtain ⟨rfl, hr⟩ := hcut
    have r0 := hr.raw.cell_ 0 _ rfl
    have r1 := hr.raw.cell_ 1 _ rfl
    have r2 := hr.raw.cell_ 2 _ rfl
    have r3 := hr.raw.cell_ 3 _ rfl
    have s0 := hr.res.cell_ 0 _ rfl
    have s1 := hr.res.cell_ 1 _ rfl
    have s2 := hr.res.cell_ 2 _ rfl
    have fs := hr.res.frozen
    have lr := hr.raw.lt
    have ls := hr.res.lt
    have nr : w.heap.size ≠ wc.heap.size := Nat.ne_of_lt lr
    have nr' : wc.heap.size ≠ w.heap.size := Ne.symm nr
    have ns : w.heap.size + 1 ≠ wc.heap.size := Nat.ne_of_lt ls
    have ns' : wc.heap.size ≠ w.heap.size + 1 := Ne.symm ns
    have HR := Lib.hid hr
    clear hr
    have hlk : (keyT I).size ≤ 4 := by
      rcases below4 a0 a1 with rfl | rfl | rfl | rfl <;> decide +kernel
    have hln : (numT V).size ≤ 2 := by
      rcases below12 b0 b1 with rfl | rfl | rfl | rfl | rfl | rfl | rfl | rfl | rfl | rfl | rfl | rfl <;> decide +kernel
    go_wp2_with fail
    refine (XB.out _).mono ?_
    rintro e w1 ⟨rfl, rfl⟩
    go_wp2_with fail
    refine (XI.out _).mono ?_
    rintro e w1 ⟨rfl, rfl⟩
    go_wp2_with fail
    refine (XK.out _).mono ?_
    rintro e w1 ⟨rfl, rfl⟩
    rcases st_cases K I V C D with ⟨h1, e⟩ | ⟨h1, h2, e⟩ | ⟨rfl, e⟩ | ⟨rfl, e⟩ | ⟨h1, h2, e⟩ | ⟨h1, h2, e⟩ | ⟨h1, h2, e⟩ | ⟨h1, h2, e⟩ | ⟨h1, h2, e⟩ | ⟨h1, e⟩
    · have b5 : (K == 5) = false := by simp; omega
      have b6 : (K == 6) = false := by simp; omega
      go_wp2_with fail
      refine bodyPost_ret (v := St.v ⟨1, ⟨#[]⟩, ⟨#[]⟩⟩) ?_ rfl ⟨by rw [e], ?_⟩
      · simp [results, Tryd.results20, go_sem, St.v, s0, s1, s2, valT]
      · exact ((HR.out.bel.setCell (Nat.le_succ _) _).setCell (Nat.le_succ _) _).setCell (Nat.le_succ _) _
    · have b5 : (K == 5) = false := by simp; omega
      have b6 : (K == 6) = false := by simp; omega
      go_wp2_with fail
      refine bodyPost_ret (v := St.v ⟨2, ⟨#[]⟩, ⟨#[]⟩⟩) ?_ rfl ⟨by rw [e], ?_⟩
      · simp [results, Tryd.results20, go_sem, St.v, s0, s1, s2, valT]
      · exact ((HR.out.bel.setCell (Nat.le_succ _) _).setCell (Nat.le_succ _) _).setCell (Nat.le_succ _) _
    · go_wp2_with fail
      refine bodyPost_ret (v := St.v ⟨3, ⟨#[]⟩, ⟨#[]⟩⟩) ?_ rfl ⟨by rw [e], ?_⟩
      · simp [results, Tryd.results20, go_sem, St.v, s0, s1, s2, valT]
      · exact ((HR.out.bel.setCell (Nat.le_succ _) _).setCell (Nat.le_succ _) _).setCell (Nat.le_succ _) _
    · rcases below3 c0 c1 with rfl | rfl | rfl
      · go_wp2_with fail
        refine (XC.out _).mono ?_
        rintro e' w1 ⟨rfl, rfl⟩
        go_wp2_with fail
        have B := (((HR.out.res.set_ 0 (.int .i64 4)).set_ 1 (.string ⟨#[]⟩)).set_ 2 (.string ⟨#[]⟩)).alloc (.cells #[.int .i64 4, .int .i64 5, .int .i64 5] 3 (0, 0))
        have t0 := B.cell_ 0 _ rfl
        have t1 := B.cell_ 1 _ rfl
        have t2 := B.cell_ 2 _ rfl
        refine bodyPost_ret (v := St.v ⟨4, ⟨#[]⟩, ⟨#[]⟩⟩) ?_ rfl ⟨by rw [e]; rfl, ?_⟩
        · simp [results, Tryd.results20, go_sem, St.v, t0, t1, t2]
        · exact (((HR.out.bel.setCell (Nat.le_succ _) _).setCell (Nat.le_succ _) _).setCell (Nat.le_succ _) _).alloc (by have := lr; simp; omega) _
      · go_wp2_with fail
        refine (XC.out _).mono ?_
        rintro e' w1 ⟨rfl, rfl⟩
        go_wp2_with fail
        have B := (((HR.out.res.set_ 0 (.int .i64 5)).set_ 1 (.string ⟨#[]⟩)).set_ 2 (.string ⟨#[]⟩)).alloc (.cells #[.int .i64 4, .int .i64 5, .int .i64 5] 3 (0, 0))
        have t0 := B.cell_ 0 _ rfl
        have t1 := B.cell_ 1 _ rfl
        have t2 := B.cell_ 2 _ rfl
        refine bodyPost_ret (v := St.v ⟨5, ⟨#[]⟩, ⟨#[]⟩⟩) ?_ rfl ⟨by rw [e]; rfl, ?_⟩
        · simp [results, Tryd.results20, go_sem, St.v, t0, t1, t2]
        · exact (((HR.out.bel.setCell (Nat.le_succ _) _).setCell (Nat.le_succ _) _).setCell (Nat.le_succ _) _).alloc (by have := lr; simp; omega) _
      · go_wp2_with fail
        refine (XC.out _).mono ?_
        rintro e' w1 ⟨rfl, rfl⟩
        go_wp2_with fail
        have B := (((HR.out.res.set_ 0 (.int .i64 5)).set_ 1 (.string ⟨#[]⟩)).set_ 2 (.string ⟨#[]⟩)).alloc (.cells #[.int .i64 4, .int .i64 5, .int .i64 5] 3 (0, 0))
        have t0 := B.cell_ 0 _ rfl
        have t1 := B.cell_ 1 _ rfl
        have t2 := B.cell_ 2 _ rfl
        refine bodyPost_ret (v := St.v ⟨5, ⟨#[]⟩, ⟨#[]⟩⟩) ?_ rfl ⟨by rw [e]; rfl, ?_⟩
        · simp [results, Tryd.results20, go_sem, St.v, t0, t1, t2]
        · exact (((HR.out.bel.setCell (Nat.le_succ _) _).setCell (Nat.le_succ _) _).setCell (Nat.le_succ _) _).alloc (by have := lr; simp; omega) _
    · have b5 : (K == 5) = false := by simp; omega
      have b6 : (K == 6) = false := by simp; omega
      go_wp2_with fail
      refine bodyPost_ret (v := St.v ⟨6, keyT I, ⟨#[]⟩⟩) ?_ rfl ⟨by rw [e], ?_⟩
      · simp [results, Tryd.results20, go_sem, St.v, s0, s1, s2, valT]
      · exact ((HR.out.bel.setCell (Nat.le_succ _) _).setCell (Nat.le_succ _) _).setCell (Nat.le_succ _) _
    · have b5 : (K == 5) = false := by simp; omega
      have b6 : (K == 6) = false := by simp; omega
      go_wp2_with fail
      refine bodyPost_ret (v := St.v ⟨7, keyT I, ⟨#[]⟩⟩) ?_ rfl ⟨by rw [e], ?_⟩
      · simp [results, Tryd.results20, go_sem, St.v, s0, s1, s2, valT]
      · exact ((HR.out.bel.setCell (Nat.le_succ _) _).setCell (Nat.le_succ _) _).setCell (Nat.le_succ _) _
    · have b5 : (K == 5) = false := by simp; omega
      have b6 : (K == 6) = false := by simp; omega
      go_wp2_with fail
      refine bodyPost_ret (v := St.v ⟨8, keyT I, ⟨#[]⟩⟩) ?_ rfl ⟨by rw [e], ?_⟩
      · simp [results, Tryd.results20, go_sem, St.v, s0, s1, s2, valT]
      · exact ((HR.out.bel.setCell (Nat.le_succ _) _).setCell (Nat.le_succ _) _).setCell (Nat.le_succ _) _
    · have b5 : (K == 5) = false := by simp; omega
      have b6 : (K == 6) = false := by simp; omega
      go_wp2_with fail
      refine bodyPost_ret (v := St.v ⟨9, keyT I, valT V⟩) ?_ rfl ⟨by rw [e], ?_⟩
      · simp [results, Tryd.results20, go_sem, St.v, s0, s1, s2, valT]
      · exact ((HR.out.bel.setCell (Nat.le_succ _) _).setCell (Nat.le_succ _) _).setCell (Nat.le_succ _) _
    · have b5 : (K == 5) = false := by simp; omega
      have b6 : (K == 6) = false := by simp; omega
      go_wp2_with fail
      refine bodyPost_ret (v := St.v ⟨10, keyT I, valT V⟩) ?_ rfl ⟨by rw [e], ?_⟩
      · simp [results, Tryd.results20, go_sem, St.v, s0, s1, s2, valT]
      · exact ((HR.out.bel.setCell (Nat.le_succ _) _).setCell (Nat.le_succ _) _).setCell (Nat.le_succ _) _
    · have b5 : (K == 5) = false := by simp; omega
      have b6 : (K == 6) = false := by simp; omega
      rcases below4 d0 d1 with rfl | rfl | rfl | rfl
      · go_wp2_with fail
        refine (XD.out _).mono ?_
        rintro e' w1 ⟨rfl, rfl⟩
        go_wp2_with fail
        have B := (((HR.out.res.set_ 0 (.int .i64 11)).set_ 1 (.string (keyT I))).set_ 2 (.string ⟨#[103, 101, 116, 32, 97]⟩)).alloc (.cells #[.string ⟨#[103, 101, 116, 32, 97]⟩, .string ⟨#[114, 101, 97, 100, 32, 114, 111, 119]⟩, .string ((⟨#[112, 117, 116, 32, 114, 111, 119, 32]⟩ : ByteArray) ++ ((⟨#[118]⟩ : ByteArray) ++ numT V)), .string ⟨#[112, 117, 116, 32, 98, 32, 120]⟩] 9 (0, 0))
        have t0 := B.cell_ 0 _ rfl
        have t1 := B.cell_ 1 _ rfl
        have t2 := B.cell_ 2 _ rfl
        refine bodyPost_ret (v := St.v ⟨11, keyT I, ⟨#[103, 101, 116, 32, 97]⟩⟩) ?_ rfl ⟨by rw [e]; rfl, ?_⟩
        · simp [results, Tryd.results20, go_sem, St.v, t0, t1, t2]
        · exact (((HR.out.bel.setCell (Nat.le_succ _) _).setCell (Nat.le_succ _) _).setCell (Nat.le_succ _) _).alloc (by have := lr; simp; omega) _
      · go_wp2_with fail
        refine (XD.out _).mono ?_
        rintro e' w1 ⟨rfl, rfl⟩
        go_wp2_with fail
        have B := (((HR.out.res.set_ 0 (.int .i64 11)).set_ 1 (.string (keyT I))).set_ 2 (.string ⟨#[114, 101, 97, 100, 32, 114, 111, 119]⟩)).alloc (.cells #[.string ⟨#[103, 101, 116, 32, 97]⟩, .string ⟨#[114, 101, 97, 100, 32, 114, 111, 119]⟩, .string ((⟨#[112, 117, 116, 32, 114, 111, 119, 32]⟩ : ByteArray) ++ ((⟨#[118]⟩ : ByteArray) ++ numT V)), .string ⟨#[112, 117, 116, 32, 98, 32, 120]⟩] 9 (0, 0))
        have t0 := B.cell_ 0 _ rfl
        have t1 := B.cell_ 1 _ rfl
        have t2 := B.cell_ 2 _ rfl
        refine bodyPost_ret (v := St.v ⟨11, keyT I, ⟨#[114, 101, 97, 100, 32, 114, 111, 119]⟩⟩) ?_ rfl ⟨by rw [e]; rfl, ?_⟩
        · simp [results, Tryd.results20, go_sem, St.v, t0, t1, t2]
        · exact (((HR.out.bel.setCell (Nat.le_succ _) _).setCell (Nat.le_succ _) _).setCell (Nat.le_succ _) _).alloc (by have := lr; simp; omega) _
      · go_wp2_with fail
        refine (XD.out _).mono ?_
        rintro e' w1 ⟨rfl, rfl⟩
        go_wp2_with fail
        have B := (((HR.out.res.set_ 0 (.int .i64 11)).set_ 1 (.string (keyT I))).set_ 2 (.string ((⟨#[112, 117, 116, 32, 114, 111, 119, 32]⟩ : ByteArray) ++ ((⟨#[118]⟩ : ByteArray) ++ numT V)))).alloc (.cells #[.string ⟨#[103, 101, 116, 32, 97]⟩, .string ⟨#[114, 101, 97, 100, 32, 114, 111, 119]⟩, .string ((⟨#[112, 117, 116, 32, 114, 111, 119, 32]⟩ : ByteArray) ++ ((⟨#[118]⟩ : ByteArray) ++ numT V)), .string ⟨#[112, 117, 116, 32, 98, 32, 120]⟩] 9 (0, 0))
        have t0 := B.cell_ 0 _ rfl
        have t1 := B.cell_ 1 _ rfl
        have t2 := B.cell_ 2 _ rfl
        refine bodyPost_ret (v := St.v ⟨11, keyT I, ((⟨#[112, 117, 116, 32, 114, 111, 119, 32]⟩ : ByteArray) ++ ((⟨#[118]⟩ : ByteArray) ++ numT V))⟩) ?_ rfl ⟨by rw [e]; rfl, ?_⟩
        · simp [results, Tryd.results20, go_sem, St.v, t0, t1, t2]
        · exact (((HR.out.bel.setCell (Nat.le_succ _) _).setCell (Nat.le_succ _) _).setCell (Nat.le_succ _) _).alloc (by have := lr; simp; omega) _
      · go_wp2_with fail
        refine (XD.out _).mono ?_
        rintro e' w1 ⟨rfl, rfl⟩
        go_wp2_with fail
        have B := (((HR.out.res.set_ 0 (.int .i64 11)).set_ 1 (.string (keyT I))).set_ 2 (.string ⟨#[112, 117, 116, 32, 98, 32, 120]⟩)).alloc (.cells #[.string ⟨#[103, 101, 116, 32, 97]⟩, .string ⟨#[114, 101, 97, 100, 32, 114, 111, 119]⟩, .string ((⟨#[112, 117, 116, 32, 114, 111, 119, 32]⟩ : ByteArray) ++ ((⟨#[118]⟩ : ByteArray) ++ numT V)), .string ⟨#[112, 117, 116, 32, 98, 32, 120]⟩] 9 (0, 0))
        have t0 := B.cell_ 0 _ rfl
        have t1 := B.cell_ 1 _ rfl
        have t2 := B.cell_ 2 _ rfl
        refine bodyPost_ret (v := St.v ⟨11, keyT I, ⟨#[112, 117, 116, 32, 98, 32, 120]⟩⟩) ?_ rfl ⟨by rw [e]; rfl, ?_⟩
        · simp [results, Tryd.results20, go_sem, St.v, t0, t1, t2]
        · exact (((HR.out.bel.setCell (Nat.le_succ _) _).setCell (Nat.le_succ _) _).setCell (Nat.le_succ _) _).alloc (by have := lr; simp; omega) _
end Go.Proofs.YtjbnfigpflambabDoor
