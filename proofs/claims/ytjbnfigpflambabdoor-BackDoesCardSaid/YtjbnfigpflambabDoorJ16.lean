/- The reference's did at Begin and Reset. The reference's plus. The reference's allRows. -/
import Derived.Test.YtjbnfigpflambabDoorJ03
import Derived.Test.YtjbnfigpflambabDoorJ14
/- The reference's did at Begin and Reset. -/
namespace Go.Proofs.YtjbnfigpflambabDoor
open Go.ChangeShapes Go.WideShapes Go.ChangeAt Go.RowKit
set_option maxHeartbeats 8000000 in
set_option maxRecDepth 100000 in
theorem refdid_begin (w : World) (B : Nat) (r : Value) (g cap n : Nat) (W : Wo) (cs : List Value) (i : Nat) (key val : ByteArray) (hB : B ≤ w.heap.size) (hn : W.ses.length = n) (hr : OPL w B r W.rows) (hs : OSL w B (.slice (some ⟨g, 0, none⟩) n cap) W.ses cs) (hi : i < n) (hs0 : (W.se i).st = 0) :
  Calls Tryd.prog 77 #[.agg #[r, .slice (some ⟨g, 0, none⟩) n cap], .int .i64 (i : Nat), .agg #[.int .i64 1, .string key, .string val]] w (DidR w B g cap n ((W.put i ⟨1, (W.se i).set, (W.se i).pre, (W.se i).set, (W.se i).wri⟩, okA))) := by
 obtain ⟨Ar, cr, A1, z1, A2, z2, A3, z3, A4, z4, rfl, hse, hpre⟩ := did_pre hB hn hr hs hi
 have HP := Lib.hid (hpre ⟨1, key, val⟩)
 have g1 : (i : Int) < (n : Int) := by omega
 have g2 : (0 : Int) ≤ (i : Int) := by omega
 have HN := Lib.hid hn
 have HI := Lib.hid hi
 obtain ⟨R, hR⟩ : ∃ R, (W.put i ⟨1, (W.se i).set, (W.se i).pre, (W.se i).set, (W.se i).wri⟩, okA) = R := ⟨_, rfl⟩
 rw [hR]
 obtain ⟨t, ht⟩ : ∃ t, W.se i = t := ⟨_, rfl⟩
 rw [ht] at hse HP hR hs0
 have HS := Lib.hid hse
 have HR := Lib.hid hR
 clear hpre hse ht hR hn hi hr hs hB
 go_enter Tryd.func77, Tryd.ntmps77
 go_upto_region 1 with fail
 generalize hw4 : (((World.alloc _ _).alloc _).alloc _).alloc _ = w4
 obtain ⟨hz4, f1, y0, y1, y2, y3, y4, hm⟩ := HP.out w4 hw4
 rw [hs0] at y0 hm
 have HM := Lib.hid hm
 clear hw4 hm HP
 go_upto_region 3 with fail
 clear f1 y0 y1 y2 y3 y4
 generalize (World.alloc _ _).alloc _ = w6 at HM ⊢
 have s0 := HM.out.se.cell_ 0 _ rfl
 have s1 := HM.out.se.cell_ 1 _ rfl
 have r0 := HM.out.wo.cell_ 0 _ rfl
 have r1 := HM.out.wo.cell_ 1 _ rfl
 have t0 := HM.out.st.cell_ 0 _ rfl
 have fs := HM.out.se.frozen
 go_upto_region 11 with fail
 have HM1 := Lib.hid (HM.out.setS rfl 0 (.int .i64 1) rfl)
 clear s0 s1 r0 r1 t0 fs HM
 generalize World.setCell _ _ _ = w7 at HM1 ⊢
 have s1 := HM1.out.se.cell_ 1 _ rfl
 go_wp2_with fail
 refine (refpairs_any _ _ t.set ((HS.out.at_ HM1.out.bel).p1.pl)).mono ?_
 rintro e w8 ⟨a, rfl, oa, b⟩
 have HM2 := Lib.hid (HM1.out.keep b)
 have OA := Lib.hid (oa.base (B' := B) (Nat.le_trans HM1.out.hB HM1.out.bel.size))
 clear oa b s1 HM1
 obtain ⟨F, k, rfl⟩ := OA.out.form
 have s3 := HM2.out.se.cell_ 3 _ rfl
 have fs := HM2.out.se.frozen
 go_upto_region 65 with fail
 have kp : Keeps 66 w8 (w8.setCell ⟨w.heap.size + 4, 3, none⟩ (.slice F t.set.length k)) := Keeps.set_ (p := ⟨w.heap.size + 4, 3, none⟩) HM2.out.se (by decide) _
 have OB := Lib.hid (OA.out.keeps kp)
 have HM3 := Lib.hid (HM2.out.setS rfl 3 (.slice F t.set.length k) rfl)
 clear s3 fs HM2 OA kp
 generalize World.setCell _ _ _ = w9 at HM3 OB ⊢
 have r0 := HM3.out.wo.cell_ 0 _ rfl
 have r1 := HM3.out.wo.cell_ 1 _ rfl
 have s0 := HM3.out.se.cell_ 0 _ rfl
 have s1 := HM3.out.se.cell_ 1 _ rfl
 have s2 := HM3.out.se.cell_ 2 _ rfl
 have s3 := HM3.out.se.cell_ 3 _ rfl
 have s4 := HM3.out.se.cell_ 4 _ rfl
 obtain ⟨_, _, _, _, _, c0, c1, c2, c3, c4, fr⟩ := HM3.out.cells5 HN.out HI.out
 have fr0 := fr (i * 5)
 have ST := Lib.hid (HS.out.at_ HM3.out.bel)
 go_upto_region 66 with fail
 obtain ⟨cs', dn⟩ := HM3.out.put5 rfl HN.out (i := i) (by rw [HN.out]; exact HI.out) (s' := ⟨1, t.set, t.pre, t.set, t.wri⟩) ST.out.p1 ST.out.p2 OB.out ST.out.p4 ⟨by simp, by simp⟩
 clear r0 r1 s0 s1 s2 s3 s4 c0 c1 c2 c3 c4 fr fr0 ST
 have DN := Lib.hid dn
 clear dn
 generalize World.setCell _ _ _ = w9 at DN ⊢
 refine region_segs [2, 3] (by kernel_rfl) ?_
 have DN := Lib.hid (DN.out.keep (Below.refl _ _).drew)
 generalize w9.drew = w9 at DN ⊢
 have r0 := DN.out.wo.cell_ 0 _ rfl
 have r1 := DN.out.wo.cell_ 1 _ rfl
 have k0 := DN.out.ok.cell_ 0 _ rfl
 have k1 := DN.out.ok.cell_ 1 _ rfl
 have k2 := DN.out.ok.cell_ 2 _ rfl
 have u0 := DN.out.rw_.cell_ 0 _ rfl
 have u1 := DN.out.rw_.cell_ 1 _ rfl
 have v0 := DN.out.ra.cell_ 0 _ rfl
 have v1 := DN.out.ra.cell_ 1 _ rfl
 have v2 := DN.out.ra.cell_ 2 _ rfl
 have ff := DN.out.rw_.frozen
 have fg := DN.out.ra.frozen
 refine anyB_seg [0] 3 rfl (by kernel_rfl) (by kernel_rfl) (by kernel_rfl) (fun _ _ d _ _ h => by cases d <;> exact h) ?_
 simp only [pickOps, List.getElem?_toArray, List.getElem?_cons_zero]
 go_wp2_with fail
 refine ⟨rfl, by rfl, ?_⟩
 obtain ⟨E1, E2, E3, E4, E5⟩ := DN.out.toQ.ends rfl (.slice Ar W.rows.length cr) (.slice (some ⟨g, 0, none⟩) n cap) (.int .i64 1) (.string ⟨#[]⟩) (.int .i64 0)
 have q0 := E4.cell_ 0 _ rfl
 have q1 := E4.cell_ 1 _ rfl
 have p0 := E5.cell_ 0 _ rfl
 have p1 := E5.cell_ 1 _ rfl
 have p2 := E5.cell_ 2 _ rfl
 have FIN := Lib.hid (And.intro E1 (And.intro E2 E3))
 clear E1 E2 E3 E4 E5
 refine anyB_two (i := 1) (j := 2) (by kernel_rfl) rfl rfl (fun K hK => ?_) (fun K hK => ?_)
 ·go_simp
  refine hK.out _ _ (fun _ => (Below.refl _ _)) ?_
  clear hK K
  refine anyB_one (i := 2) (by kernel_rfl) rfl (fun K hK => ?_)
  go_simp
  refine hK.out _ _ (fun h => absurd (by decide) h) ?_
  clear hK K
  refine anyB_one (i := 3) (by kernel_rfl) rfl (fun K hK => ?_)
  go_simp
  refine hK.out _ _ (fun h => absurd (by decide) h) ?_
  clear hK K
  refine anyB_done (by kernel_rfl) ?_ _
  clear u0 u1 v0 v1 v2 ff fg r0 r1 k0 k1 k2
  generalize World.setCell _ _ _ = w10 at FIN q0 q1 p0 p1 p2 ⊢
  go_wp2_with fail
  refine bodyPost_ret (v := .tuple #[.agg #[.slice Ar W.rows.length cr, .slice (some ⟨g, 0, none⟩) n cap], .agg #[.int .i64 1, .string ⟨#[]⟩, .int .i64 0]]) ?_ rfl ⟨_, cs', by rw [← HR.out]; rfl, by rw [← HR.out]; exact FIN.out.2.1, by rw [← HR.out]; exact FIN.out.2.2, FIN.out.1⟩
  simp [results, Tryd.results77, go_sem, q0, q1, p0, p1, p2]
 ·go_simp
  refine hK.out _ _ (fun h => absurd (by decide) h) ?_
  clear hK K
  refine anyB_seg [1] 1 rfl (by kernel_rfl) (by kernel_rfl) (by kernel_rfl) (fun _ _ d _ _ h => by cases d <;> exact h) ?_
  simp only [pickOps, List.getElem?_toArray, List.getElem?_cons_zero, List.getElem?_cons_succ]
  go_wp2_with fail
  refine ⟨rfl, by rfl, ?_⟩
  refine anyB_one (i := 3) (by kernel_rfl) rfl (fun K hK => ?_)
  go_simp
  refine hK.out _ _ (fun h => absurd (by decide) h) ?_
  clear hK K
  refine anyB_done (by kernel_rfl) ?_ _
  clear u0 u1 v0 v1 v2 ff fg r0 r1 k0 k1 k2
  generalize World.setCell _ _ _ = w10 at FIN q0 q1 p0 p1 p2 ⊢
  go_wp2_with fail
  refine bodyPost_ret (v := .tuple #[.agg #[.slice Ar W.rows.length cr, .slice (some ⟨g, 0, none⟩) n cap], .agg #[.int .i64 1, .string ⟨#[]⟩, .int .i64 0]]) ?_ rfl ⟨_, cs', by rw [← HR.out]; rfl, by rw [← HR.out]; exact FIN.out.2.1, by rw [← HR.out]; exact FIN.out.2.2, FIN.out.1⟩
  simp [results, Tryd.results77, go_sem, q0, q1, p0, p1, p2]
set_option maxHeartbeats 8000000 in
set_option maxRecDepth 100000 in
theorem refdid_reset (w : World) (B : Nat) (r : Value) (g cap n : Nat) (W : Wo) (cs : List Value) (i : Nat) (key val : ByteArray) (hB : B ≤ w.heap.size) (hn : W.ses.length = n) (hr : OPL w B r W.rows) (hs : OSL w B (.slice (some ⟨g, 0, none⟩) n cap) W.ses cs) (hi : i < n) (hs0 : (W.se i).st = 0) :
  Calls Tryd.prog 77 #[.agg #[r, .slice (some ⟨g, 0, none⟩) n cap], .int .i64 (i : Nat), .agg #[.int .i64 4, .string key, .string val]] w (DidR w B g cap n ((W.put i ⟨0, [], [], (W.se i).sav, (W.se i).wri⟩, okA))) := by
 obtain ⟨Ar, cr, A1, z1, A2, z2, A3, z3, A4, z4, rfl, hse, hpre⟩ := did_pre hB hn hr hs hi
 have HP := Lib.hid (hpre ⟨4, key, val⟩)
 have g1 : (i : Int) < (n : Int) := by omega
 have g2 : (0 : Int) ≤ (i : Int) := by omega
 have HN := Lib.hid hn
 have HI := Lib.hid hi
 obtain ⟨R, hR⟩ : ∃ R, (W.put i ⟨0, [], [], (W.se i).sav, (W.se i).wri⟩, okA) = R := ⟨_, rfl⟩
 rw [hR]
 obtain ⟨t, ht⟩ : ∃ t, W.se i = t := ⟨_, rfl⟩
 rw [ht] at hse HP hR hs0
 have HS := Lib.hid hse
 have HR := Lib.hid hR
 clear hpre hse ht hR hn hi hr hs hB
 go_enter Tryd.func77, Tryd.ntmps77
 go_upto_region 1 with fail
 generalize hw4 : (((World.alloc _ _).alloc _).alloc _).alloc _ = w4
 obtain ⟨hz4, f1, y0, y1, y2, y3, y4, hm⟩ := HP.out w4 hw4
 rw [hs0] at y0 hm
 have HM := Lib.hid hm
 clear hw4 hm HP
 go_upto_region 3 with fail
 clear f1 y0 y1 y2 y3 y4
 generalize (World.alloc _ _).alloc _ = w6 at HM ⊢
 have s0 := HM.out.se.cell_ 0 _ rfl
 have s1 := HM.out.se.cell_ 1 _ rfl
 have s2 := HM.out.se.cell_ 2 _ rfl
 have r0 := HM.out.wo.cell_ 0 _ rfl
 have r1 := HM.out.wo.cell_ 1 _ rfl
 have t0 := HM.out.st.cell_ 0 _ rfl
 have fs := HM.out.se.frozen
 go_upto_region 65 with fail
 have HM1 := Lib.hid ((HM.out.setS rfl 1 (.slice none 0 0) rfl).setS rfl 2 (.slice none 0 0) rfl)
 clear s0 s1 s2 r0 r1 t0 fs HM
 generalize World.setCell _ _ _ = w7 at HM1 ⊢
 have r0 := HM1.out.wo.cell_ 0 _ rfl
 have r1 := HM1.out.wo.cell_ 1 _ rfl
 have s0 := HM1.out.se.cell_ 0 _ rfl
 have s1 := HM1.out.se.cell_ 1 _ rfl
 have s2 := HM1.out.se.cell_ 2 _ rfl
 have s3 := HM1.out.se.cell_ 3 _ rfl
 have s4 := HM1.out.se.cell_ 4 _ rfl
 obtain ⟨_, _, _, _, _, c0, c1, c2, c3, c4, fr⟩ := HM1.out.cells5 HN.out HI.out
 have fr0 := fr (i * 5)
 have ST := Lib.hid (HS.out.at_ HM1.out.bel)
 go_upto_region 66 with fail
 obtain ⟨cs', dn⟩ := HM1.out.put5 rfl HN.out (i := i) (by rw [HN.out]; exact HI.out) (s' := ⟨0, [], [], t.sav, t.wri⟩) (OPL.nil_ _ _) (OPL.nil_ _ _) ST.out.p3 ST.out.p4 ⟨by simp, by simp⟩
 clear r0 r1 s0 s1 s2 s3 s4 c0 c1 c2 c3 c4 fr fr0 ST
 have DN := Lib.hid dn
 clear dn
 generalize World.setCell _ _ _ = w9 at DN ⊢
 refine region_segs [2, 3] (by kernel_rfl) ?_
 have DN := Lib.hid (DN.out.keep (Below.refl _ _).drew)
 generalize w9.drew = w9 at DN ⊢
 have r0 := DN.out.wo.cell_ 0 _ rfl
 have r1 := DN.out.wo.cell_ 1 _ rfl
 have k0 := DN.out.ok.cell_ 0 _ rfl
 have k1 := DN.out.ok.cell_ 1 _ rfl
 have k2 := DN.out.ok.cell_ 2 _ rfl
 have u0 := DN.out.rw_.cell_ 0 _ rfl
 have u1 := DN.out.rw_.cell_ 1 _ rfl
 have v0 := DN.out.ra.cell_ 0 _ rfl
 have v1 := DN.out.ra.cell_ 1 _ rfl
 have v2 := DN.out.ra.cell_ 2 _ rfl
 have ff := DN.out.rw_.frozen
 have fg := DN.out.ra.frozen
 refine anyB_seg [0] 3 rfl (by kernel_rfl) (by kernel_rfl) (by kernel_rfl) (fun _ _ d _ _ h => by cases d <;> exact h) ?_
 simp only [pickOps, List.getElem?_toArray, List.getElem?_cons_zero]
 go_wp2_with fail
 refine ⟨rfl, by rfl, ?_⟩
 obtain ⟨E1, E2, E3, E4, E5⟩ := DN.out.toQ.ends rfl (.slice Ar W.rows.length cr) (.slice (some ⟨g, 0, none⟩) n cap) (.int .i64 1) (.string ⟨#[]⟩) (.int .i64 0)
 have q0 := E4.cell_ 0 _ rfl
 have q1 := E4.cell_ 1 _ rfl
 have p0 := E5.cell_ 0 _ rfl
 have p1 := E5.cell_ 1 _ rfl
 have p2 := E5.cell_ 2 _ rfl
 have FIN := Lib.hid (And.intro E1 (And.intro E2 E3))
 clear E1 E2 E3 E4 E5
 refine anyB_two (i := 1) (j := 2) (by kernel_rfl) rfl rfl (fun K hK => ?_) (fun K hK => ?_)
 ·go_simp
  refine hK.out _ _ (fun _ => (Below.refl _ _)) ?_
  clear hK K
  refine anyB_one (i := 2) (by kernel_rfl) rfl (fun K hK => ?_)
  go_simp
  refine hK.out _ _ (fun h => absurd (by decide) h) ?_
  clear hK K
  refine anyB_one (i := 3) (by kernel_rfl) rfl (fun K hK => ?_)
  go_simp
  refine hK.out _ _ (fun h => absurd (by decide) h) ?_
  clear hK K
  refine anyB_done (by kernel_rfl) ?_ _
  clear u0 u1 v0 v1 v2 ff fg r0 r1 k0 k1 k2
  generalize World.setCell _ _ _ = w10 at FIN q0 q1 p0 p1 p2 ⊢
  go_wp2_with fail
  refine bodyPost_ret (v := .tuple #[.agg #[.slice Ar W.rows.length cr, .slice (some ⟨g, 0, none⟩) n cap], .agg #[.int .i64 1, .string ⟨#[]⟩, .int .i64 0]]) ?_ rfl ⟨_, cs', by rw [← HR.out]; rfl, by rw [← HR.out]; exact FIN.out.2.1, by rw [← HR.out]; exact FIN.out.2.2, FIN.out.1⟩
  simp [results, Tryd.results77, go_sem, q0, q1, p0, p1, p2]
 ·go_simp
  refine hK.out _ _ (fun h => absurd (by decide) h) ?_
  clear hK K
  refine anyB_seg [1] 1 rfl (by kernel_rfl) (by kernel_rfl) (by kernel_rfl) (fun _ _ d _ _ h => by cases d <;> exact h) ?_
  simp only [pickOps, List.getElem?_toArray, List.getElem?_cons_zero, List.getElem?_cons_succ]
  go_wp2_with fail
  refine ⟨rfl, by rfl, ?_⟩
  refine anyB_one (i := 3) (by kernel_rfl) rfl (fun K hK => ?_)
  go_simp
  refine hK.out _ _ (fun h => absurd (by decide) h) ?_
  clear hK K
  refine anyB_done (by kernel_rfl) ?_ _
  clear u0 u1 v0 v1 v2 ff fg r0 r1 k0 k1 k2
  generalize World.setCell _ _ _ = w10 at FIN q0 q1 p0 p1 p2 ⊢
  go_wp2_with fail
  refine bodyPost_ret (v := .tuple #[.agg #[.slice Ar W.rows.length cr, .slice (some ⟨g, 0, none⟩) n cap], .agg #[.int .i64 1, .string ⟨#[]⟩, .int .i64 0]]) ?_ rfl ⟨_, cs', by rw [← HR.out]; rfl, by rw [← HR.out]; exact FIN.out.2.1, by rw [← HR.out]; exact FIN.out.2.2, FIN.out.1⟩
  simp [results, Tryd.results77, go_sem, q0, q1, p0, p1, p2]
end Go.Proofs.YtjbnfigpflambabDoor
/- The reference's plus. -/
namespace Go.Proofs.YtjbnfigpflambabDoor
open Go.ChangeShapes Go.WideShapes Go.ChangeAt Go.RowKit
theorem plF_len2 (key v : ByteArray) : ∀ (l : List Pr) (s : Bool × List Pr), (l.foldl (plF key v) s).2.length + (if s.1 = true then 1 else 0) ≤ s.2.length + l.length + (if (l.foldl (plF key v) s).1 = true then 1 else 0)
 | [], s => Nat.le_refl _
 | p :: l, (b, o) => by
  rw [List.foldl_cons]
  have h := plF_len2 key v l (plF key v (b, o) p)
  have h2 : (plF key v (b, o) p).2.length + (if b = true then 1 else 0) ≤ o.length + 1 + (if (plF key v (b, o) p).1 = true then 1 else 0) := by
   unfold plF
   cases b <;> cases ltS p.k key <;> by_cases e : p.k = key <;> simp [e]
  simp only [List.length_cons] at h h2 ⊢
  omega
theorem plF_in (key v : ByteArray) : ∀ (l : List Pr) (p : Pr), p ∈ plusP l key v → p = ⟨key, v⟩ ∨ p ∈ l
 | [], p, h => by
  have : p = ⟨key, v⟩ := by simpa [plusP] using h
  exact .inl this
 | q :: l, p, h => by
  unfold plusP at h
  split at h
  ·rcases List.mem_cons.1 h with rfl | h
   ·exact .inr List.mem_cons_self
   ·exact (plF_in key v l p h).imp id fun h => List.mem_cons_of_mem _ h
  ·rcases List.mem_cons.1 h with rfl | h
   ·exact .inl rfl
   ·exact .inr (List.mem_filter.1 h).1
set_option maxHeartbeats 8000000 in
set_option maxRecDepth 100000 in
theorem refplus_any (w : World) (v : Value) (l : List Pr) (key val : ByteArray) (h : PL w w.heap.size v l) :
  Calls Tryd.prog 60 #[v, .string key, .string val] w fun e w' => ∃ v', e = .returned v' ∧ w'.ownsRow w.heap.size 66 2 v' (plusP l key val).length (cellsP (plusP l key val)) ∧ Below w.heap.size w w' := by
 obtain ⟨i0, hi0, hz0, hz1, hz2⟩ := info_parts pair_info
 obtain ⟨A, c, rfl, hc, hr, hf⟩ := h
 have hl : l.length ≤ 4398046510976 := hf.1
 have HR := Lib.hid hr
 obtain ⟨n, hN⟩ : ∃ n, l.length = n := ⟨_, rfl⟩
 rw [hN] at hl ⊢
 have HN := Lib.hid hN
 clear hr hf hc hN
 go_enter Tryd.func60, Tryd.ntmps60
 go_wp2_with fail
 go_loopw [7, 8, 9] (fun u d i wx => ∃ (k : Nat) (b : Bool) (O : List Pr), k ≤ n ∧ i = .int .i64 k ∧ d = .bool b ∧ Hid ((l.take k).foldl (plF key val) (false, []) = (b, O)) ∧ wx.ownsRow w.heap.size 66 2 u O.length (cellsP O) ∧ Below w.heap.size w wx) (fun _ _ i _ => n - (intOf i).toNat)
 case atStart => exact ⟨0, false, [], Nat.zero_le _, rfl, rfl, Lib.hid rfl, World.ownsRow_nil _ _ _ _, Below.refl _ _⟩
 case round =>
  obtain ⟨k, b, O, hk, rfl, rfl, HS, ho, hb⟩ := hrel
  have hln := plF_len2 key val (l.take k) (false, [])
  rw [HS.out] at hln
  simp only [List.length_nil, List.length_take] at hln
  have HO := Lib.hid ho
  by_cases hlt : k < n
  ·have g1 : (k : Int) < (n : Int) := by omega
   have g2 : (0 : Int) ≤ (k : Int) := by omega
   have hkl : k < l.length := by rw [HN.out]; exact hlt
   have hr := HR.out
   obtain ⟨ad, hA, _, x0, x1⟩ := pair_at (hr.below hb) hkl
   subst hA
   have hst := plF_take hkl key val (false, [])
   rw [HS.out] at hst
   obtain ⟨p, hp⟩ : ∃ p, l[k] = p := ⟨_, rfl⟩
   rw [hp] at x0 x1 hst
   have HB := Lib.hid hb
   have HST := Lib.hid hst
   have hOb : O.length ≤ k + (if b = true then 1 else 0) := by
    have : min k l.length ≤ k := Nat.min_le_left _ _
    simp only [Bool.false_eq_true, if_false] at hln
    omega
   obtain ⟨pk, pv⟩ := p
   simp only at x0 x1
   have HPE := Lib.hid hp
   have HK := Lib.hid hkl
   clear hp hr hb ho hst hln
   cases b with
   | true =>
    simp only [if_true] at hOb
    by_cases he : pk = key
    ·subst he
     have HF := Lib.hid (show (l.take (k + 1)).foldl (plF pk val) (false, []) = (true, O) by rw [HST.out]; simp [plF])
     go_wp2_with fail
     go_roundw
     case rel => exact ⟨k + 1, _, _, by omega, by go_num, rfl, HF, HO.out, HB.out⟩
     case measure => simp [intOf]; omega
    ·have n1 := ref_str_no he
     have HF := Lib.hid (show (l.take (k + 1)).foldl (plF key val) (false, []) = (true, O ++ [⟨pk, pv⟩]) by rw [HST.out]; simp [plF, he])
     have RD := Lib.hid (Reads.new_ wr 66 #[.string pk, .string pv] (n := 1) (size := 2) rfl)
     have bb := boxed wr (.cells #[.string pk, .string pv] 66)
     have B1 := Lib.hid (below_step HB.out (Nat.le_refl _) bb)
     have O1 := Lib.hid ((Keeps.of_below bb).own HO.out)
     clear HB HO bb
     go_wp2_with (at_builtin; refine wpList_append_any _ rfl (.tmp 40) (.tmp 45) 28 rfl w.heap.size 66 i0 _ 2 32 Tryd.underlying28 hi0 hz0 hz1 hz2 rfl (by decide) _ O.length (cellsP O) rfl O1.out (wr.heap.size + 1) (some ⟨wr.heap.size, 0, none⟩) 1 1 (cellsP [⟨pk, pv⟩]) rfl RD.out (cellsP_one _) (by unfold maxLen; omega) (by omega) B1.out.size ?_; intro v' w2 hown hgr hat)
     have HB := Lib.hid (B1.out.grown hgr B1.out.size fun q hq => own_baseR O1.out q hq)
     have HO := Lib.hid (show w2.ownsRow w.heap.size 66 2 v' (O ++ [(⟨pk, pv⟩ : Pr)]).length (cellsP (O ++ [⟨pk, pv⟩])) by rw [List.length_append, cellsP_app]; exact hown)
     clear hown hgr hat RD B1 O1
     go_wp2_with fail
     go_roundw
     case rel => exact ⟨k + 1, _, _, by omega, by go_num, rfl, HF, HO.out, HB.out⟩
     case measure => simp [intOf]; omega
   | false =>
    simp only [Bool.false_eq_true, if_false, Nat.add_zero] at hOb
    cases hlt2 : ltS pk key with
    | true =>
     have e1 : Op.bytesLess pk.toList key.toList = true := hlt2
     have he : ¬ pk = key := fun e => by
      rw [e] at hlt2
      unfold ltS at hlt2
      rw [less_irrefl] at hlt2
      cases hlt2
     have n1 := ref_str_no he
     have HF := Lib.hid (show (l.take (k + 1)).foldl (plF key val) (false, []) = (false, O ++ [⟨pk, pv⟩]) by rw [HST.out]; simp [plF, he, hlt2])
     have RD := Lib.hid (Reads.new_ wr 66 #[.string pk, .string pv] (n := 1) (size := 2) rfl)
     have bb := boxed wr (.cells #[.string pk, .string pv] 66)
     have B1 := Lib.hid (below_step HB.out (Nat.le_refl _) bb)
     have O1 := Lib.hid ((Keeps.of_below bb).own HO.out)
     clear HB HO bb
     go_wp2_with (at_builtin; refine wpList_append_any _ rfl (.tmp 40) (.tmp 45) 28 rfl w.heap.size 66 i0 _ 2 32 Tryd.underlying28 hi0 hz0 hz1 hz2 rfl (by decide) _ O.length (cellsP O) rfl O1.out (wr.heap.size + 1) (some ⟨wr.heap.size, 0, none⟩) 1 1 (cellsP [⟨pk, pv⟩]) rfl RD.out (cellsP_one _) (by unfold maxLen; omega) (by omega) B1.out.size ?_; intro v' w2 hown hgr hat)
     have HB := Lib.hid (B1.out.grown hgr B1.out.size fun q hq => own_baseR O1.out q hq)
     have HO := Lib.hid (show w2.ownsRow w.heap.size 66 2 v' (O ++ [(⟨pk, pv⟩ : Pr)]).length (cellsP (O ++ [⟨pk, pv⟩])) by rw [List.length_append, cellsP_app]; exact hown)
     clear hown hgr hat RD B1 O1
     go_wp2_with fail
     go_roundw
     case rel => exact ⟨k + 1, _, _, by omega, by go_num, rfl, HF, HO.out, HB.out⟩
     case measure => simp [intOf]; omega
    | false =>
     have e1 : Op.bytesLess pk.toList key.toList = false := hlt2
     by_cases he : pk = key
     ·subst he
      have HF := Lib.hid (show (l.take (k + 1)).foldl (plF pk val) (false, []) = (true, O ++ [⟨pk, val⟩]) by rw [HST.out]; simp [plF, hlt2])
      have RD := Lib.hid (Reads.new_ wr 66 #[.string pk, .string val] (n := 1) (size := 2) rfl)
      have bb := boxed wr (.cells #[.string pk, .string val] 66)
      have B1 := Lib.hid (below_step HB.out (Nat.le_refl _) bb)
      have O1 := Lib.hid ((Keeps.of_below bb).own HO.out)
      clear HB HO bb
      go_upto_region 8 with (at_builtin; refine wpList_append_any _ rfl (.tmp 27) (.tmp 31) 28 rfl w.heap.size 66 i0 _ 2 32 Tryd.underlying28 hi0 hz0 hz1 hz2 rfl (by decide) _ O.length (cellsP O) rfl O1.out (wr.heap.size + 1) (some ⟨wr.heap.size, 0, none⟩) 1 1 (cellsP [⟨pk, val⟩]) rfl RD.out (cellsP_one _) (by unfold maxLen; omega) (by omega) B1.out.size ?_; intro v' w2 hown hgr hat)
      have HB := Lib.hid (B1.out.grown hgr B1.out.size fun q hq => own_baseR O1.out q hq)
      have HO := Lib.hid (show w2.ownsRow w.heap.size 66 2 v' (O ++ [(⟨pk, val⟩ : Pr)]).length (cellsP (O ++ [⟨pk, val⟩])) by rw [List.length_append, cellsP_app]; exact hown)
      clear hown hgr hat RD B1 O1
      obtain ⟨ad2, hA2, -, y0, y1⟩ := pair_at (HR.out.below HB.out) HK.out
      obtain rfl : ad = ad2 := by simpa using hA2
      rw [HPE.out] at y0 y1
      clear hA2 x0 x1
      go_wp2_with fail
      go_roundw
      case rel => exact ⟨k + 1, _, _, by omega, by go_num, rfl, HF, HO.out, HB.out⟩
      case measure => simp [intOf]; omega
     ·have n1 := ref_str_no he
      have HF := Lib.hid (show (l.take (k + 1)).foldl (plF key val) (false, []) = (true, O ++ [⟨key, val⟩] ++ [⟨pk, pv⟩]) by rw [HST.out]; simp [plF, he, hlt2])
      have RD := Lib.hid (Reads.new_ wr 66 #[.string key, .string val] (n := 1) (size := 2) rfl)
      have bb := boxed wr (.cells #[.string key, .string val] 66)
      have B1 := Lib.hid (below_step HB.out (Nat.le_refl _) bb)
      have O1 := Lib.hid ((Keeps.of_below bb).own HO.out)
      clear HB HO bb
      go_upto_region 8 with (at_builtin; refine wpList_append_any _ rfl (.tmp 27) (.tmp 31) 28 rfl w.heap.size 66 i0 _ 2 32 Tryd.underlying28 hi0 hz0 hz1 hz2 rfl (by decide) _ O.length (cellsP O) rfl O1.out (wr.heap.size + 1) (some ⟨wr.heap.size, 0, none⟩) 1 1 (cellsP [⟨key, val⟩]) rfl RD.out (cellsP_one _) (by unfold maxLen; omega) (by omega) B1.out.size ?_; intro v' w2 hown hgr hat)
      have HB := Lib.hid (B1.out.grown hgr B1.out.size fun q hq => own_baseR O1.out q hq)
      have HO := Lib.hid (show w2.ownsRow w.heap.size 66 2 v' (O ++ [(⟨key, val⟩ : Pr)]).length (cellsP (O ++ [⟨key, val⟩])) by rw [List.length_append, cellsP_app]; exact hown)
      clear hown hgr hat RD B1 O1
      obtain ⟨ad2, hA2, -, y0, y1⟩ := pair_at (HR.out.below HB.out) HK.out
      obtain rfl : ad = ad2 := by simpa using hA2
      rw [HPE.out] at y0 y1
      clear hA2 x0 x1
      have RD := Lib.hid (Reads.new_ w2 66 #[.string pk, .string pv] (n := 1) (size := 2) rfl)
      have bb := boxed w2 (.cells #[.string pk, .string pv] 66)
      have B1 := Lib.hid (below_step HB.out (Nat.le_refl _) bb)
      have O1 := Lib.hid ((Keeps.of_below bb).own HO.out)
      clear HB HO bb
      go_wp2_with (at_builtin; refine wpList_append_any _ rfl (.tmp 40) (.tmp 45) 28 rfl w.heap.size 66 i0 _ 2 32 Tryd.underlying28 hi0 hz0 hz1 hz2 rfl (by decide) v' (O ++ [(⟨key, val⟩ : Pr)]).length (cellsP (O ++ [(⟨key, val⟩ : Pr)])) rfl O1.out (w2.heap.size + 1) (some ⟨w2.heap.size, 0, none⟩) 1 1 (cellsP [⟨pk, pv⟩]) rfl RD.out (cellsP_one _) (by unfold maxLen; rw [List.length_append]; simp only [List.length_cons, List.length_nil]; omega) (by rw [List.length_append]; simp only [List.length_cons, List.length_nil]; omega) B1.out.size ?_; intro v' w3 hown hgr hat)
      have HB := Lib.hid (B1.out.grown hgr B1.out.size fun q hq => own_baseR O1.out q hq)
      have HO := Lib.hid (show w3.ownsRow w.heap.size 66 2 v' ((O ++ [(⟨key, val⟩ : Pr)]) ++ [(⟨pk, pv⟩ : Pr)]).length (cellsP ((O ++ [(⟨key, val⟩ : Pr)]) ++ [⟨pk, pv⟩])) by rw [List.length_append, cellsP_app]; exact hown)
      clear hown hgr hat RD B1 O1
      go_wp2_with fail
      go_roundw
      case rel => exact ⟨k + 1, _, _, by omega, by go_num, rfl, HF, HO.out, HB.out⟩
      case measure => simp [intOf]; omega
  ·have g1 : (n : Int) ≤ (k : Int) := by omega
   have hkn : k = n := by omega
   subst hkn
   have hs := HS.out
   rw [← HN.out, List.take_length] at hs
   have hfin := plF_all key val l []
   rw [hs, List.nil_append] at hfin
   have hOb : O.length ≤ k + (if b = true then 1 else 0) := by
    have : min k l.length ≤ k := Nat.min_le_left _ _
    simp only [Bool.false_eq_true, if_false] at hln
    omega
   have HFN := Lib.hid hfin
   have HB := Lib.hid hb
   clear hb ho hs hfin hln
   cases b with
   | true =>
    have HE := Lib.hid (show O = plusP l key val from by have := HFN.out; simpa [plE] using this)
    go_wp2_with fail
    go_ret
    exact ⟨_, rfl, by rw [← HE.out]; exact HO.out, HB.out⟩
   | false =>
    simp only [Bool.false_eq_true, if_false, Nat.add_zero] at hOb
    have HE := Lib.hid (show O ++ [⟨key, val⟩] = plusP l key val from by have := HFN.out; simpa [plE] using this)
    have RD := Lib.hid (Reads.new_ wr 66 #[.string key, .string val] (n := 1) (size := 2) rfl)
    have bb := boxed wr (.cells #[.string key, .string val] 66)
    have B1 := Lib.hid (below_step HB.out (Nat.le_refl _) bb)
    have O1 := Lib.hid ((Keeps.of_below bb).own HO.out)
    clear HB HO bb
    go_wp2_with (at_builtin; refine wpList_append_any _ rfl (.tmp 49) (.tmp 53) 28 rfl w.heap.size 66 i0 _ 2 32 Tryd.underlying28 hi0 hz0 hz1 hz2 rfl (by decide) _ O.length (cellsP O) rfl O1.out (wr.heap.size + 1) (some ⟨wr.heap.size, 0, none⟩) 1 1 (cellsP [⟨key, val⟩]) rfl RD.out (cellsP_one _) (by unfold maxLen; omega) (by omega) B1.out.size ?_; intro v' w2 hown hgr hat)
    have HB := Lib.hid (B1.out.grown hgr B1.out.size fun q hq => own_baseR O1.out q hq)
    have HO := Lib.hid (show w2.ownsRow w.heap.size 66 2 v' (O ++ [(⟨key, val⟩ : Pr)]).length (cellsP (O ++ [⟨key, val⟩])) by rw [List.length_append, cellsP_app]; exact hown)
    clear hown hgr hat RD B1 O1
    go_wp2_with fail
    go_ret
    exact ⟨_, rfl, by rw [← HE.out]; exact HO.out, HB.out⟩
end Go.Proofs.YtjbnfigpflambabDoor
/- The reference's allRows. -/
namespace Go.Proofs.YtjbnfigpflambabDoor
open Go.ChangeShapes Go.WideShapes Go.ChangeAt Go.RowKit
theorem plusP_len1 : ∀ (l : List Pr) (k v : ByteArray), (plusP l k v).length ≤ l.length + 1
 | [], _, _ => Nat.le_refl _
 | p :: l, k, v => by
  unfold plusP
  split
  ·have := plusP_len1 l k v
   rw [List.length_cons, List.length_cons]
   omega
  ·have := List.length_filter_le (fun q : Pr => !decide (q.k = k)) (p :: l)
   rw [List.length_cons]
   omega
theorem plus_fits {l : List Pr} {k v : ByteArray} (h : ∀ p ∈ l, p.k.size ≤ maxLen ∧ p.v.size ≤ maxLen) (hk : k.size ≤ maxLen) (hv : v.size ≤ maxLen) (hl : l.length ≤ 1000) : Fits (plusP l k v) := by
 refine ⟨by have := plusP_len1 l k v; omega, fun p hp => ?_⟩
 rcases plF_in k v l p hp with rfl | hp
 ·exact ⟨hk, hv⟩
 ·exact h p hp
set_option maxHeartbeats 8000000 in
set_option maxRecDepth 100000 in
theorem refrows_any (w : World) (r s : Value) (W : Wo) (h : WL w w.heap.size r s W) (h8 : W.ses.length ≤ 8) (hr : W.rows.length ≤ 100) (hw : ∀ s ∈ W.ses, s.wri.length ≤ 100) :
  Calls Tryd.prog 38 #[.agg #[r, s]] w fun e w' => ∃ v', e = .returned v' ∧ OPL w' w.heap.size v' (allR W) ∧ Below w.heap.size w w' := by
 obtain ⟨hrows, hses⟩ := h
 obtain ⟨Ar, cr, rfl⟩ := hrows.form
 obtain ⟨A, c, rfl, hc, hn, hs⟩ := hses
 have HS := Lib.hid hs
 have HR := Lib.hid hr
 have HW := Lib.hid hw
 have HP := Lib.hid hrows
 obtain ⟨n, hN⟩ : ∃ n, W.ses.length = n := ⟨_, rfl⟩
 obtain ⟨nr, hNR⟩ : ∃ n, W.rows.length = n := ⟨_, rfl⟩
 rw [hN] at h8 hn ⊢
 rw [hNR] at HP ⊢
 have HN := Lib.hid hN
 have B0 := Lib.hid (boxed w (.cells #[.slice Ar nr cr, .slice A n c] 31))
 have X0 := Lib.hid (Blk.new w 31 #[.slice Ar nr cr, .slice A n c])
 clear hN hNR hs hr hw hrows hc
 obtain ⟨q, hq⟩ : ∃ q, w.heap.size = q := ⟨_, rfl⟩
 rw [hq] at X0
 go_enter Tryd.func38, Tryd.ntmps38
 go_wp2_with fail
 refine (refpairs_any _ _ W.rows (HP.out.alloc (Nat.le_refl _) _ |>.more (by simp))).mono ?_
 rintro e w1 ⟨v1, rfl, o1, b1⟩
 have O1 := Lib.hid (o1.base (B := _) (B' := w.heap.size) (by simp))
 have B1 := Lib.hid (below_step B0.out (Nat.le_refl _) b1)
 have X1 := Lib.hid (X0.out.keep b1)
 clear o1 b1 B0 X0
 go_upto_region 3 with fail
 go_loopw [3, 4] (fun u i wx => ∃ k : Nat, k ≤ n ∧ i = .int .i64 k ∧ OPL wx w.heap.size u (allS W.rows (W.ses.take k)) ∧ (allS W.rows (W.ses.take k)).length ≤ 100 + k * 100 ∧ Blk wx q 31 #[.slice Ar nr cr, .slice A n c] ∧ Below w.heap.size w wx) (fun _ i _ => n - (intOf i).toNat)
 case atStart => exact ⟨0, Nat.zero_le _, rfl, O1.out, HR.out, X1.out, B1.out⟩
 case round =>
  obtain ⟨k, hk, rfl, ho, hlen, hx, hb⟩ := hrel
  have f1 := hx.cell_ 1 _ rfl
  have HX := Lib.hid hx
  have HB := Lib.hid hb
  have HO := Lib.hid ho
  by_cases hlt : k < n
  ·have hkl : k < W.ses.length := by rw [HN.out]; exact hlt
   have g1 : (k : Int) < (n : Int) := by omega
   have g2 : (0 : Int) ≤ (k : Int) := by omega
   obtain ⟨ad, hA, hAB, hse⟩ := HS.out (by rw [HN.out]; omega)
   subst hA
   have y := hse k hkl
   have hwl := HW.out W.ses[k] (List.getElem_mem _)
   have hst := allS_take W.rows W.ses hkl
   obtain ⟨t, ht⟩ : ∃ t, W.ses[k] = t := ⟨_, rfl⟩
   rw [ht] at y hwl hst
   have Y := Lib.hid (fun (wx : World) (hb : Below w.heap.size w wx) => y.below (by rw [block_of_add]; exact hAB) hb)
   have HST := Lib.hid hst
   obtain ⟨nw, hnw⟩ : ∃ n, t.wri.length = n := ⟨_, rfl⟩
   rw [hnw] at hwl
   have HNW := Lib.hid hnw
   obtain ⟨OS, hOS⟩ : ∃ OS, allS W.rows (W.ses.take k) = OS := ⟨_, rfl⟩
   rw [hOS] at HO hlen HST
   clear y ht hst hnw hOS hx hb ho hse hAB
   go_upto_region 6 with fail
   clear f1
   go_loopw [3, 5] (fun u j wx => ∃ m : Nat, m ≤ nw ∧ j = .int .i64 m ∧ OPL wx w.heap.size u (addR OS (t.wri.take m)) ∧ (addR OS (t.wri.take m)).length ≤ 100 + k * 100 + m ∧ Blk wx q 31 #[.slice Ar nr cr, .slice (some ad) n c] ∧ Below w.heap.size w wx) (fun _ j _ => nw - (intOf j).toNat)
   case atStart => exact ⟨0, Nat.zero_le _, rfl, HO.out, hlen, HX.out, HB.out⟩
   case round =>
    obtain ⟨m, hm, rfl, ho, hlen2, hx, hb⟩ := hrel
    have f1 := hx.cell_ 1 _ rfl
    have HX := Lib.hid hx
    have HB := Lib.hid hb
    have HO := Lib.hid ho
    obtain ⟨-, -, -, -, ⟨v4, x4, p4⟩, -, -⟩ := Y.out wr hb
    obtain ⟨A4, z4, rfl, hz4, r4, f4⟩ := p4
    rw [HNW.out] at x4 hz4
    by_cases hlt2 : m < nw
    ·have g1' : (m : Int) < (nw : Int) := by omega
     have g2' : (0 : Int) ≤ (m : Int) := by omega
     have hml : m < t.wri.length := by rw [HNW.out]; exact hlt2
     obtain ⟨ad4, hA4, _, y0, y1⟩ := pair_at r4 hml
     subst hA4
     have hks := (f4.2 t.wri[m] (List.getElem_mem _)).1
     have hat := addR_take OS t.wri hml
     obtain ⟨p, hp⟩ : ∃ p, t.wri[m] = p := ⟨_, rfl⟩
     rw [hp] at y0 y1 hks hat
     obtain ⟨pk, pv⟩ := p
     simp only at y0 y1 hks hat
     have HAT := Lib.hid hat
     have HF := Lib.hid (plus_fits (v := ⟨#[]⟩) ho.fits.2 hks (Nat.zero_le _) (by omega))
     have hpl := plusP_len1 (addR OS (t.wri.take m)) pk ⟨#[]⟩
     obtain ⟨Au, cu, rfl⟩ := HO.out.form
     have P := Lib.hid HO.out.pl
     obtain ⟨OM, hOM⟩ : ∃ OM, addR OS (t.wri.take m) = OM := ⟨_, rfl⟩
     rw [hOM] at P hlen2 HAT HF hpl HO ⊢
     clear hp hat r4 f4 hx hb ho hOM
     go_wp2_with fail
     refine (refplus_any _ _ OM pk ⟨#[]⟩ P.out).mono ?_
     rintro e w2 ⟨v2, rfl, o2, b2⟩
     have O2 := Lib.hid (show OPL w2 w.heap.size v2 (addR OS (t.wri.take (m + 1))) by rw [HAT.out]; exact (OPL.mk o2 HF.out).base HB.out.size)
     have HL := Lib.hid (show (addR OS (t.wri.take (m + 1))).length ≤ 100 + k * 100 + (m + 1) by rw [HAT.out]; omega)
     have HB2 := Lib.hid (below_step HB.out (Nat.le_refl _) b2)
     have HX2 := Lib.hid (HX.out.keep b2)
     clear o2 b2 f1 x4 y0 y1
     go_wp2_with fail
     go_roundw
     case rel => exact ⟨m + 1, by omega, by go_num, O2.out, HL.out, HX2.out, HB2.out⟩
     case measure => simp [intOf]; omega
    ·have hmn : m = nw := by omega
     subst hmn
     have g1' : (m : Int) ≤ (m : Int) := Int.le_refl _
     have he : addR OS (t.wri.take m) = allS W.rows (W.ses.take (k + 1)) := by rw [HST.out, ← HNW.out, List.take_length]
     rw [he] at HO hlen2
     have HL := Lib.hid (show (allS W.rows (W.ses.take (k + 1))).length ≤ 100 + (k + 1) * 100 by omega)
     clear hx hb ho r4 f4 he
     go_wp2_with fail
     go_roundw
     case rel => exact ⟨k + 1, by omega, by go_num, HO.out, HL.out, HX.out, HB.out⟩
     case measure => simp [intOf]; omega
  ·have g1 : (n : Int) ≤ (k : Int) := by omega
   have hkn : k = n := by omega
   subst hkn
   rw [← HN.out, List.take_length] at HO
   clear hx hb ho
   go_wp2_with fail
   go_ret
   exact ⟨_, rfl, HO.out, HB.out⟩
end Go.Proofs.YtjbnfigpflambabDoor
