/- The reference's WorldMay. -/
import Derived.Test.YtjbnfigpflambabDoorRefR
import Derived.Test.YtjbnfigpflambabDoorRefM
import Derived.Test.YtjbnfigpflambabDoorIn
namespace Go.Proofs.YtjbnfigpflambabDoor
open Go.ChangeShapes Go.WideShapes Go.ChangeAt Go.RowKit

theorem ses_bad {W : Wo} {k : Nat} (hk : k < W.ses.length) (h : sesOk W.ses k = false) : goodW W = false := by
  cases e : goodW W with
  | false => rfl
  | true =>
    unfold goodW at e
    simp only [Bool.and_eq_true, List.all_eq_true, List.mem_range] at e
    rw [e.1.2 k hk] at h
    cases h
theorem se_bad {ss : List Se} {k : Nat} {t : Se} (hk : k < ss.length) (ht : ss[k] = t) (h : seOk t = false) : sesOk ss k = false := by
  unfold sesOk
  rw [getD_at hk, ht, h, Bool.false_and]
theorem held_bad {ss : List Se} {k m : Nat} {t : Se} (hk : k < ss.length) (ht : ss[k] = t) (hm : m < t.wri.length) (h : heldB ss k t.wri[m].k = true) : sesOk ss k = false := by
  cases e : sesOk ss k with
  | false => rfl
  | true =>
    unfold sesOk at e
    rw [getD_at hk, ht, Bool.and_eq_true, List.all_eq_true] at e
    have := e.2 t.wri[m] (List.getElem_mem hm)
    rw [h] at this
    cases this
theorem ses_good {ss : List Se} {k : Nat} {t : Se} (hk : k < ss.length) (ht : ss[k] = t) (h1 : seOk t = true) (h : ∀ m (hm : m < t.wri.length), heldB ss k t.wri[m].k = false) : sesOk ss k = true := by
  unfold sesOk
  rw [getD_at hk, ht, h1, Bool.true_and, List.all_eq_true]
  intro p hp
  obtain ⟨m, hm, rfl⟩ := List.getElem_of_mem hp
  rw [h m hm]
  rfl
theorem rows_bad {W : Wo} (h : pairsB 10 100 W.rows = false) : goodW W = false := by unfold goodW; rw [h]; rfl
theorem many_bad {W : Wo} (h : ¬ W.ses.length ≤ 8) : goodW W = false := by
  unfold goodW
  rw [show decide (W.ses.length ≤ 8) = false by simpa using h, Bool.and_false, Bool.false_and, Bool.false_and]
theorem may_end {W : Wo} (h1 : pairsB 10 100 W.rows = true) (h2 : W.ses.length ≤ 8) (h3 : ∀ k, k < W.ses.length → sesOk W.ses k = true) : goodW W = decide ((allR W).length ≤ 100) := by
  have hs : Sorted W.rows := ((pairs_iff 10 100 W.rows).1 h1).2.1
  rw [allR_card hs]
  unfold goodW
  rw [h1, show decide (W.ses.length ≤ 8) = true by simpa using h2, show (List.range W.ses.length).all (sesOk W.ses) = true from List.all_eq_true.2 fun k hk => h3 k (List.mem_range.1 hk)]
  rfl
theorem sesOk_wri {ss : List Se} (h : ∀ k, k < ss.length → sesOk ss k = true) : ∀ s ∈ ss, s.wri.length ≤ 100 := by
  intro s hs
  obtain ⟨k, hk, rfl⟩ := List.getElem_of_mem hs
  have h1 := h k hk
  unfold sesOk at h1
  rw [getD_at hk, Bool.and_eq_true] at h1
  have h2 := ((seOk_iff _).1 h1.1).wri
  exact ((pairs_iff 10 100 _).1 h2).2.2
set_option maxHeartbeats 16000000 in
set_option maxRecDepth 100000 in
theorem worldMay_any (w : World) (r s : Value) (W : Wo) (hT : Tabs w) (h : WL w w.heap.size r s W) :
    Calls Tryd.prog 16 #[.agg #[r, s]] w fun e w' => e = .returned (.bool (goodW W)) ∧ Below w.heap.size w w' := by
  have HWL := Lib.hid h
  obtain ⟨hrows, hses⟩ := h
  obtain ⟨Ar, cr, rfl⟩ := hrows.form
  obtain ⟨A, c, rfl, hc, hn, hs⟩ := hses
  have HT := Lib.hid hT
  have HS := Lib.hid hs
  have HP := Lib.hid hrows
  obtain ⟨n, hN⟩ : ∃ n, W.ses.length = n := ⟨_, rfl⟩
  obtain ⟨nr, hNR⟩ : ∃ n, W.rows.length = n := ⟨_, rfl⟩
  rw [hN] at hn ⊢
  rw [hN, hNR] at HWL
  rw [hNR] at HP ⊢
  have HN := Lib.hid hN
  have B0 := Lib.hid (boxed w (.cells #[.slice Ar nr cr, .slice A n c] 31))
  have X0 := Lib.hid (Blk.new w 31 #[.slice Ar nr cr, .slice A n c])
  clear hN hNR hs hrows hc hT
  obtain ⟨q, hq⟩ : ∃ q, w.heap.size = q := ⟨_, rfl⟩
  rw [hq] at X0
  go_enter Tryd.func16, Tryd.ntmps16
  go_wp2_with fail
  refine (pmay_any _ _ W.rows 100 10 (HT.out.below B0.out) (HP.out.alloc (Nat.le_refl _) _ |>.more (by simp))).mono ?_
  rintro e w1 ⟨rfl, b⟩
  have B1 := Lib.hid (below_step B0.out (Nat.le_refl _) b)
  have X1 := Lib.hid (X0.out.keep b)
  clear b B0 X0
  cases hp0 : pairsB 10 100 W.rows with
  | false =>
    have HX := Lib.hid (rows_bad hp0)
    go_wp2_with fail
    go_ret
    exact ⟨by rw [HX.out]; rfl, B1.out⟩
  | true =>
    have HP0 := Lib.hid hp0
    have f1 := X1.out.cell_ 1 _ rfl
    clear hp0
    by_cases h8 : n ≤ 8
    · have g8 : ¬ (8 : Int) < (n : Int) := by omega
      go_upto_region 4 with fail
      clear f1
      go_loopw [3] (fun i wx => ∃ k : Nat, k ≤ n ∧ i = .int .i64 k ∧ Hid (∀ j, j < k → sesOk W.ses j = true) ∧ Blk wx q 31 #[.slice Ar nr cr, .slice A n c] ∧ Below w.heap.size w wx) (fun i _ => n - (intOf i).toNat)
      case atStart => exact ⟨0, Nat.zero_le _, rfl, Lib.hid (fun j hj => absurd hj (Nat.not_lt_zero _)), X1.out, B1.out⟩
      case round =>
        obtain ⟨k, hk, rfl, HG, hx, hb⟩ := hrel
        have f1 := hx.cell_ 1 _ rfl
        have X2 := Lib.hid hx
        have B2 := Lib.hid hb
        by_cases hlt : k < n
        · have hkl : k < W.ses.length := by rw [HN.out]; exact hlt
          have g1 : (k : Int) < (n : Int) := by omega
          have g2 : (0 : Int) ≤ (k : Int) := by omega
          obtain ⟨ad, hA, hAB, hse⟩ := HS.out (by rw [HN.out]; omega)
          subst hA
          have y := hse k hkl
          obtain ⟨t, ht⟩ : ∃ t, W.ses[k] = t := ⟨_, rfl⟩
          rw [ht] at y
          have HTT := Lib.hid ht
          have HK := Lib.hid hkl
          have hlb : (ad.add (k * 5)).block < w.heap.size := by rw [block_of_add]; exact hAB
          obtain ⟨x0, ⟨v1, x1, p1⟩, ⟨v2, x2, p2⟩, ⟨v3, x3, p3⟩, ⟨v4, x4, p4⟩, -, -⟩ := y
          obtain ⟨A1, z1, rfl⟩ := p1.form
          obtain ⟨A2, z2, rfl⟩ := p2.form
          obtain ⟨A3, z3, rfl⟩ := p3.form
          obtain ⟨A4, z4, rfl⟩ := p4.form
          obtain ⟨n3, hn3⟩ : ∃ n, t.sav.length = n := ⟨_, rfl⟩
          obtain ⟨n4, hn4⟩ : ∃ n, t.wri.length = n := ⟨_, rfl⟩
          have P1 := Lib.hid (fun (u : World) (hb : Below w.heap.size w u) => (p1.below hb).more hb.size)
          have P2 := Lib.hid (fun (u : World) (hb : Below w.heap.size w u) => (p2.below hb).more hb.size)
          have P3 := Lib.hid (fun (u : World) (hb : Below w.heap.size w u) => (p3.below hb).more hb.size)
          have P4 := Lib.hid (fun (u : World) (hb : Below w.heap.size w u) => (p4.below hb).more hb.size)
          rw [hn3] at P3 x3
          rw [hn4] at P4 x4
          have HN3 := Lib.hid hn3
          have HN4 := Lib.hid hn4
          have x0 := (hb.cell hlb).trans x0
          have x1 := (hb.cell (by exact hlb)).trans x1
          have x2 := (hb.cell (by exact hlb)).trans x2
          have x3 := (hb.cell (by exact hlb)).trans x3
          have x4 := (hb.cell (by exact hlb)).trans x4
          clear p1 p2 p3 p4 hn3 hn4 ht hse hAB hlb hx hb
          go_upto_region 7 with fail
          have bb := boxed wr (.cells #[.int .i64 t.st, .slice A1 t.set.length z1, .slice A2 t.pre.length z2, .slice A3 n3 z3, .slice A4 n4 z4] 58)
          have Y3 := Lib.hid (Blk.new wr 58 #[.int .i64 t.st, .slice A1 t.set.length z1, .slice A2 t.pre.length z2, .slice A3 n3 z3, .slice A4 n4 z4])
          have X3 := Lib.hid (X2.out.keep bb)
          have B3 := Lib.hid (below_step B2.out (Nat.le_refl _) bb)
          obtain ⟨z, hz⟩ : ∃ z, wr.heap.size = z := ⟨_, rfl⟩
          rw [hz] at Y3 ⊢
          generalize World.alloc _ _ = w3 at Y3 X3 B3 ⊢
          clear bb x0 x1 x2 x3 x4 f1 hz X2 B2
          have y0 := Y3.out.cell_ 0 _ rfl
          by_cases hst : 0 ≤ t.st ∧ t.st ≤ 2
          · have HST := Lib.hid hst
            go_wp2_with fail
            refine (in_yes _ _ _ _ hst.1 hst.2).mono ?_
            rintro e w4 ⟨rfl, rfl⟩
            clear y0 hst
            have y1 := Y3.out.cell_ 1 _ rfl
            go_wp2_with fail
            refine (pmay_any _ _ t.set 6 9 (HT.out.below B3.out) (P1.out _ B3.out)).mono ?_
            rintro e w4 ⟨rfl, b⟩
            have B4 := Lib.hid (below_step B3.out (Nat.le_refl _) b)
            have X4 := Lib.hid (X3.out.keep b)
            have Y4 := Lib.hid (Y3.out.keep b)
            clear b y1 X3 Y3 B3
            cases hp1 : pairsB 9 6 t.set with
            | false =>
              have HX := Lib.hid (show goodW W = false from ses_bad HK.out (se_bad HK.out HTT.out (by unfold seOk; rw [hp1]; simp)))
              go_wp2_with fail
              go_ret
              exact ⟨by rw [HX.out]; rfl, B4.out⟩
            | true =>
              have y2 := Y4.out.cell_ 2 _ rfl
              go_wp2_with fail
              refine (pmay_any _ _ t.pre 6 11 (HT.out.below B4.out) (P2.out _ B4.out)).mono ?_
              rintro e w5 ⟨rfl, b⟩
              have B5 := Lib.hid (below_step B4.out (Nat.le_refl _) b)
              have X5 := Lib.hid (X4.out.keep b)
              have Y5 := Lib.hid (Y4.out.keep b)
              clear b y2 X4 Y4 B4
              cases hp2 : pairsB 11 6 t.pre with
              | false =>
                have HX := Lib.hid (show goodW W = false from ses_bad HK.out (se_bad HK.out HTT.out (by unfold seOk; rw [hp2]; simp)))
                go_wp2_with fail
                go_ret
                exact ⟨by rw [HX.out]; rfl, B5.out⟩
              | true =>
                have y3 := Y5.out.cell_ 3 _ rfl
                go_wp2_with fail
                refine (pmay_any _ _ t.sav 6 9 (HT.out.below B5.out) (P3.out _ B5.out)).mono ?_
                rintro e w6 ⟨rfl, b⟩
                have B6 := Lib.hid (below_step B5.out (Nat.le_refl _) b)
                have X6 := Lib.hid (X5.out.keep b)
                have Y6 := Lib.hid (Y5.out.keep b)
                clear b y3 X5 Y5 B5
                cases hp3 : pairsB 9 6 t.sav with
                | false =>
                  have HX := Lib.hid (show goodW W = false from ses_bad HK.out (se_bad HK.out HTT.out (by unfold seOk; rw [hp3]; simp)))
                  go_wp2_with fail
                  go_ret
                  exact ⟨by rw [HX.out]; rfl, B6.out⟩
                | true =>
                  have y4 := Y6.out.cell_ 4 _ rfl
                  go_wp2_with fail
                  refine (pmay_any _ _ t.wri 100 10 (HT.out.below B6.out) (P4.out _ B6.out)).mono ?_
                  rintro e w7 ⟨rfl, b⟩
                  have B7 := Lib.hid (below_step B6.out (Nat.le_refl _) b)
                  have X7 := Lib.hid (X6.out.keep b)
                  have Y7 := Lib.hid (Y6.out.keep b)
                  clear b y4 X6 Y6 B6
                  cases hp4 : pairsB 10 100 t.wri with
                  | false =>
                    have HX := Lib.hid (show goodW W = false from ses_bad HK.out (se_bad HK.out HTT.out (by unfold seOk; rw [hp4]; simp)))
                    go_wp2_with fail
                    go_ret
                    exact ⟨by rw [HX.out]; rfl, B7.out⟩
                  | true =>
                    have y0 := Y7.out.cell_ 0 _ rfl
                    have y3 := Y7.out.cell_ 3 _ rfl
                    have y4 := Y7.out.cell_ 4 _ rfl
                    have HQ := Lib.hid (And.intro hp1 (And.intro hp2 (And.intro hp3 hp4)))
                    clear hp1 hp2 hp3 hp4
                    by_cases hc1 : t.st = 0 ∧ 0 < t.sav.length
                    · obtain ⟨h1, h2⟩ := hc1
                      have HX := Lib.hid (show goodW W = false from ses_bad HK.out (se_bad HK.out HTT.out (by
                        have hne : t.sav.isEmpty = false := by cases h : t.sav with | nil => rw [h] at h2; simp at h2 | cons a l => rfl
                        unfold seOk; rw [h1, hne]; simp)))
                      rw [HN3.out] at h2
                      have g9 : (0 : Int) < (n3 : Int) := by omega
                      rw [h1] at y0
                      go_wp2_with fail
                      go_ret
                      exact ⟨by rw [HX.out]; rfl, B7.out⟩
                    · by_cases hc2 : t.st ≠ 1 ∧ 0 < t.wri.length
                      · obtain ⟨h1, h2⟩ := hc2
                        have HX := Lib.hid (show goodW W = false from ses_bad HK.out (se_bad HK.out HTT.out (by
                          have hne : t.wri.isEmpty = false := by cases h : t.wri with | nil => rw [h] at h2; simp at h2 | cons a l => rfl
                          unfold seOk; rw [hne]; simp [h1])))
                        rw [HN4.out] at h2
                        have g9 : (0 : Int) < (n4 : Int) := by omega
                        have e1 : (t.st == 1) = false := by simpa using h1
                        rw [HN3.out] at hc1
                        obtain ⟨st, hst⟩ : ∃ st, t.st = st := ⟨_, rfl⟩
                        rw [hst] at y0 e1 h1 hc1
                        clear hst
                        by_cases h0 : st = 0
                        · subst h0
                          have g8 : n3 = 0 := by omega
                          subst g8
                          go_wp2_with fail
                          go_ret
                          exact ⟨by rw [HX.out]; rfl, B7.out⟩
                        · have e0 : (st == 0) = false := by simpa using h0
                          go_wp2_with fail
                          go_ret
                          exact ⟨by rw [HX.out]; rfl, B7.out⟩
                      · have HSO := Lib.hid (show seOk t = true by
                          obtain ⟨q1, q2, q3, q4⟩ := HQ.out
                          have a1 : (decide (t.st = 0) && !t.sav.isEmpty) = false := by
                            cases h : t.sav with
                            | nil => simp
                            | cons a l => rw [h] at hc1; simp only [List.length_cons] at hc1; simp; omega
                          have a2 : (decide (t.st ≠ 1) && !t.wri.isEmpty) = false := by
                            cases h : t.wri with
                            | nil => simp
                            | cons a l => rw [h] at hc2; simp only [List.length_cons] at hc2; simp; omega
                          unfold seOk
                          rw [q1, q2, q3, q4, a1, a2, show decide (0 ≤ t.st) = true by simpa using HST.out.1, show decide (t.st ≤ 2) = true by simpa using HST.out.2]
                          rfl)
                        rcases (show t.st = 0 ∨ t.st = 1 ∨ (¬ t.st = 0 ∧ ¬ t.st = 1) by omega) with h | h | h
                        · have g3 : n3 = 0 := by have := HN3.out; omega
                          have g4 : n4 = 0 := by have := HN4.out; omega
                          rw [h] at y0
                          rw [g3] at y3
                          clear hc1 hc2
                          go_upto_region 12 with fail
                          have G4 := Lib.hid g4
                          clear y0 y3 y4 g4 g3
                          go_loopw [5] (fun j wx => ∃ m : Nat, m ≤ n4 ∧ j = .int .i64 m ∧ Hid (∀ i (hi : i < t.wri.length), i < m → heldB W.ses k t.wri[i].k = false) ∧ Blk wx q 31 #[.slice Ar nr cr, .slice (some ad) n c] ∧ Blk wx z 58 #[.int .i64 t.st, .slice A1 t.set.length z1, .slice A2 t.pre.length z2, .slice A3 n3 z3, .slice A4 n4 z4] ∧ Below w.heap.size w wx) (fun j _ => n4 - (intOf j).toNat)
                          case atStart => exact ⟨0, Nat.zero_le _, rfl, Lib.hid (fun i _ hi => absurd hi (Nat.not_lt_zero _)), X7.out, Y7.out, B7.out⟩
                          case round =>
                            obtain ⟨m, hm, rfl, HJ, hx, hy, hb⟩ := hrel
                            have f0 := hx.cell_ 0 _ rfl
                            have f1 := hx.cell_ 1 _ rfl
                            have y4 := hy.cell_ 4 _ rfl
                            have HX9 := Lib.hid hx
                            have HY9 := Lib.hid hy
                            have HB9 := Lib.hid hb
                            by_cases hlt2 : m < n4
                            · exact absurd hlt2 (by have := G4.out; omega)
                            · have hmn : m = n4 := by omega
                              subst hmn
                              have HG2 := Lib.hid (show ∀ j, j < k + 1 → sesOk W.ses j = true from fun j hj => by
                                rcases Nat.lt_succ_iff_lt_or_eq.1 hj with h | h
                                · exact HG.out j h
                                · subst h
                                  exact ses_good HK.out HTT.out HSO.out fun i hi => HJ.out i hi (by rw [HN4.out] at hi; exact hi))
                              clear hx hy hb
                              go_wp2_with fail
                              go_roundw
                              case rel => exact ⟨k + 1, by omega, by go_num, HG2, HX9.out, HB9.out⟩
                              case measure => simp [intOf]; omega
                        · rw [h] at y0
                          clear hc1 hc2
                          go_upto_region 12 with fail
                          clear y0 y3 y4
                          go_loopw [5] (fun j wx => ∃ m : Nat, m ≤ n4 ∧ j = .int .i64 m ∧ Hid (∀ i (hi : i < t.wri.length), i < m → heldB W.ses k t.wri[i].k = false) ∧ Blk wx q 31 #[.slice Ar nr cr, .slice (some ad) n c] ∧ Blk wx z 58 #[.int .i64 t.st, .slice A1 t.set.length z1, .slice A2 t.pre.length z2, .slice A3 n3 z3, .slice A4 n4 z4] ∧ Below w.heap.size w wx) (fun j _ => n4 - (intOf j).toNat)
                          case atStart => exact ⟨0, Nat.zero_le _, rfl, Lib.hid (fun i _ hi => absurd hi (Nat.not_lt_zero _)), X7.out, Y7.out, B7.out⟩
                          case round =>
                            obtain ⟨m, hm, rfl, HJ, hx, hy, hb⟩ := hrel
                            have f0 := hx.cell_ 0 _ rfl
                            have f1 := hx.cell_ 1 _ rfl
                            have y4 := hy.cell_ 4 _ rfl
                            have HX9 := Lib.hid hx
                            have HY9 := Lib.hid hy
                            have HB9 := Lib.hid hb
                            by_cases hlt2 : m < n4
                            · have g1' : (m : Int) < (n4 : Int) := by omega
                              have g2' : (0 : Int) ≤ (m : Int) := by omega
                              have hml : m < t.wri.length := by rw [HN4.out]; exact hlt2
                              obtain ⟨A5, z5, e5, hz5, r4, -⟩ := P4.out wr hb
                              injection e5 with e6 e7 e8
                              subst e6 e8
                              obtain ⟨ad4, hA4, _, u0, -⟩ := pair_at r4 hml
                              subst hA4
                              obtain ⟨key, hkey⟩ : ∃ key, t.wri[m].k = key := ⟨_, rfl⟩
                              rw [hkey] at u0
                              have HKY := Lib.hid hkey
                              have HML := Lib.hid hml
                              have hm99 : n4 ≤ 9223372036854775807 := by have := (P4.out wr hb).fits.1; rw [HN4.out] at this; omega
                              clear hx hy hb r4 hkey e7 hz5
                              go_upto_region 14 with fail
                              refine region_segs [] (by kernel_rfl) ?_
                              refine anyB_seg [0, 1, 2, 3, 4, 5, 6, 7] 1 rfl (by kernel_rfl) (by kernel_rfl) (by kernel_rfl) (fun _ _ d _ _ h => by cases d <;> exact h) ?_
                              simp only [pickOps, List.getElem?_toArray, List.getElem?_cons_zero, List.getElem?_cons_succ]
                              go_wp2_with fail
                              refine ⟨rfl, by rfl, ?_⟩
                              have HX10 := Lib.hid (HX9.out.keep (Below.refl _ _).drew)
                              have HY10 := Lib.hid (HY9.out.keep (Below.refl _ _).drew)
                              have HB10 := Lib.hid HB9.out.drew
                              clear f0 f1 y4 u0 HX9 HY9 HB9
                              generalize wr.drew = x9 at HX10 HY10 HB10 ⊢
                              refine anyB_one (i := 8) (by kernel_rfl) rfl (fun K hK => ?_)
                              go_simp
                              refine (refheld_any x9 Ar nr cr (.slice (some ad) n c) W.ses k key ((HWL.out.below HB10.out).more HB10.out.size).ses (by omega)).mono ?_
                              rintro e x10 ⟨rfl, b⟩
                              refine hK.out _ _ (fun _ => b) ?_
                              clear hK K
                              refine anyB_done (by kernel_rfl) ?_ _
                              have HX11 := Lib.hid (HX10.out.keep b)
                              have HY11 := Lib.hid (HY10.out.keep b)
                              have HB11 := Lib.hid (below_step HB10.out (Nat.le_refl _) b)
                              clear b HX10 HY10 HB10
                              cases hh : heldB W.ses k key with
                              | true =>
                                have HX := Lib.hid (show goodW W = false from ses_bad HK.out (held_bad HK.out HTT.out HML.out (by rw [HKY.out]; exact hh)))
                                go_wp2_with fail
                                go_ret
                                exact ⟨by rw [HX.out]; rfl, HB11.out⟩
                              | false =>
                                have HJ2 := Lib.hid (show ∀ i (hi : i < t.wri.length), i < m + 1 → heldB W.ses k t.wri[i].k = false from fun i hi him => by
                                  rcases Nat.lt_succ_iff_lt_or_eq.1 him with h | h
                                  · exact HJ.out i hi h
                                  · subst h; rw [HKY.out]; exact hh)
                                clear hh
                                go_wp2_with fail
                                go_roundw
                                case rel => exact ⟨m + 1, by omega, by go_num, HJ2, HX11.out, HY11.out, HB11.out⟩
                                case measure => simp [intOf]; omega
                            · have hmn : m = n4 := by omega
                              subst hmn
                              have HG2 := Lib.hid (show ∀ j, j < k + 1 → sesOk W.ses j = true from fun j hj => by
                                rcases Nat.lt_succ_iff_lt_or_eq.1 hj with h | h
                                · exact HG.out j h
                                · subst h
                                  exact ses_good HK.out HTT.out HSO.out fun i hi => HJ.out i hi (by rw [HN4.out] at hi; exact hi))
                              clear hx hy hb
                              go_wp2_with fail
                              go_roundw
                              case rel => exact ⟨k + 1, by omega, by go_num, HG2, HX9.out, HB9.out⟩
                              case measure => simp [intOf]; omega
                        · have g4 : n4 = 0 := by have := HN4.out; omega
                          have e0 : (t.st == 0) = false := by simpa using h.1
                          have e1 : (t.st == 1) = false := by simpa using h.2
                          have e0' : ¬ t.st = 0 := h.1
                          have e1' : ¬ t.st = 1 := h.2
                          clear hc1 hc2
                          go_upto_region 12 with fail
                          have G4 := Lib.hid g4
                          clear y0 y3 y4 g4
                          go_loopw [5] (fun j wx => ∃ m : Nat, m ≤ n4 ∧ j = .int .i64 m ∧ Hid (∀ i (hi : i < t.wri.length), i < m → heldB W.ses k t.wri[i].k = false) ∧ Blk wx q 31 #[.slice Ar nr cr, .slice (some ad) n c] ∧ Blk wx z 58 #[.int .i64 t.st, .slice A1 t.set.length z1, .slice A2 t.pre.length z2, .slice A3 n3 z3, .slice A4 n4 z4] ∧ Below w.heap.size w wx) (fun j _ => n4 - (intOf j).toNat)
                          case atStart => exact ⟨0, Nat.zero_le _, rfl, Lib.hid (fun i _ hi => absurd hi (Nat.not_lt_zero _)), X7.out, Y7.out, B7.out⟩
                          case round =>
                            obtain ⟨m, hm, rfl, HJ, hx, hy, hb⟩ := hrel
                            have f0 := hx.cell_ 0 _ rfl
                            have f1 := hx.cell_ 1 _ rfl
                            have y4 := hy.cell_ 4 _ rfl
                            have HX9 := Lib.hid hx
                            have HY9 := Lib.hid hy
                            have HB9 := Lib.hid hb
                            by_cases hlt2 : m < n4
                            · exact absurd hlt2 (by have := G4.out; omega)
                            · have hmn : m = n4 := by omega
                              subst hmn
                              have HG2 := Lib.hid (show ∀ j, j < k + 1 → sesOk W.ses j = true from fun j hj => by
                                rcases Nat.lt_succ_iff_lt_or_eq.1 hj with h | h
                                · exact HG.out j h
                                · subst h
                                  exact ses_good HK.out HTT.out HSO.out fun i hi => HJ.out i hi (by rw [HN4.out] at hi; exact hi))
                              clear hx hy hb
                              go_wp2_with fail
                              go_roundw
                              case rel => exact ⟨k + 1, by omega, by go_num, HG2, HX9.out, HB9.out⟩
                              case measure => simp [intOf]; omega
          · have HX := Lib.hid (show goodW W = false from ses_bad HK.out (se_bad HK.out HTT.out (by
              unfold seOk
              have : (decide (0 ≤ t.st) && decide (t.st ≤ 2)) = false := by
                rw [← Bool.not_eq_true, Bool.and_eq_true, decide_eq_true_eq, decide_eq_true_eq]
                exact hst
              rw [this]
              simp)))
            go_wp2_with fail
            refine (in_no _ _ _ _ (by omega)).mono ?_
            rintro e w4 ⟨rfl, rfl⟩
            go_wp2_with fail
            go_ret
            exact ⟨by rw [HX.out]; rfl, B3.out⟩
        · have hkn : k = n := by omega
          subst hkn
          have HF := Lib.hid (may_end HP0.out (by rw [HN.out]; exact h8) (fun j hj => HG.out j (by rw [← HN.out]; exact hj)))
          have hww := sesOk_wri (ss := W.ses) (fun j hj => HG.out j (by rw [← HN.out]; exact hj))
          have f0 := X2.out.cell_ 0 _ rfl
          have hwl := (HWL.out.below hb).more hb.size
          have hrl : W.rows.length ≤ 100 := ((pairs_iff 10 100 W.rows).1 HP0.out).2.2
          have HR := Lib.hid (fun h8 => refrows_any wr _ _ W hwl h8 hrl hww)
          have h8' : W.ses.length ≤ 8 := by rw [HN.out]; exact h8
          have HR2 := Lib.hid (HR.out h8')
          clear hx hb hww hwl hrl HR
          go_wp2_with fail
          refine HR2.out.mono ?_
          rintro e w4 ⟨v4, rfl, o4, b4⟩
          have B4 := Lib.hid (below_step B2.out (Nat.le_refl _) b4)
          obtain ⟨A4, z4, rfl⟩ := o4.form
          obtain ⟨na, hna⟩ : ∃ n, (allR W).length = n := ⟨_, rfl⟩
          rw [hna] at HF ⊢
          clear o4 b4 hna HR2
          by_cases h100 : na ≤ 100
          · have g9 : (na : Int) ≤ 100 := by omega
            have HX := Lib.hid (show goodW W = true by rw [HF.out]; simpa using h100)
            go_wp2_with fail
            go_ret
            exact ⟨by rw [HX.out]; rfl, B4.out⟩
          · have g9 : ¬ (na : Int) ≤ 100 := by omega
            have g9' : decide ((na : Int) ≤ 100) = false := by simp; omega
            have g10 : (100 : Int) < (na : Int) := by omega
            have HX := Lib.hid (show goodW W = false by rw [HF.out]; simpa using h100)
            go_wp2_with fail
            go_ret
            exact ⟨by rw [HX.out]; first | rfl | simp [g9], B4.out⟩
    · have g8 : (8 : Int) < (n : Int) := by omega
      have HX := Lib.hid (many_bad (W := W) (by rw [HN.out]; exact h8))
      go_wp2_with fail
      go_ret
      exact ⟨by rw [HX.out]; rfl, B1.out⟩
end Go.Proofs.YtjbnfigpflambabDoor
