/- The reference's WorldMay. An argument that is a world (slices of pairs, and of sessions over such slices), opened to its cells. The keep package's picked: what it returns. strconv.Itoa of 0 to 11. A raw thing's statement: what tillermankeep.Stmt returns. An argument that is a slice of raw things. -/
import Derived.Test.YtjbnfigpflambabDoorJ00
import Derived.Test.YtjbnfigpflambabDoorJ01
import Derived.Test.YtjbnfigpflambabDoorJ07
import Derived.Test.YtjbnfigpflambabDoorJ16
import Derived.Test.YtjbnfigpflambabDoorJ21
import Derived.Test.YtjbnfigpflambabDoorJ22
import Derived.Deep.Slices
import Derived.Deep.Fields
import Derived.ChangeSame
import Derived.SizedLaws
import Derived.Lib.IndexLaws
/- The reference's WorldMay. -/
namespace Go.Proofs.YtjbnfigpflambabDoor
open Go.ChangeShapes Go.WideShapes Go.ChangeAt Go.RowKit
theorem ses_bad {W : Wo} {k : Nat} (hk : k < W.ses.length) (h : sesOk W.ses k = false) : goodW W = false := by
 cases e : goodW W with
 | false => rfl
 | true =>
  unfold goodW at e
  simp only [Bool.and_eq_true, List.all_eq_true, List.mem_range] at e
  rw [e.1.2 k hk] at h
  cases h
theorem se_bad {ss : List Se} {k : Nat} {t : Se} (hk : k < ss.length) (ht : ss[k] = t) (h : seOk t = false) : sesOk ss k = false := by
 unfold sesOk
 rw [getD_at hk, ht, h, Bool.false_and]
theorem held_bad {ss : List Se} {k m : Nat} {t : Se} (hk : k < ss.length) (ht : ss[k] = t) (hm : m < t.wri.length) (h : heldB ss k t.wri[m].k = true) : sesOk ss k = false := by
 cases e : sesOk ss k with
 | false => rfl
 | true =>
  unfold sesOk at e
  rw [getD_at hk, ht, Bool.and_eq_true, List.all_eq_true] at e
  have := e.2 t.wri[m] (List.getElem_mem hm)
  rw [h] at this
  cases this
theorem ses_good {ss : List Se} {k : Nat} {t : Se} (hk : k < ss.length) (ht : ss[k] = t) (h1 : seOk t = true) (h : ∀ m (hm : m < t.wri.length), heldB ss k t.wri[m].k = false) : sesOk ss k = true := by
 unfold sesOk
 rw [getD_at hk, ht, h1, Bool.true_and, List.all_eq_true]
 intro p hp
 obtain ⟨m, hm, rfl⟩ := List.getElem_of_mem hp
 rw [h m hm]
 rfl
theorem rows_bad {W : Wo} (h : pairsB 10 100 W.rows = false) : goodW W = false := by unfold goodW; rw [h]; rfl
theorem many_bad {W : Wo} (h : ¬ W.ses.length ≤ 8) : goodW W = false := by
 unfold goodW
 rw [show decide (W.ses.length ≤ 8) = false by simpa using h, Bool.and_false, Bool.false_and, Bool.false_and]
theorem may_end {W : Wo} (h1 : pairsB 10 100 W.rows = true) (h2 : W.ses.length ≤ 8) (h3 : ∀ k, k < W.ses.length → sesOk W.ses k = true) : goodW W = decide ((allR W).length ≤ 100) := by
 have hs : Sorted W.rows := ((pairs_iff 10 100 W.rows).1 h1).2.1
 rw [allR_card hs]
 unfold goodW
 rw [h1, show decide (W.ses.length ≤ 8) = true by simpa using h2, show (List.range W.ses.length).all (sesOk W.ses) = true from List.all_eq_true.2 fun k hk => h3 k (List.mem_range.1 hk)]
 rfl
theorem sesOk_wri {ss : List Se} (h : ∀ k, k < ss.length → sesOk ss k = true) : ∀ s ∈ ss, s.wri.length ≤ 100 := by
 intro s hs
 obtain ⟨k, hk, rfl⟩ := List.getElem_of_mem hs
 have h1 := h k hk
 unfold sesOk at h1
 rw [getD_at hk, Bool.and_eq_true] at h1
 have h2 := ((seOk_iff _).1 h1.1).wri
 exact ((pairs_iff 10 100 _).1 h2).2.2
set_option maxHeartbeats 16000000 in
set_option maxRecDepth 100000 in
theorem worldMay_any (w : World) (r s : Value) (W : Wo) (hT : Tabs w) (h : WL w w.heap.size r s W) :
  Calls Tryd.prog 16 #[.agg #[r, s]] w fun e w' => e = .returned (.bool (goodW W)) ∧ Below w.heap.size w w' := by
 have HWL := Lib.hid h
 obtain ⟨hrows, hses⟩ := h
 obtain ⟨Ar, cr, rfl⟩ := hrows.form
 obtain ⟨A, c, rfl, hc, hn, hs⟩ := hses
 have HT := Lib.hid hT
 have HS := Lib.hid hs
 have HP := Lib.hid hrows
 obtain ⟨n, hN⟩ : ∃ n, W.ses.length = n := ⟨_, rfl⟩
 obtain ⟨nr, hNR⟩ : ∃ n, W.rows.length = n := ⟨_, rfl⟩
 rw [hN] at hn ⊢
 rw [hN, hNR] at HWL
 rw [hNR] at HP ⊢
 have HN := Lib.hid hN
 have B0 := Lib.hid (boxed w (.cells #[.slice Ar nr cr, .slice A n c] 31))
 have X0 := Lib.hid (Blk.new w 31 #[.slice Ar nr cr, .slice A n c])
 clear hN hNR hs hrows hc hT
 obtain ⟨q, hq⟩ : ∃ q, w.heap.size = q := ⟨_, rfl⟩
 rw [hq] at X0
 go_enter Tryd.func16, Tryd.ntmps16
 go_wp2_with fail
 refine (pmay_any _ _ W.rows 100 10 (HT.out.below B0.out) (HP.out.alloc (Nat.le_refl _) _ |>.more (by simp))).mono ?_
 rintro e w1 ⟨rfl, b⟩
 have B1 := Lib.hid (below_step B0.out (Nat.le_refl _) b)
 have X1 := Lib.hid (X0.out.keep b)
 clear b B0 X0
 cases hp0 : pairsB 10 100 W.rows with
 | false =>
  have HX := Lib.hid (rows_bad hp0)
  go_wp2_with fail
  go_ret
  exact ⟨by rw [HX.out]; rfl, B1.out⟩
 | true =>
  have HP0 := Lib.hid hp0
  have f1 := X1.out.cell_ 1 _ rfl
  clear hp0
  by_cases h8 : n ≤ 8
  ·have g8 : ¬ (8 : Int) < (n : Int) := by omega
   go_upto_region 4 with fail
   clear f1
   go_loopw [3] (fun i wx => ∃ k : Nat, k ≤ n ∧ i = .int .i64 k ∧ Hid (∀ j, j < k → sesOk W.ses j = true) ∧ Blk wx q 31 #[.slice Ar nr cr, .slice A n c] ∧ Below w.heap.size w wx) (fun i _ => n - (intOf i).toNat)
   case atStart => exact ⟨0, Nat.zero_le _, rfl, Lib.hid (fun j hj => absurd hj (Nat.not_lt_zero _)), X1.out, B1.out⟩
   case round =>
    obtain ⟨k, hk, rfl, HG, hx, hb⟩ := hrel
    have f1 := hx.cell_ 1 _ rfl
    have X2 := Lib.hid hx
    have B2 := Lib.hid hb
    by_cases hlt : k < n
    ·have hkl : k < W.ses.length := by rw [HN.out]; exact hlt
     have g1 : (k : Int) < (n : Int) := by omega
     have g2 : (0 : Int) ≤ (k : Int) := by omega
     obtain ⟨ad, hA, hAB, hse⟩ := HS.out (by rw [HN.out]; omega)
     subst hA
     have y := hse k hkl
     obtain ⟨t, ht⟩ : ∃ t, W.ses[k] = t := ⟨_, rfl⟩
     rw [ht] at y
     have HTT := Lib.hid ht
     have HK := Lib.hid hkl
     have hlb : (ad.add (k * 5)).block < w.heap.size := by rw [block_of_add]; exact hAB
     obtain ⟨x0, ⟨v1, x1, p1⟩, ⟨v2, x2, p2⟩, ⟨v3, x3, p3⟩, ⟨v4, x4, p4⟩, -, -⟩ := y
     obtain ⟨A1, z1, rfl⟩ := p1.form
     obtain ⟨A2, z2, rfl⟩ := p2.form
     obtain ⟨A3, z3, rfl⟩ := p3.form
     obtain ⟨A4, z4, rfl⟩ := p4.form
     obtain ⟨n3, hn3⟩ : ∃ n, t.sav.length = n := ⟨_, rfl⟩
     obtain ⟨n4, hn4⟩ : ∃ n, t.wri.length = n := ⟨_, rfl⟩
     have P1 := Lib.hid (fun (u : World) (hb : Below w.heap.size w u) => (p1.below hb).more hb.size)
     have P2 := Lib.hid (fun (u : World) (hb : Below w.heap.size w u) => (p2.below hb).more hb.size)
     have P3 := Lib.hid (fun (u : World) (hb : Below w.heap.size w u) => (p3.below hb).more hb.size)
     have P4 := Lib.hid (fun (u : World) (hb : Below w.heap.size w u) => (p4.below hb).more hb.size)
     rw [hn3] at P3 x3
     rw [hn4] at P4 x4
     have HN3 := Lib.hid hn3
     have HN4 := Lib.hid hn4
     have x0 := (hb.cell hlb).trans x0
     have x1 := (hb.cell (by exact hlb)).trans x1
     have x2 := (hb.cell (by exact hlb)).trans x2
     have x3 := (hb.cell (by exact hlb)).trans x3
     have x4 := (hb.cell (by exact hlb)).trans x4
     clear p1 p2 p3 p4 hn3 hn4 ht hse hAB hlb hx hb
     go_upto_region 7 with fail
     have bb := boxed wr (.cells #[.int .i64 t.st, .slice A1 t.set.length z1, .slice A2 t.pre.length z2, .slice A3 n3 z3, .slice A4 n4 z4] 58)
     have Y3 := Lib.hid (Blk.new wr 58 #[.int .i64 t.st, .slice A1 t.set.length z1, .slice A2 t.pre.length z2, .slice A3 n3 z3, .slice A4 n4 z4])
     have X3 := Lib.hid (X2.out.keep bb)
     have B3 := Lib.hid (below_step B2.out (Nat.le_refl _) bb)
     obtain ⟨z, hz⟩ : ∃ z, wr.heap.size = z := ⟨_, rfl⟩
     rw [hz] at Y3 ⊢
     generalize World.alloc _ _ = w3 at Y3 X3 B3 ⊢
     clear bb x0 x1 x2 x3 x4 f1 hz X2 B2
     have y0 := Y3.out.cell_ 0 _ rfl
     by_cases hst : 0 ≤ t.st ∧ t.st ≤ 2
     ·have HST := Lib.hid hst
      go_wp2_with fail
      refine (in_yes _ _ _ _ hst.1 hst.2).mono ?_
      rintro e w4 ⟨rfl, rfl⟩
      clear y0 hst
      have y1 := Y3.out.cell_ 1 _ rfl
      go_wp2_with fail
      refine (pmay_any _ _ t.set 6 9 (HT.out.below B3.out) (P1.out _ B3.out)).mono ?_
      rintro e w4 ⟨rfl, b⟩
      have B4 := Lib.hid (below_step B3.out (Nat.le_refl _) b)
      have X4 := Lib.hid (X3.out.keep b)
      have Y4 := Lib.hid (Y3.out.keep b)
      clear b y1 X3 Y3 B3
      cases hp1 : pairsB 9 6 t.set with
      | false =>
       have HX := Lib.hid (show goodW W = false from ses_bad HK.out (se_bad HK.out HTT.out (by unfold seOk; rw [hp1]; simp)))
       go_wp2_with fail
       go_ret
       exact ⟨by rw [HX.out]; rfl, B4.out⟩
      | true =>
       have y2 := Y4.out.cell_ 2 _ rfl
       go_wp2_with fail
       refine (pmay_any _ _ t.pre 6 11 (HT.out.below B4.out) (P2.out _ B4.out)).mono ?_
       rintro e w5 ⟨rfl, b⟩
       have B5 := Lib.hid (below_step B4.out (Nat.le_refl _) b)
       have X5 := Lib.hid (X4.out.keep b)
       have Y5 := Lib.hid (Y4.out.keep b)
       clear b y2 X4 Y4 B4
       cases hp2 : pairsB 11 6 t.pre with
       | false =>
        have HX := Lib.hid (show goodW W = false from ses_bad HK.out (se_bad HK.out HTT.out (by unfold seOk; rw [hp2]; simp)))
        go_wp2_with fail
        go_ret
        exact ⟨by rw [HX.out]; rfl, B5.out⟩
       | true =>
        have y3 := Y5.out.cell_ 3 _ rfl
        go_wp2_with fail
        refine (pmay_any _ _ t.sav 6 9 (HT.out.below B5.out) (P3.out _ B5.out)).mono ?_
        rintro e w6 ⟨rfl, b⟩
        have B6 := Lib.hid (below_step B5.out (Nat.le_refl _) b)
        have X6 := Lib.hid (X5.out.keep b)
        have Y6 := Lib.hid (Y5.out.keep b)
        clear b y3 X5 Y5 B5
        cases hp3 : pairsB 9 6 t.sav with
        | false =>
         have HX := Lib.hid (show goodW W = false from ses_bad HK.out (se_bad HK.out HTT.out (by unfold seOk; rw [hp3]; simp)))
         go_wp2_with fail
         go_ret
         exact ⟨by rw [HX.out]; rfl, B6.out⟩
        | true =>
         have y4 := Y6.out.cell_ 4 _ rfl
         go_wp2_with fail
         refine (pmay_any _ _ t.wri 100 10 (HT.out.below B6.out) (P4.out _ B6.out)).mono ?_
         rintro e w7 ⟨rfl, b⟩
         have B7 := Lib.hid (below_step B6.out (Nat.le_refl _) b)
         have X7 := Lib.hid (X6.out.keep b)
         have Y7 := Lib.hid (Y6.out.keep b)
         clear b y4 X6 Y6 B6
         cases hp4 : pairsB 10 100 t.wri with
         | false =>
          have HX := Lib.hid (show goodW W = false from ses_bad HK.out (se_bad HK.out HTT.out (by unfold seOk; rw [hp4]; simp)))
          go_wp2_with fail
          go_ret
          exact ⟨by rw [HX.out]; rfl, B7.out⟩
         | true =>
          have y0 := Y7.out.cell_ 0 _ rfl
          have y3 := Y7.out.cell_ 3 _ rfl
          have y4 := Y7.out.cell_ 4 _ rfl
          have HQ := Lib.hid (And.intro hp1 (And.intro hp2 (And.intro hp3 hp4)))
          clear hp1 hp2 hp3 hp4
          by_cases hc1 : t.st = 0 ∧ 0 < t.sav.length
          ·obtain ⟨h1, h2⟩ := hc1
           have HX := Lib.hid (show goodW W = false from ses_bad HK.out (se_bad HK.out HTT.out (by
            have hne : t.sav.isEmpty = false := by cases h : t.sav with | nil => rw [h] at h2; simp at h2 | cons a l => rfl
            unfold seOk; rw [h1, hne]; simp)))
           rw [HN3.out] at h2
           have g9 : (0 : Int) < (n3 : Int) := by omega
           rw [h1] at y0
           go_wp2_with fail
           go_ret
           exact ⟨by rw [HX.out]; rfl, B7.out⟩
          ·by_cases hc2 : t.st ≠ 1 ∧ 0 < t.wri.length
           ·obtain ⟨h1, h2⟩ := hc2
            have HX := Lib.hid (show goodW W = false from ses_bad HK.out (se_bad HK.out HTT.out (by
             have hne : t.wri.isEmpty = false := by cases h : t.wri with | nil => rw [h] at h2; simp at h2 | cons a l => rfl
             unfold seOk; rw [hne]; simp [h1])))
            rw [HN4.out] at h2
            have g9 : (0 : Int) < (n4 : Int) := by omega
            have e1 : (t.st == 1) = false := by simpa using h1
            rw [HN3.out] at hc1
            obtain ⟨st, hst⟩ : ∃ st, t.st = st := ⟨_, rfl⟩
            rw [hst] at y0 e1 h1 hc1
            clear hst
            by_cases h0 : st = 0
            ·subst h0
             have g8 : n3 = 0 := by omega
             subst g8
             go_wp2_with fail
             go_ret
             exact ⟨by rw [HX.out]; rfl, B7.out⟩
            ·have e0 : (st == 0) = false := by simpa using h0
             go_wp2_with fail
             go_ret
             exact ⟨by rw [HX.out]; rfl, B7.out⟩
           ·have HSO := Lib.hid (show seOk t = true by
             obtain ⟨q1, q2, q3, q4⟩ := HQ.out
             have a1 : (decide (t.st = 0) && !t.sav.isEmpty) = false := by
              cases h : t.sav with
              | nil => simp
              | cons a l => rw [h] at hc1; simp only [List.length_cons] at hc1; simp; omega
             have a2 : (decide (t.st ≠ 1) && !t.wri.isEmpty) = false := by
              cases h : t.wri with
              | nil => simp
              | cons a l => rw [h] at hc2; simp only [List.length_cons] at hc2; simp; omega
             unfold seOk
             rw [q1, q2, q3, q4, a1, a2, show decide (0 ≤ t.st) = true by simpa using HST.out.1, show decide (t.st ≤ 2) = true by simpa using HST.out.2]
             rfl)
            rcases (show t.st = 0 ∨ t.st = 1 ∨ (¬ t.st = 0 ∧ ¬ t.st = 1) by omega) with h | h | h
            ·have g3 : n3 = 0 := by have := HN3.out; omega
             have g4 : n4 = 0 := by have := HN4.out; omega
             rw [h] at y0
             rw [g3] at y3
             clear hc1 hc2
             go_upto_region 12 with fail
             have G4 := Lib.hid g4
             clear y0 y3 y4 g4 g3
             go_loopw [5] (fun j wx => ∃ m : Nat, m ≤ n4 ∧ j = .int .i64 m ∧ Hid (∀ i (hi : i < t.wri.length), i < m → heldB W.ses k t.wri[i].k = false) ∧ Blk wx q 31 #[.slice Ar nr cr, .slice (some ad) n c] ∧ Blk wx z 58 #[.int .i64 t.st, .slice A1 t.set.length z1, .slice A2 t.pre.length z2, .slice A3 n3 z3, .slice A4 n4 z4] ∧ Below w.heap.size w wx) (fun j _ => n4 - (intOf j).toNat)
             case atStart => exact ⟨0, Nat.zero_le _, rfl, Lib.hid (fun i _ hi => absurd hi (Nat.not_lt_zero _)), X7.out, Y7.out, B7.out⟩
             case round =>
              obtain ⟨m, hm, rfl, HJ, hx, hy, hb⟩ := hrel
              have f0 := hx.cell_ 0 _ rfl
              have f1 := hx.cell_ 1 _ rfl
              have y4 := hy.cell_ 4 _ rfl
              have HX9 := Lib.hid hx
              have HY9 := Lib.hid hy
              have HB9 := Lib.hid hb
              by_cases hlt2 : m < n4
              ·exact absurd hlt2 (by have := G4.out; omega)
              ·have hmn : m = n4 := by omega
               subst hmn
               have HG2 := Lib.hid (show ∀ j, j < k + 1 → sesOk W.ses j = true from fun j hj => by
                rcases Nat.lt_succ_iff_lt_or_eq.1 hj with h | h
                ·exact HG.out j h
                ·subst h
                 exact ses_good HK.out HTT.out HSO.out fun i hi => HJ.out i hi (by rw [HN4.out] at hi; exact hi))
               clear hx hy hb
               go_wp2_with fail
               go_roundw
               case rel => exact ⟨k + 1, by omega, by go_num, HG2, HX9.out, HB9.out⟩
               case measure => simp [intOf]; omega
            ·rw [h] at y0
             clear hc1 hc2
             go_upto_region 12 with fail
             clear y0 y3 y4
             go_loopw [5] (fun j wx => ∃ m : Nat, m ≤ n4 ∧ j = .int .i64 m ∧ Hid (∀ i (hi : i < t.wri.length), i < m → heldB W.ses k t.wri[i].k = false) ∧ Blk wx q 31 #[.slice Ar nr cr, .slice (some ad) n c] ∧ Blk wx z 58 #[.int .i64 t.st, .slice A1 t.set.length z1, .slice A2 t.pre.length z2, .slice A3 n3 z3, .slice A4 n4 z4] ∧ Below w.heap.size w wx) (fun j _ => n4 - (intOf j).toNat)
             case atStart => exact ⟨0, Nat.zero_le _, rfl, Lib.hid (fun i _ hi => absurd hi (Nat.not_lt_zero _)), X7.out, Y7.out, B7.out⟩
             case round =>
              obtain ⟨m, hm, rfl, HJ, hx, hy, hb⟩ := hrel
              have f0 := hx.cell_ 0 _ rfl
              have f1 := hx.cell_ 1 _ rfl
              have y4 := hy.cell_ 4 _ rfl
              have HX9 := Lib.hid hx
              have HY9 := Lib.hid hy
              have HB9 := Lib.hid hb
              by_cases hlt2 : m < n4
              ·have g1' : (m : Int) < (n4 : Int) := by omega
               have g2' : (0 : Int) ≤ (m : Int) := by omega
               have hml : m < t.wri.length := by rw [HN4.out]; exact hlt2
               obtain ⟨A5, z5, e5, hz5, r4, -⟩ := P4.out wr hb
               injection e5 with e6 e7 e8
               subst e6 e8
               obtain ⟨ad4, hA4, _, u0, -⟩ := pair_at r4 hml
               subst hA4
               obtain ⟨key, hkey⟩ : ∃ key, t.wri[m].k = key := ⟨_, rfl⟩
               rw [hkey] at u0
               have HKY := Lib.hid hkey
               have HML := Lib.hid hml
               have hm99 : n4 ≤ 9223372036854775807 := by have := (P4.out wr hb).fits.1; rw [HN4.out] at this; omega
               clear hx hy hb r4 hkey e7 hz5
               go_upto_region 14 with fail
               refine region_segs [] (by kernel_rfl) ?_
               refine anyB_seg [0, 1, 2, 3, 4, 5, 6, 7] 1 rfl (by kernel_rfl) (by kernel_rfl) (by kernel_rfl) (fun _ _ d _ _ h => by cases d <;> exact h) ?_
               simp only [pickOps, List.getElem?_toArray, List.getElem?_cons_zero, List.getElem?_cons_succ]
               go_wp2_with fail
               refine ⟨rfl, by rfl, ?_⟩
               have HX10 := Lib.hid (HX9.out.keep (Below.refl _ _).drew)
               have HY10 := Lib.hid (HY9.out.keep (Below.refl _ _).drew)
               have HB10 := Lib.hid HB9.out.drew
               clear f0 f1 y4 u0 HX9 HY9 HB9
               generalize wr.drew = x9 at HX10 HY10 HB10 ⊢
               refine anyB_one (i := 8) (by kernel_rfl) rfl (fun K hK => ?_)
               go_simp
               refine (refheld_any x9 Ar nr cr (.slice (some ad) n c) W.ses k key ((HWL.out.below HB10.out).more HB10.out.size).ses (by omega)).mono ?_
               rintro e x10 ⟨rfl, b⟩
               refine hK.out _ _ (fun _ => b) ?_
               clear hK K
               refine anyB_done (by kernel_rfl) ?_ _
               have HX11 := Lib.hid (HX10.out.keep b)
               have HY11 := Lib.hid (HY10.out.keep b)
               have HB11 := Lib.hid (below_step HB10.out (Nat.le_refl _) b)
               clear b HX10 HY10 HB10
               cases hh : heldB W.ses k key with
               | true =>
                have HX := Lib.hid (show goodW W = false from ses_bad HK.out (held_bad HK.out HTT.out HML.out (by rw [HKY.out]; exact hh)))
                go_wp2_with fail
                go_ret
                exact ⟨by rw [HX.out]; rfl, HB11.out⟩
               | false =>
                have HJ2 := Lib.hid (show ∀ i (hi : i < t.wri.length), i < m + 1 → heldB W.ses k t.wri[i].k = false from fun i hi him => by
                 rcases Nat.lt_succ_iff_lt_or_eq.1 him with h | h
                 ·exact HJ.out i hi h
                 ·subst h; rw [HKY.out]; exact hh)
                clear hh
                go_wp2_with fail
                go_roundw
                case rel => exact ⟨m + 1, by omega, by go_num, HJ2, HX11.out, HY11.out, HB11.out⟩
                case measure => simp [intOf]; omega
              ·have hmn : m = n4 := by omega
               subst hmn
               have HG2 := Lib.hid (show ∀ j, j < k + 1 → sesOk W.ses j = true from fun j hj => by
                rcases Nat.lt_succ_iff_lt_or_eq.1 hj with h | h
                ·exact HG.out j h
                ·subst h
                 exact ses_good HK.out HTT.out HSO.out fun i hi => HJ.out i hi (by rw [HN4.out] at hi; exact hi))
               clear hx hy hb
               go_wp2_with fail
               go_roundw
               case rel => exact ⟨k + 1, by omega, by go_num, HG2, HX9.out, HB9.out⟩
               case measure => simp [intOf]; omega
            ·have g4 : n4 = 0 := by have := HN4.out; omega
             have e0 : (t.st == 0) = false := by simpa using h.1
             have e1 : (t.st == 1) = false := by simpa using h.2
             have e0' : ¬ t.st = 0 := h.1
             have e1' : ¬ t.st = 1 := h.2
             clear hc1 hc2
             go_upto_region 12 with fail
             have G4 := Lib.hid g4
             clear y0 y3 y4 g4
             go_loopw [5] (fun j wx => ∃ m : Nat, m ≤ n4 ∧ j = .int .i64 m ∧ Hid (∀ i (hi : i < t.wri.length), i < m → heldB W.ses k t.wri[i].k = false) ∧ Blk wx q 31 #[.slice Ar nr cr, .slice (some ad) n c] ∧ Blk wx z 58 #[.int .i64 t.st, .slice A1 t.set.length z1, .slice A2 t.pre.length z2, .slice A3 n3 z3, .slice A4 n4 z4] ∧ Below w.heap.size w wx) (fun j _ => n4 - (intOf j).toNat)
             case atStart => exact ⟨0, Nat.zero_le _, rfl, Lib.hid (fun i _ hi => absurd hi (Nat.not_lt_zero _)), X7.out, Y7.out, B7.out⟩
             case round =>
              obtain ⟨m, hm, rfl, HJ, hx, hy, hb⟩ := hrel
              have f0 := hx.cell_ 0 _ rfl
              have f1 := hx.cell_ 1 _ rfl
              have y4 := hy.cell_ 4 _ rfl
              have HX9 := Lib.hid hx
              have HY9 := Lib.hid hy
              have HB9 := Lib.hid hb
              by_cases hlt2 : m < n4
              ·exact absurd hlt2 (by have := G4.out; omega)
              ·have hmn : m = n4 := by omega
               subst hmn
               have HG2 := Lib.hid (show ∀ j, j < k + 1 → sesOk W.ses j = true from fun j hj => by
                rcases Nat.lt_succ_iff_lt_or_eq.1 hj with h | h
                ·exact HG.out j h
                ·subst h
                 exact ses_good HK.out HTT.out HSO.out fun i hi => HJ.out i hi (by rw [HN4.out] at hi; exact hi))
               clear hx hy hb
               go_wp2_with fail
               go_roundw
               case rel => exact ⟨k + 1, by omega, by go_num, HG2, HX9.out, HB9.out⟩
               case measure => simp [intOf]; omega
     ·have HX := Lib.hid (show goodW W = false from ses_bad HK.out (se_bad HK.out HTT.out (by
       unfold seOk
       have : (decide (0 ≤ t.st) && decide (t.st ≤ 2)) = false := by
        rw [← Bool.not_eq_true, Bool.and_eq_true, decide_eq_true_eq, decide_eq_true_eq]
        exact hst
       rw [this]
       simp)))
      go_wp2_with fail
      refine (in_no _ _ _ _ (by omega)).mono ?_
      rintro e w4 ⟨rfl, rfl⟩
      go_wp2_with fail
      go_ret
      exact ⟨by rw [HX.out]; rfl, B3.out⟩
    ·have hkn : k = n := by omega
     subst hkn
     have HF := Lib.hid (may_end HP0.out (by rw [HN.out]; exact h8) (fun j hj => HG.out j (by rw [← HN.out]; exact hj)))
     have hww := sesOk_wri (ss := W.ses) (fun j hj => HG.out j (by rw [← HN.out]; exact hj))
     have f0 := X2.out.cell_ 0 _ rfl
     have hwl := (HWL.out.below hb).more hb.size
     have hrl : W.rows.length ≤ 100 := ((pairs_iff 10 100 W.rows).1 HP0.out).2.2
     have HR := Lib.hid (fun h8 => refrows_any wr _ _ W hwl h8 hrl hww)
     have h8' : W.ses.length ≤ 8 := by rw [HN.out]; exact h8
     have HR2 := Lib.hid (HR.out h8')
     clear hx hb hww hwl hrl HR
     go_wp2_with fail
     refine HR2.out.mono ?_
     rintro e w4 ⟨v4, rfl, o4, b4⟩
     have B4 := Lib.hid (below_step B2.out (Nat.le_refl _) b4)
     obtain ⟨A4, z4, rfl⟩ := o4.form
     obtain ⟨na, hna⟩ : ∃ n, (allR W).length = n := ⟨_, rfl⟩
     rw [hna] at HF ⊢
     clear o4 b4 hna HR2
     by_cases h100 : na ≤ 100
     ·have g9 : (na : Int) ≤ 100 := by omega
      have HX := Lib.hid (show goodW W = true by rw [HF.out]; simpa using h100)
      go_wp2_with fail
      go_ret
      exact ⟨by rw [HX.out]; rfl, B4.out⟩
     ·have g9 : ¬ (na : Int) ≤ 100 := by omega
      have g9' : decide ((na : Int) ≤ 100) = false := by simp; omega
      have g10 : (100 : Int) < (na : Int) := by omega
      have HX := Lib.hid (show goodW W = false by rw [HF.out]; simpa using h100)
      go_wp2_with fail
      go_ret
      exact ⟨by rw [HX.out]; first | rfl | simp [g9], B4.out⟩
  ·have g8 : (8 : Int) < (n : Int) := by omega
   have HX := Lib.hid (many_bad (W := W) (by rw [HN.out]; exact h8))
   go_wp2_with fail
   go_ret
   exact ⟨by rw [HX.out]; rfl, B1.out⟩
end Go.Proofs.YtjbnfigpflambabDoor
/- An argument that is a world (slices of pairs, and of sessions over such slices), opened to its cells. -/
namespace Go.Proofs.YtjbnfigpflambabDoor
open Go.ChangeShapes Go.WideShapes Go.ChangeAt Go.RowKit Go.Deep Go.Joins
section
variable {H : Type} {enc : TypeId × Value → H} {P : Program} {w : World} {base : Nat} {spare : Nat → Bool} {held : Bool}
theorem open_slice_fields {t e : TypeId} {fs : Array Field} {fuel : Nat} {cs : List Value} {x : DataW H × List MemPlace} (ht : P.underlying t = some (.slice e)) (he : P.underlying e = some (.struct fs))
  (hone : oneCellFields P fs = true) (hC : P.cellsOf e = fs.size) (h : DataW.trod enc P w base spare held fuel t cs = some x) :
  (cs = [.slice none 0 0] ∧ x = (.nil, [])) ∨
  ∃ (a : Addr) (len cap m : Nat) (D : Nat → DataW H) (Pl : Nat → List MemPlace), cs = [.slice (some a) len cap] ∧ base ≤ a.block ∧ len ≤ cap ∧ cap ≤ maxLen ∧ m = (if spare a.block then cap else len) ∧
   x = (.slice ((List.range len).map D) ((List.range (m - len)).map fun j => D (len + j)), MemPlace.row a (m * fs.size) ++ (List.range m).flatMap Pl) ∧
   ∀ i, i < m → ∃ (ys : List (DataW H × List MemPlace)) (n : Nat), D i = .agg (ys.map (·.1)) ∧ Pl i = ys.flatMap (·.2) ∧ ys.length = fs.size ∧
    ∀ (j : Nat) (f : Field), fs[j]? = some f → ∃ (v : Value) (y : DataW H × List MemPlace), w.cell? (a.add (i * fs.size + j)) = some v ∧ ys[j]? = some y ∧ DataW.trod enc P w base spare held n f.type [v] = some y := by
 rcases open_slice ht h with h0 | ⟨a, len, cap, m, n, D, Pl, hcs, hb, hl, hm, hmm, hx, hi⟩
 ·exact .inl h0
 ·refine .inr ⟨a, len, cap, m, D, Pl, hcs, hb, hl, hm, hmm, by rw [hC] at hx; exact hx, fun i him => ?_⟩
  obtain ⟨cs', hc, ht'⟩ := hi i him
  rw [hC] at hc
  obtain ⟨ys, n', hn', hy, hlen, hyl, hf⟩ := DataW.trod_struct he ht'
  obtain ⟨_, hcl, hat⟩ := World.cells?_some hc
  simp only [Prod.mk.injEq] at hy
  refine ⟨ys, n', hy.1, hy.2, hyl, fun j f hj => ?_⟩
  obtain ⟨ho, hk⟩ := hone_of hone j f hj
  have hjl : j < fs.size := (Array.getElem?_eq_some_iff.1 hj).1
  have hcell := hat j hjl
  have hv : cs'[j]? = some (cs'[j]'(by omega)) := List.getElem?_eq_getElem (by omega)
  have h1 := hf j f hj
  rw [ho, hk] at h1
  have hone' : (cs'.drop j).take 1 = [cs'[j]'(by omega)] := by
   rw [List.drop_eq_getElem_cons (by omega)]
   rfl
  rw [hone'] at h1
  have hys : ys[j]? = some (ys[j]'(by omega)) := List.getElem?_eq_getElem (by omega)
  refine ⟨_, _, ?_, hys, h1.trans hys⟩
  rw [← Go.Deep.add_add, hcell, hv]
end
theorem weightsAll_mem {H : Type} {P : Program} {e : TypeId} : ∀ {l : List (DataW H)} {d : DataW H}, d ∈ l → ∀ {q : Nat}, q ∈ d.weights P e → q ∈ DataW.weightsAll P e l
 | x :: l, d, h, q, hq => by
  simp only [DataW.weightsAll, List.mem_append]
  rcases List.mem_cons.1 h with rfl | h
  ·exact .inl hq
  ·exact .inr (weightsAll_mem h hq)
theorem cellsP_get {l : List Pr} {j : Nat} {u : Value} (h : (cellsP l)[j]? = some u) : ∃ i, ∃ hi : i < l.length, (j = i * 2 ∧ u = .string l[i].k) ∨ (j = i * 2 + 1 ∧ u = .string l[i].v) := by
 induction l generalizing j with
 | nil => simp [cellsP] at h
 | cons p l ih =>
  have e : cellsP (p :: l) = .string p.k :: .string p.v :: cellsP l := rfl
  rw [e] at h
  rcases j with _ | _ | j
  ·simp at h
   exact ⟨0, by simp, .inl ⟨rfl, h.symm⟩⟩
  ·simp at h
   exact ⟨0, by simp, .inr ⟨rfl, h.symm⟩⟩
  ·simp only [List.getElem?_cons_succ] at h
   obtain ⟨i, hi, h⟩ := ih h
   refine ⟨i + 1, by simpa using hi, ?_⟩
   rcases h with ⟨h1, h2⟩ | ⟨h1, h2⟩
   ·exact .inl ⟨by omega, by simpa using h2⟩
   ·exact .inr ⟨by omega, by simpa using h2⟩
instance : Inhabited Pr := ⟨Pr.no⟩
instance : Inhabited Se := ⟨Se.new⟩
section
variable {H : Type} {enc : TypeId × Value → H} {W : World} {base : Nat} {sp : Nat → Bool} {held : Bool}
theorem getElem_map_range {α : Type} (f : Nat → α) (n i : Nat) (h : i < ((List.range n).map f).length) : ((List.range n).map f)[i] = f i := by simp
theorem pl_of_cells {a : Addr} {cap : Nat} {l : List Pr} (hl : l.length ≤ cap) (hz : l.length ≤ 4398046510976) (h : ∀ i (hi : i < l.length), W.cell? (a.add (i * 2)) = some (.string l[i].k) ∧ W.cell? (a.add (i * 2 + 1)) = some (.string l[i].v) ∧ l[i].k.size ≤ maxLen ∧ l[i].v.size ≤ maxLen) :
  PL W W.heap.size (.slice (some a) l.length cap) l := by
 refine ⟨some a, cap, rfl, hl, ⟨cellsP_length l, fun hn => ⟨a, rfl, ?_, fun j u hu => ?_⟩⟩, hz, fun p hp => ?_⟩
 ·have := World.block_lt_of_cell? W _ (h 0 hn).1
  rwa [block_of_add] at this
 ·obtain ⟨i, hi, ⟨rfl, rfl⟩ | ⟨rfl, rfl⟩⟩ := cellsP_get hu
  ·exact (h i hi).1
  ·exact (h i hi).2.1
 ·obtain ⟨i, hi, rfl⟩ := List.getElem_of_mem hp
  exact (h i hi).2.2
set_option maxRecDepth 100000 in
theorem open_pl {n : Nat} {c : Value} {y : DataW H × List MemPlace} (h : DataW.trod enc Tryd.prog W base sp held n 28 [c] = some y) (hz : ∀ m ∈ y.1.weights Tryd.prog 28, m ≤ reachBytes) : ∃ l, PL W W.heap.size c l := by
 rcases open_slice_fields Tryd.underlying28 Tryd.underlying66 (by kernel_rfl) (by kernel_rfl) h with ⟨hc, rfl⟩ | ⟨a, len, cap, m, D, Pl, hc, hb, hl, hm, hmm, rfl, hf⟩
 ·obtain rfl : c = _ := by simpa using hc
  exact ⟨[], PL.nil_ _ _⟩
 ·obtain rfl : c = _ := by simpa using hc
  have hlm : len ≤ m := by rw [hmm]; split <;> omega
  have each : ∀ i, i < len → ∃ p : Pr, W.cell? (a.add (i * 2)) = some (.string p.k) ∧ W.cell? (a.add (i * 2 + 1)) = some (.string p.v) ∧ p.k.size ≤ maxLen ∧ p.v.size ≤ maxLen := by
   intro i hi
   obtain ⟨ys, n', _, _, _, hj⟩ := hf i (by omega)
   obtain ⟨v0, y0, c0, _, t0⟩ := hj 0 _ rfl
   obtain ⟨v1, y1, c1, _, t1⟩ := hj 1 _ rfl
   obtain ⟨s0, e0, _, w0⟩ := DataW.trod_string Tryd.underlying9 t0
   obtain ⟨s1, e1, _, w1⟩ := DataW.trod_string Tryd.underlying9 t1
   obtain rfl : v0 = _ := by simpa using e0
   obtain rfl : v1 = _ := by simpa using e1
   exact ⟨⟨s0, s1⟩, c0, c1, w0, w1⟩
  obtain ⟨f, hfp⟩ := choose_lt each
  have hlen : ((List.range len).map f).length = len := by simp
  have hzz : len ≤ 4398046510976 := by
   have := hz ((((List.range len).map D).length + ((List.range (m - len)).map fun j => D (len + j)).length) * Tryd.prog.bytesOf 66) (by simp [DataW.weights, Tryd.underlying28])
   have hb : Tryd.prog.bytesOf 66 = 32 := by kernel_rfl
   rw [hb] at this
   simp only [List.length_map, List.length_range, reachBytes] at this
   omega
  refine ⟨(List.range len).map f, ?_⟩
  have := pl_of_cells (W := W) (a := a) (cap := cap) (l := (List.range len).map f) (by rw [hlen]; exact hl) (by rw [hlen]; exact hzz) fun i hi => by
   rw [getElem_map_range]
   exact hfp i (by rw [hlen] at hi; exact hi)
  rw [hlen] at this
  exact this
set_option maxRecDepth 100000 in
theorem open_sl {n : Nat} {c : Value} {y : DataW H × List MemPlace} (h : DataW.trod enc Tryd.prog W base sp held n 29 [c] = some y) (hz : ∀ m ∈ y.1.weights Tryd.prog 29, m ≤ reachBytes) : ∃ ss, SL W W.heap.size c ss := by
 rcases open_slice_fields Tryd.underlying29 Tryd.underlying58 (by kernel_rfl) (by kernel_rfl) h with ⟨hc, rfl⟩ | ⟨a, len, cap, m, D, Pl, hc, hb, hl, hm, hmm, rfl, hf⟩
 ·obtain rfl : c = _ := by simpa using hc
  exact ⟨[], none, 0, rfl, Nat.le_refl _, Nat.zero_le _, fun h => absurd h (by simp)⟩
 ·obtain rfl : c = _ := by simpa using hc
  have hlm : len ≤ m := by rw [hmm]; split <;> omega
  have hzz : len ≤ 1353245080300 := by
   have := hz ((((List.range len).map D).length + ((List.range (m - len)).map fun j => D (len + j)).length) * Tryd.prog.bytesOf 58) (by simp [DataW.weights, Tryd.underlying29])
   have hb : Tryd.prog.bytesOf 58 = 104 := by kernel_rfl
   rw [hb] at this
   simp only [List.length_map, List.length_range, reachBytes] at this
   omega
  have hD : ∀ i, i < len → ∀ q ∈ (D i).weights Tryd.prog 58, q ≤ reachBytes := by
   intro i hi q hq
   refine hz q ?_
   simp only [DataW.weights, Tryd.underlying29, List.mem_cons, List.mem_append]
   exact .inr (.inl (weightsAll_mem (List.mem_map.2 ⟨i, List.mem_range.2 hi, rfl⟩) hq))
  have each : ∀ i, i < len → ∃ s : Se, SeAt W W.heap.size (a.add (i * 5)) s := by
   intro i hi
   obtain ⟨ys, n', hDi, _, hyl, hj⟩ := hf i (by omega)
   have hw := hD i hi
   rw [hDi] at hw
   obtain ⟨v0, y0, c0, g0, t0⟩ := hj 0 _ rfl
   obtain ⟨v1, y1, c1, g1, t1⟩ := hj 1 _ rfl
   obtain ⟨v2, y2, c2, g2, t2⟩ := hj 2 _ rfl
   obtain ⟨v3, y3, c3, g3, t3⟩ := hj 3 _ rfl
   obtain ⟨v4, y4, c4, g4, t4⟩ := hj 4 _ rfl
   have hwe : ∀ (j : Nat) (t : TypeId) (y : DataW H × List MemPlace), #[3, 28, 28, 28, 28].toList[j]? = some t → ys[j]? = some y → ∀ q ∈ y.1.weights Tryd.prog t, q ≤ reachBytes := by
    intro j t y ht hy q hq
    refine hw q ?_
    simp only [DataW.weights, Tryd.underlying58]
    exact DataW.weights_mem_each (j := j) (t := t) (d := y.1) ht (by simp [hy]) q hq
   obtain ⟨q0, e0, _, w0⟩ := DataW.trod_int Tryd.underlying3 t0
   obtain rfl : v0 = _ := by simpa using e0
   obtain ⟨l1, p1⟩ := open_pl t1 (hwe 1 _ _ rfl g1)
   obtain ⟨l2, p2⟩ := open_pl t2 (hwe 2 _ _ rfl g2)
   obtain ⟨l3, p3⟩ := open_pl t3 (hwe 3 _ _ rfl g3)
   obtain ⟨l4, p4⟩ := open_pl t4 (hwe 4 _ _ rfl g4)
   have ea : ∀ j, (⟨(a.add (i * 5)).block, (a.add (i * 5)).off + (j + 1), none⟩ : Addr) = a.add (i * 5 + (j + 1)) := fun j => by rw [← add_of_add]; rfl
   exact ⟨⟨q0, l1, l2, l3, l4⟩, c0, ⟨v1, by rw [ea 0]; exact c1, p1⟩, ⟨v2, by rw [ea 1]; exact c2, p2⟩, ⟨v3, by rw [ea 2]; exact c3, p3⟩, ⟨v4, by rw [ea 3]; exact c4, p4⟩, wf_i64 w0⟩
  obtain ⟨f, hfp⟩ := choose_lt each
  have hlen : ((List.range len).map f).length = len := by simp
  refine ⟨(List.range len).map f, some a, cap, by rw [hlen], by rw [hlen]; exact hl, by rw [hlen]; exact hzz, fun hn => ⟨a, rfl, ?_, fun i hi => ?_⟩⟩
  ·have := World.block_lt_of_cell? W _ (hfp 0 (by rw [hlen] at hn; exact hn)).st
   rwa [block_of_add] at this
  ·rw [getElem_map_range]
   exact hfp i (by rw [hlen] at hi; exact hi)
end
set_option maxRecDepth 100000 in
theorem open_world {H : Type} {enc : TypeId × Value → H} {W : World} {base base' : Nat} {sp : Nat → Bool} {held : Bool} {v : Value} {d : DataW H} {p : List MemPlace} (hv : Value.okWide Tryd.prog W .any base 31 v) (k : DataW.Trod enc Tryd.prog W base' sp held 31 v d p)
  (hz : ∀ m ∈ d.weights Tryd.prog 31, m ≤ reachBytes) : ∃ r s V, v = .agg #[r, s] ∧ WL W W.heap.size r s V := by
 obtain ⟨c0, c1, y0, y1, n, rfl, rfl, _, h0, h1⟩ := Go.Joins.open_agg2 Tryd.underlying31 (by kernel_rfl) (by kernel_rfl) hv k
 have hw : ∀ (j : Nat) (t : TypeId) (y : DataW H × List MemPlace), [28, 29][j]? = some t → [y0, y1][j]? = some y → ∀ q ∈ y.1.weights Tryd.prog t, q ≤ reachBytes := by
  intro j t y ht hy q hq
  refine hz q ?_
  simp only [DataW.weights, Tryd.underlying31]
  refine DataW.weights_mem_each (j := j) (t := t) (d := y.1) ht ?_ q hq
  rcases j with _ | _ | j
  ·simp at hy; subst hy; rfl
  ·simp at hy; subst hy; rfl
  ·simp at hy
 obtain ⟨l, hl⟩ := open_pl h0 (hw 0 _ _ rfl rfl)
 obtain ⟨ss, hs⟩ := open_sl h1 (hw 1 _ _ rfl rfl)
 exact ⟨c0, c1, ⟨l, ss⟩, rfl, hl, hs⟩
end Go.Proofs.YtjbnfigpflambabDoor
/- The keep package's picked: what it returns. -/
namespace Go.Proofs.YtjbnfigpflambabDoor
open Go.ChangeShapes Go.WideShapes Go.ChangeAt Go.RowKit
/-- a number from 0 to m - 1 -/
def pick (n m : Int) : Int := (if n < 0 then -(n + 1) else n) % m
end Go.Proofs.YtjbnfigpflambabDoor
/- strconv.Itoa of 0 to 11. -/
namespace Go.Proofs.YtjbnfigpflambabDoor
open Go.ChangeShapes Go.WideShapes Go.ChangeAt Go.RowKit
def numsL : List ByteArray := [⟨#[48]⟩, ⟨#[49]⟩, ⟨#[50]⟩, ⟨#[51]⟩, ⟨#[52]⟩, ⟨#[53]⟩, ⟨#[54]⟩, ⟨#[55]⟩, ⟨#[56]⟩, ⟨#[57]⟩, ⟨#[49, 48]⟩, ⟨#[49, 49]⟩]
def numT (n : Int) : ByteArray := numsL.getD n.toNat ByteArray.empty
end Go.Proofs.YtjbnfigpflambabDoor
/- A raw thing's statement: what tillermankeep.Stmt returns. -/
namespace Go.Proofs.YtjbnfigpflambabDoor
open Go.ChangeShapes Go.WideShapes Go.ChangeAt Go.RowKit
def keysL : List ByteArray := [⟨#[97]⟩, ⟨#[98]⟩, ⟨#[114, 111, 119]⟩, ⟨#[110, 97, 109, 101]⟩]
def keyT (i : Int) : ByteArray := keysL.getD i.toNat ByteArray.empty
def valT (i : Int) : ByteArray := (⟨#[118]⟩ : ByteArray) ++ numT i
def prepsL (v : ByteArray) : List ByteArray := [⟨#[103, 101, 116, 32, 97]⟩, ⟨#[114, 101, 97, 100, 32, 114, 111, 119]⟩, (⟨#[112, 117, 116, 32, 114, 111, 119, 32]⟩ : ByteArray) ++ v, ⟨#[112, 117, 116, 32, 98, 32, 120]⟩]
def prepT (i : Int) (v : ByteArray) : ByteArray := (prepsL v).getD i.toNat ByteArray.empty
/-- out of numbers that are in range: kind 0 to 23, key 0 to 3, value 0 to 11, the rest 0 to 2 and 0 to 3 -/
def stAt (k a b c d : Int) : St :=
 if k < 3 then ⟨1, ⟨#[]⟩, ⟨#[]⟩⟩ else if k < 5 then ⟨2, ⟨#[]⟩, ⟨#[]⟩⟩ else if k = 5 then ⟨3, ⟨#[]⟩, ⟨#[]⟩⟩ else if k = 6 then ⟨if c = 0 then 4 else 5, ⟨#[]⟩, ⟨#[]⟩⟩
 else if k < 10 then ⟨6, keyT a, ⟨#[]⟩⟩ else if k < 13 then ⟨7, keyT a, ⟨#[]⟩⟩ else if k < 15 then ⟨8, keyT a, ⟨#[]⟩⟩
 else if k < 18 then ⟨9, keyT a, valT b⟩ else if k < 22 then ⟨10, keyT a, valT b⟩ else ⟨11, keyT a, prepT d (valT b)⟩
def rawS (k a b c : Int) : St := stAt (pick k 24) (pick a 4) (pick b 12) (pick c 3) (pick c 4)
/-- what the walk holds -/
structure RH (w0 : World) (k a b c : Int) (w : World) : Prop where
 bel : Below w0.heap.size w0 w
 raw : Blk w w0.heap.size 42 #[.int .i64 k, .int .i64 a, .int .i64 b, .int .i64 c]
 res : Blk w (w0.heap.size + 1) 23 #[.int .i64 0, .string ⟨#[]⟩, .string ⟨#[]⟩]
theorem RH.start (w : World) (k a b c : Int) : RH w k a b c ((w.alloc (.cells #[.int .i64 k, .int .i64 a, .int .i64 b, .int .i64 c] 42 (0, 0))).alloc (.cells #[.int .i64 0, .string ⟨#[]⟩, .string ⟨#[]⟩] 23 (0, 0))) := by
 refine ⟨boxed2 w _ _, (Blk.new w _ _).alloc _, ?_⟩
 have h := Blk.new (w.alloc (.cells #[.int .i64 k, .int .i64 a, .int .i64 b, .int .i64 c] 42 (0, 0))) 23 #[.int .i64 0, .string ⟨#[]⟩, .string ⟨#[]⟩]
 have e : ∀ o : Obj, (w.alloc o).heap.size = w.heap.size + 1 := fun o => by simp
 rw [e] at h
 exact h
theorem RH.alloc {w0 w : World} {k a b c : Int} (h : RH w0 k a b c w) (o : Obj) : RH w0 k a b c (w.alloc o) :=
 ⟨h.bel.alloc h.bel.size o, h.raw.alloc o, h.res.alloc o⟩
end Go.Proofs.YtjbnfigpflambabDoor
/- An argument that is a slice of raw things. -/
namespace Go.Proofs.YtjbnfigpflambabDoor
open Go.ChangeShapes Go.WideShapes Go.ChangeAt Go.RowKit Go.Deep Go.Joins
structure Rw where
 (k a b c : Int)
def Rw.st (x : Rw) : St := rawS x.k x.a x.b x.c
structure Rw.Wf (x : Rw) : Prop where
 k : (Lit.int .i64 x.k).wf = true
 a : (Lit.int .i64 x.a).wf = true
 b : (Lit.int .i64 x.b).wf = true
 c : (Lit.int .i64 x.c).wf = true
instance : Inhabited Rw := ⟨⟨0, 0, 0, 0⟩⟩
structure RwAt (w : World) (p : Addr) (x : Rw) : Prop where
 k : w.cell? p = some (.int .i64 x.k)
 a : w.cell? ⟨p.block, p.off + 1, none⟩ = some (.int .i64 x.a)
 b : w.cell? ⟨p.block, p.off + 2, none⟩ = some (.int .i64 x.b)
 c : w.cell? ⟨p.block, p.off + 3, none⟩ = some (.int .i64 x.c)
def RL (w : World) (B : Nat) (v : Value) (l : List Rw) : Prop :=
 ∃ A cap, v = .slice A l.length cap ∧ l.length ≤ cap ∧ cap ≤ maxLen ∧ (0 < l.length → ∃ ad, A = some ad ∧ ad.block < B ∧ ∀ i (h : i < l.length), RwAt w (ad.add (i * 4)) l[i]) ∧ ∀ x ∈ l, x.Wf
theorem RwAt.below {w w' : World} {B : Nat} {p : Addr} {x : Rw} (h : RwAt w p x) (hp : p.block < B) (hb : Below B w w') : RwAt w' p x :=
 ⟨(hb.cell hp).trans h.k, (hb.cell (by exact hp)).trans h.a, (hb.cell (by exact hp)).trans h.b, (hb.cell (by exact hp)).trans h.c⟩
theorem RL.below {w w' : World} {B : Nat} {v : Value} {l : List Rw} (h : RL w B v l) (hb : Below B w w') : RL w' B v l := by
 obtain ⟨A, cap, e, h1, h2, h3, h4⟩ := h
 refine ⟨A, cap, e, h1, h2, fun hn => ?_, h4⟩
 obtain ⟨ad, e, hB, hi⟩ := h3 hn
 exact ⟨ad, e, hB, fun i h => (hi i h).below (by rw [block_of_add]; exact hB) hb⟩
theorem RL.more {w : World} {B B' : Nat} {v : Value} {l : List Rw} (h : RL w B v l) (hB : B ≤ B') : RL w B' v l := by
 obtain ⟨A, cap, e, h1, h2, h3, h4⟩ := h
 exact ⟨A, cap, e, h1, h2, fun hn => (by obtain ⟨ad, e, hb, hi⟩ := h3 hn; exact ⟨ad, e, by omega, hi⟩), h4⟩
end Go.Proofs.YtjbnfigpflambabDoor
