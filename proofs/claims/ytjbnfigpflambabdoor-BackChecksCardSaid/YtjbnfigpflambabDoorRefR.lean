/- The reference's allRows. -/
import Derived.Test.YtjbnfigpflambabDoorRefQ
namespace Go.Proofs.YtjbnfigpflambabDoor
open Go.ChangeShapes Go.WideShapes Go.ChangeAt Go.RowKit

theorem plusP_len1 : ∀ (l : List Pr) (k v : ByteArray), (plusP l k v).length ≤ l.length + 1
  | [], _, _ => Nat.le_refl _
  | p :: l, k, v => by
    unfold plusP
    split
    · have := plusP_len1 l k v
      rw [List.length_cons, List.length_cons]
      omega
    · have := List.length_filter_le (fun q : Pr => !decide (q.k = k)) (p :: l)
      rw [List.length_cons]
      omega
theorem plus_fits {l : List Pr} {k v : ByteArray} (h : ∀ p ∈ l, p.k.size ≤ maxLen ∧ p.v.size ≤ maxLen) (hk : k.size ≤ maxLen) (hv : v.size ≤ maxLen) (hl : l.length ≤ 1000) : Fits (plusP l k v) := by
  refine ⟨by have := plusP_len1 l k v; omega, fun p hp => ?_⟩
  rcases plF_in k v l p hp with rfl | hp
  · exact ⟨hk, hv⟩
  · exact h p hp
set_option maxHeartbeats 8000000 in
set_option maxRecDepth 100000 in
theorem refrows_any (w : World) (r s : Value) (W : Wo) (h : WL w w.heap.size r s W) (h8 : W.ses.length ≤ 8) (hr : W.rows.length ≤ 100) (hw : ∀ s ∈ W.ses, s.wri.length ≤ 100) :
    Calls Tryd.prog 38 #[.agg #[r, s]] w fun e w' => ∃ v', e = .returned v' ∧ OPL w' w.heap.size v' (allR W) ∧ Below w.heap.size w w' := by
  obtain ⟨hrows, hses⟩ := h
  obtain ⟨Ar, cr, rfl⟩ := hrows.form
  obtain ⟨A, c, rfl, hc, hn, hs⟩ := hses
  have HS := Lib.hid hs
  have HR := Lib.hid hr
  have HW := Lib.hid hw
  have HP := Lib.hid hrows
  obtain ⟨n, hN⟩ : ∃ n, W.ses.length = n := ⟨_, rfl⟩
  obtain ⟨nr, hNR⟩ : ∃ n, W.rows.length = n := ⟨_, rfl⟩
  rw [hN] at h8 hn ⊢
  rw [hNR] at HP ⊢
  have HN := Lib.hid hN
  have B0 := Lib.hid (boxed w (.cells #[.slice Ar nr cr, .slice A n c] 31))
  have X0 := Lib.hid (Blk.new w 31 #[.slice Ar nr cr, .slice A n c])
  clear hN hNR hs hr hw hrows hc
  obtain ⟨q, hq⟩ : ∃ q, w.heap.size = q := ⟨_, rfl⟩
  rw [hq] at X0
  go_enter Tryd.func38, Tryd.ntmps38
  go_wp2_with fail
  refine (refpairs_any _ _ W.rows (HP.out.alloc (Nat.le_refl _) _ |>.more (by simp))).mono ?_
  rintro e w1 ⟨v1, rfl, o1, b1⟩
  have O1 := Lib.hid (o1.base (B := _) (B' := w.heap.size) (by simp))
  have B1 := Lib.hid (below_step B0.out (Nat.le_refl _) b1)
  have X1 := Lib.hid (X0.out.keep b1)
  clear o1 b1 B0 X0
  go_upto_region 3 with fail
  go_loopw [3, 4] (fun u i wx => ∃ k : Nat, k ≤ n ∧ i = .int .i64 k ∧ OPL wx w.heap.size u (allS W.rows (W.ses.take k)) ∧ (allS W.rows (W.ses.take k)).length ≤ 100 + k * 100 ∧ Blk wx q 31 #[.slice Ar nr cr, .slice A n c] ∧ Below w.heap.size w wx) (fun _ i _ => n - (intOf i).toNat)
  case atStart => exact ⟨0, Nat.zero_le _, rfl, O1.out, HR.out, X1.out, B1.out⟩
  case round =>
    obtain ⟨k, hk, rfl, ho, hlen, hx, hb⟩ := hrel
    have f1 := hx.cell_ 1 _ rfl
    have HX := Lib.hid hx
    have HB := Lib.hid hb
    have HO := Lib.hid ho
    by_cases hlt : k < n
    · have hkl : k < W.ses.length := by rw [HN.out]; exact hlt
      have g1 : (k : Int) < (n : Int) := by omega
      have g2 : (0 : Int) ≤ (k : Int) := by omega
      obtain ⟨ad, hA, hAB, hse⟩ := HS.out (by rw [HN.out]; omega)
      subst hA
      have y := hse k hkl
      have hwl := HW.out W.ses[k] (List.getElem_mem _)
      have hst := allS_take W.rows W.ses hkl
      obtain ⟨t, ht⟩ : ∃ t, W.ses[k] = t := ⟨_, rfl⟩
      rw [ht] at y hwl hst
      have Y := Lib.hid (fun (wx : World) (hb : Below w.heap.size w wx) => y.below (by rw [block_of_add]; exact hAB) hb)
      have HST := Lib.hid hst
      obtain ⟨nw, hnw⟩ : ∃ n, t.wri.length = n := ⟨_, rfl⟩
      rw [hnw] at hwl
      have HNW := Lib.hid hnw
      obtain ⟨OS, hOS⟩ : ∃ OS, allS W.rows (W.ses.take k) = OS := ⟨_, rfl⟩
      rw [hOS] at HO hlen HST
      clear y ht hst hnw hOS hx hb ho hse hAB
      go_upto_region 6 with fail
      clear f1
      go_loopw [3, 5] (fun u j wx => ∃ m : Nat, m ≤ nw ∧ j = .int .i64 m ∧ OPL wx w.heap.size u (addR OS (t.wri.take m)) ∧ (addR OS (t.wri.take m)).length ≤ 100 + k * 100 + m ∧ Blk wx q 31 #[.slice Ar nr cr, .slice (some ad) n c] ∧ Below w.heap.size w wx) (fun _ j _ => nw - (intOf j).toNat)
      case atStart => exact ⟨0, Nat.zero_le _, rfl, HO.out, hlen, HX.out, HB.out⟩
      case round =>
        obtain ⟨m, hm, rfl, ho, hlen2, hx, hb⟩ := hrel
        have f1 := hx.cell_ 1 _ rfl
        have HX := Lib.hid hx
        have HB := Lib.hid hb
        have HO := Lib.hid ho
        obtain ⟨-, -, -, -, ⟨v4, x4, p4⟩, -, -⟩ := Y.out wr hb
        obtain ⟨A4, z4, rfl, hz4, r4, f4⟩ := p4
        rw [HNW.out] at x4 hz4
        by_cases hlt2 : m < nw
        · have g1' : (m : Int) < (nw : Int) := by omega
          have g2' : (0 : Int) ≤ (m : Int) := by omega
          have hml : m < t.wri.length := by rw [HNW.out]; exact hlt2
          obtain ⟨ad4, hA4, _, y0, y1⟩ := pair_at r4 hml
          subst hA4
          have hks := (f4.2 t.wri[m] (List.getElem_mem _)).1
          have hat := addR_take OS t.wri hml
          obtain ⟨p, hp⟩ : ∃ p, t.wri[m] = p := ⟨_, rfl⟩
          rw [hp] at y0 y1 hks hat
          obtain ⟨pk, pv⟩ := p
          simp only at y0 y1 hks hat
          have HAT := Lib.hid hat
          have HF := Lib.hid (plus_fits (v := ⟨#[]⟩) ho.fits.2 hks (Nat.zero_le _) (by omega))
          have hpl := plusP_len1 (addR OS (t.wri.take m)) pk ⟨#[]⟩
          obtain ⟨Au, cu, rfl⟩ := HO.out.form
          have P := Lib.hid HO.out.pl
          obtain ⟨OM, hOM⟩ : ∃ OM, addR OS (t.wri.take m) = OM := ⟨_, rfl⟩
          rw [hOM] at P hlen2 HAT HF hpl HO ⊢
          clear hp hat r4 f4 hx hb ho hOM
          go_wp2_with fail
          refine (refplus_any _ _ OM pk ⟨#[]⟩ P.out).mono ?_
          rintro e w2 ⟨v2, rfl, o2, b2⟩
          have O2 := Lib.hid (show OPL w2 w.heap.size v2 (addR OS (t.wri.take (m + 1))) by rw [HAT.out]; exact (OPL.mk o2 HF.out).base HB.out.size)
          have HL := Lib.hid (show (addR OS (t.wri.take (m + 1))).length ≤ 100 + k * 100 + (m + 1) by rw [HAT.out]; omega)
          have HB2 := Lib.hid (below_step HB.out (Nat.le_refl _) b2)
          have HX2 := Lib.hid (HX.out.keep b2)
          clear o2 b2 f1 x4 y0 y1
          go_wp2_with fail
          go_roundw
          case rel => exact ⟨m + 1, by omega, by go_num, O2.out, HL.out, HX2.out, HB2.out⟩
          case measure => simp [intOf]; omega
        · have hmn : m = nw := by omega
          subst hmn
          have g1' : (m : Int) ≤ (m : Int) := Int.le_refl _
          have he : addR OS (t.wri.take m) = allS W.rows (W.ses.take (k + 1)) := by rw [HST.out, ← HNW.out, List.take_length]
          rw [he] at HO hlen2
          have HL := Lib.hid (show (allS W.rows (W.ses.take (k + 1))).length ≤ 100 + (k + 1) * 100 by omega)
          clear hx hb ho r4 f4 he
          go_wp2_with fail
          go_roundw
          case rel => exact ⟨k + 1, by omega, by go_num, HO.out, HL.out, HX.out, HB.out⟩
          case measure => simp [intOf]; omega
    · have g1 : (n : Int) ≤ (k : Int) := by omega
      have hkn : k = n := by omega
      subst hkn
      rw [← HN.out, List.take_length] at HO
      clear hx hb ho
      go_wp2_with fail
      go_ret
      exact ⟨_, rfl, HO.out, HB.out⟩
end Go.Proofs.YtjbnfigpflambabDoor
