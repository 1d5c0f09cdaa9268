/- Small laws on an outcome in memory that the tops share. The walk of TopCommitted: it returns true. Plain laws, no program: TopGone: where every client went, nothing is left of one. Plain laws of outcomes: TopPrivate, TopCuts, TopGone. slices.Clone of acts; the plain law of TopTwice. slices.DeleteFunc over acts: those that close or ask to go are left out. tillermantop.staying: the acts in which nobody goes. Acts in memory off a slice that is owned at any offset. -/
import Derived.Test.YtjbnfigpflambacGreatDoorJ03
import Derived.Test.YtjbnfigpflambacGreatDoorJ07
import Derived.Test.YtjbnfigpflambacGreatDoorJ31
import Derived.Test.YtjbnfigpflambacGreatDoorJ36
import Derived.Lib.SliceRun
import Derived.Maps.AppendAt
import Derived.Deep.CutBlock
/- Small laws on an outcome in memory that the tops share. -/
namespace Go.Proofs.YtjbnfigpflambacGreatDoor
open Go.ChangeShapes Go.WideShapes Go.ChangeAt Go.RowKit
/-- what is held of an outcome in a box -/
theorem boxO_new {w w1 : World} {B : Nat} {vs vd vr : Value} {o : Outc} (h : OutR w1 w.heap.size vs vd vr o) (hb : Below w.heap.size w w1) (hB : B ≤ w.heap.size) : BoxO (w1.alloc (.cells #[vs, vd, vr] 29)) B w1.heap.size vs vd vr o :=
 ⟨Nat.le_trans hB hb.size, Blk.new w1 _ _, (h.keep (boxed w1 _)).base hB⟩
theorem outR_form {w : World} {B : Nat} {vs vd vr : Value} {o : Outc} (h : OutR w B vs vd vr o) : ∃ A1 c1 A2 c2 A3 c3, vs = .slice A1 o.sent.length c1 ∧ vd = .slice A2 o.deeds.length c2 ∧ vr = .slice A3 o.rows.length c3 := by
 obtain ⟨A1, c1, h1, _⟩ := h.sent.form
 obtain ⟨A2, c2, h2, _⟩ := h.deeds.form
 obtain ⟨A3, c3, h3⟩ := h.rows.form
 exact ⟨A1, c1, A2, c2, A3, c3, h1, h2, h3⟩
theorem str_no {a b : ByteArray} (h : ¬ a = b) : (a.toList == b.toList) = false := by
 cases hh : (a.toList == b.toList) with
 | false => rfl
 | true => exact absurd (str_inj (by simpa using hh)) h
theorem int_beq (a b : Int) : (a == b) = decide (a = b) := by rw [Bool.eq_iff_iff]; simp
theorem DeAt.lt {w : World} {p : Addr} {x : De} (h : DeAt w p x) : p.block < w.heap.size := World.block_lt_of_cell? w _ h.c
/-- the first deeds -/
theorem reads_take {w : World} {B n i : Nat} {A : Option Addr} {l : List De} (h : Reads w B 7 A n (deV l)) (hi : i ≤ n) (hn : l.length = n) : Reads w B 7 A i (deV (l.take i)) := by
 have hl : (deV (l.take i)).length = i * 7 := by
  have : ∀ m : List De, (deV m).length = m.length * 7 := fun m => by
   induction m with
   | nil => rfl
   | cons a m ih =>
    show ((dV a) ++ deV m).length = _
    rw [List.length_append, ih, List.length_cons]
    show 7 + m.length * 7 = _
    omega
  rw [this, List.length_take]
  omega
 refine ⟨hl, fun h0 => ?_⟩
 obtain ⟨ad, hA, hB, hc⟩ := h.2 (by omega)
 refine ⟨ad, hA, hB, fun j u hu => hc j u ?_⟩
 have e : deV l = deV (l.take i) ++ deV (l.drop i) := by
  unfold deV
  rw [← List.flatMap_append, List.take_append_drop]
 rw [e, List.getElem?_append_left (List.getElem?_eq_some_iff.1 hu).1]
 exact hu
theorem deeds_reads {w : World} {B n cap : Nat} {vs vr : Value} {A : Option Addr} {o : Outc} (h : OutR w B vs (.slice A n cap) vr o) : Reads w w.heap.size 7 A o.deeds.length (deV o.deeds) := by
 obtain ⟨A', c', e, _, r⟩ := h.deeds.reads
 injection e with e1
 subst e1
 exact r
theorem setup_ok (m n : Int) : ∃ k : Nat, 1 + pick n 4 = (k : Int) ∧ 1 ≤ k ∧ k ≤ 4 ∧ setupE (1 + pick m 3) k = 0 := by
 have h1 := pick_bd m 3 (by decide)
 have h2 := pick_bd n 4 (by decide)
 refine ⟨(1 + pick n 4).toNat, by omega, by omega, by omega, ?_⟩
 unfold setupE
 rw [if_neg (by omega), if_neg (by omega)]
end Go.Proofs.YtjbnfigpflambacGreatDoor
/- The walk of TopCommitted: it returns true. -/
namespace Go.Proofs.YtjbnfigpflambacGreatDoor
open Go.ChangeShapes Go.WideShapes Go.ChangeAt Go.RowKit
def comB (p : Pr) (x : De) : Bool := decide (x.a.kind = 1) && ((decide (x.x.k = 10) && decide (x.x.key = p.k) && decide (x.x.val = p.v)) || decide (x.x.k = 8))
set_option maxHeartbeats 2000000 in
set_option maxRecDepth 100000 in
theorem com_clo (w : World) (x : De) (p : Pr) (q : Nat) (h0 : w.cell? ⟨q, 0, none⟩ = some (.string p.k)) (h1 : w.cell? ⟨q, 1, none⟩ = some (.string p.v)) :
  Calls Tryz.prog 29 #[dAgg x, .pointer (some ⟨q, 0, none⟩)] w fun e w' => e = .returned (.bool (comB p x)) ∧ Below w.heap.size w w' := by
 have lq : q < w.heap.size := World.block_lt_of_cell? w _ h0
 have B := Lib.hid (boxed w (.cells #[.int .i64 (x.c : Int), .int .i64 x.x.k, .string x.x.key, .string x.x.val, .int .i64 x.a.kind, .string x.a.text, .int .i64 x.a.st] 71))
 unfold dAgg comB
 obtain ⟨c, ⟨k, key, val⟩, ⟨ak, at', as'⟩⟩ := x
 obtain ⟨pk, pv⟩ := p
 simp only at h0 h1 B ⊢
 by_cases ha : ak = 1
 ·subst ha
  by_cases hk : k = 10
  ·subst hk
   by_cases hkey : key = pk
   ·subst hkey
    by_cases hval : val = pv
    ·subst hval
     go_enter Tryz.func29, Tryz.ntmps29
     go_wp2_with fail
     go_ret
     exact ⟨by simp, B.out⟩
    ·have n1 := str_no hval
     go_enter Tryz.func29, Tryz.ntmps29
     go_wp2_with fail
     go_ret
     exact ⟨by simp [hval], B.out⟩
   ·have n1 := str_no hkey
    go_enter Tryz.func29, Tryz.ntmps29
    go_wp2_with fail
    go_ret
    exact ⟨by simp [hkey], B.out⟩
  ·have n1 : (k == 10) = false := by simpa using hk
   have n2 : ¬ k = 10 := hk
   go_enter Tryz.func29, Tryz.ntmps29
   go_wp2_with fail
   go_ret
   exact ⟨by simp [hk, int_beq], B.out⟩
 ·have n1 : (ak == 1) = false := by simpa using ha
  have n2 : ¬ ak = 1 := ha
  go_enter Tryz.func29, Tryz.ntmps29
  go_wp2_with fail
  go_ret
  exact ⟨by simp [ha], B.out⟩
theorem com_any {ds : List De} {p : Pr} (h : Wrote ds p) : ds.any (comB p) = true := by
 obtain ⟨d, hd, h1, h2⟩ := h
 refine List.any_eq_true.2 ⟨d, hd, ?_⟩
 unfold comB
 rcases h2 with ⟨a, b, c⟩ | a
 ·simp [h1, a, b, c]
 ·simp [h1, a]
theorem out_wrote (mode : Int) (n : Nat) (hn : n ≤ 8) (l : List Ac) (hl : ∀ a ∈ l, a.c.toNat < 6) : ∀ p ∈ (outM mode n l).rows, Wrote (outM mode n l).deeds p := by
 rw [out_house mode n hn l hl]
 intro p hp
 exact inv_all inv_committed (fun p h => absurd h (start_allP p)) mode n hn l hl p (.inl hp)
set_option maxHeartbeats 8000000 in
set_option maxRecDepth 100000 in
theorem topCommitted_walk (W0 : World) (hT : Tabs W0) (v : Value) (l : List Rw) (hl : RL W0 W0.heap.size v l) (m : Int) (hm : (Lit.int .i64 m).wf = true) (n : Int) (hn : (Lit.int .i64 n).wf = true) :
  Calls Tryz.prog 6 #[v, .int .i64 m, .int .i64 n] W0 fun e w' => e = .returned (.bool true) ∧ Below W0.heap.size W0 w' := by
 have HT := Lib.hid hT
 have HL := Lib.hid hl
 have HM := Lib.hid hm
 have HN := Lib.hid hn
 obtain ⟨A, cap, rfl, _⟩ := hl
 have hf := acts_fair (most := 60) (m := 5) (by decide) (by decide) l
 obtain ⟨ns, hk, k1, k4, hs⟩ := setup_ok m n
 have hfair := out_wrote (1 + pick m 3) ns (by omega) _ (fair_c (by decide) hf)
 obtain ⟨md, hmd⟩ : ∃ md, 1 + pick m 3 = md := ⟨_, rfl⟩
 rw [hmd] at hs hfair
 obtain ⟨o, ho⟩ : ∃ o, outM md ns (actsL 60 5 l) = o := ⟨_, rfl⟩
 rw [ho] at hfair
 have HO1 := Lib.hid ho
 have HF := Lib.hid hfair
 have HO := Lib.hid (fair_ok hf)
 have HLE := Lib.hid (Nat.le_trans (acts_len 60 5 l) (show 60 ≤ 300 by decide))
 have HK := Lib.hid hk
 have HMD := Lib.hid hmd
 have HS := Lib.hid (And.intro hs (And.intro k1 k4))
 obtain ⟨N, hN⟩ : ∃ N, l.length = N := ⟨_, rfl⟩
 rw [hN] at HL ⊢
 clear hT hf ho hN hm hn hk k1 k4 hs hfair hmd
 go_enter Tryz.func6, Tryz.ntmps6
 go_wp2_with fail
 refine (ksetup_any m n _ HM.out HN.out).mono ?_
 rintro e w1 ⟨rfl, b1⟩
 rw [HK.out, HMD.out]
 have B1 := Lib.hid b1
 clear b1
 go_wp2_with fail
 refine (acts_any _ _ l (HL.out.below B1.out |>.more B1.out.size) 60 5 (by decide) (by decide) (by decide) (HT.out.below B1.out)).mono ?_
 rintro e w2 ⟨r, rfl, own, b2⟩
 have HA := Lib.hid (own_acl own)
 obtain ⟨Ar, cr, rfl⟩ := own_slice own
 have B2 := Lib.hid (below_step B1.out (Nat.le_refl _) b2)
 obtain ⟨n', hn'⟩ : ∃ n, (actsL 60 5 l).length = n := ⟨_, rfl⟩
 rw [hn'] at HA ⊢
 clear own b2 hn' B1
 go_wp2_with fail
 refine (played_top _ md ns _ _ HS.out.1 HS.out.2.1 HS.out.2.2 HA.out HLE.out HO.out (HT.out.below B2.out)).mono ?_
 rintro e w3 ⟨vs, vd, vr, rfl, h3, b3⟩
 rw [HO1.out] at h3
 have X := Lib.hid (boxO_new h3 b3 B2.out.size)
 have B3 := Lib.hid (below_step B2.out (Nat.le_refl _) b3)
 have bb := boxed w3 (.cells #[vs, vd, vr] 29)
 have B4 := Lib.hid (below_step B3.out (Nat.le_refl _) bb)
 obtain ⟨A1, c1, A2, c2, A3, c3, rfl, rfl, rfl⟩ := outR_form h3
 clear h3 b3 bb HA B2 B3
 obtain ⟨n1, hn1⟩ : ∃ n, o.sent.length = n := ⟨_, rfl⟩
 obtain ⟨n2, hn2⟩ : ∃ n, o.deeds.length = n := ⟨_, rfl⟩
 obtain ⟨n3, hn3⟩ : ∃ n, o.rows.length = n := ⟨_, rfl⟩
 have HN2 := Lib.hid hn2
 have HN3 := Lib.hid hn3
 rw [hn1, hn2, hn3] at X B4 ⊢
 obtain ⟨q, hq⟩ : ∃ q, w3.heap.size = q := ⟨_, rfl⟩
 rw [hq] at X
 go_upto_region 2 with fail
 generalize World.alloc _ _ = w4 at X B4 ⊢
 clear hq hn1 hn2 hn3
 have x1 := X.out.blk.cell_ 2 _ rfl
 go_wp2_with fail
 clear x1
 go_loopw [23] (fun i wx => ∃ k : Nat, k ≤ n3 ∧ i = .int .i64 k ∧ BoxO wx W0.heap.size q (.slice A1 n1 c1) (.slice A2 n2 c2) (.slice A3 n3 c3) o ∧ Below W0.heap.size W0 wx) (fun i _ => n3 - (intOf i).toNat)
 case atStart => exact ⟨0, Nat.zero_le _, rfl, X.out, B4.out⟩
 case round =>
  obtain ⟨k, hk, rfl, hX, hB⟩ := hrel
  have hmost := hX.out.rows.fits.1
  obtain ⟨A3', c3', e0, hle, rd, hft⟩ := hX.out.rows.pl
  injection e0 with e1 e2 e3
  subst e1 e3
  rw [HN3.out] at hle hmost
  have hm9 : n3 ≤ 9223372036854775807 := by omega
  clear e2
  by_cases hlt : k < n3
  ·have g1 : (k : Int) < (n3 : Int) := by omega
   have g2 : (0 : Int) ≤ (k : Int) := by omega
   have hkl : k < o.rows.length := by rw [HN3.out]; exact hlt
   obtain ⟨ad, hA, hadB, x0, x1⟩ := pair_at rd hkl
   subst hA
   obtain ⟨p, hp⟩ : ∃ p, o.rows[k] = p := ⟨_, rfl⟩
   have HL1 := Lib.hid (com_any (HF.out o.rows[k] (List.getElem_mem _)))
   rw [hp] at x0 x1 HL1
   have HX := Lib.hid hX
   have HB := Lib.hid hB
   obtain ⟨pk, pv⟩ := p
   simp only at x0 x1
   clear hX hB hmost rd hp hft
   go_upto_region 5 with fail
   have Y0 := (Blk.new wr 60 #[.string pk, .string pv])
   have bb := boxed wr (.cells #[.string pk, .string pv] 60)
   have X2 := Lib.hid (HX.out.keep bb)
   have BB2 := Lib.hid (below_step HB.out (Nat.le_refl _) bb)
   obtain ⟨z, hz⟩ : ∃ z, wr.heap.size = z := ⟨_, rfl⟩
   rw [hz] at Y0 ⊢
   have Y := Lib.hid Y0
   generalize World.alloc _ _ = w5 at Y Y0 X2 BB2 ⊢
   clear bb x0 x1 HX HB hz hadB Y0
   have hx1 := X2.out.blk.cell_ 1 _ rfl
   have RD := Lib.hid (deeds_reads X2.out.out)
   have HMO := Lib.hid X2.out.out.deeds.most
   go_wp2_with fail
   refine (contd_any w5 _ n2 c2 o.deeds z (comB ⟨pk, pv⟩) (fun x _ => by cases comB ⟨pk, pv⟩ x <;> simp) (by rw [← HN2.out]; exact RD.out) HN2.out (by rw [← HN2.out]; exact HMO.out) (fun w' x hb hx => com_clo w' x ⟨pk, pv⟩ z ((hb.cell (by exact Y.out.lt)).trans (Y.out.cell_ 0 _ rfl)) ((hb.cell (by exact Y.out.lt)).trans (Y.out.cell_ 1 _ rfl)))).mono ?_
   rintro e w6 ⟨rfl, b6⟩
   rw [HL1.out]
   have X6 := Lib.hid (X2.out.keep b6)
   have B6 := Lib.hid (below_step BB2.out (Nat.le_refl _) b6)
   clear b6 hx1 RD X2 BB2
   go_wp2_with fail
   go_roundw
   case rel => exact ⟨k + 1, by omega, by go_num, X6.out, B6.out⟩
   case measure => simp [intOf]; omega
  ·have g1 : (n3 : Int) ≤ (k : Int) := by omega
   have HB := Lib.hid hB
   clear hB hX
   go_wp2_with fail
   go_ret
   exact ⟨rfl, HB.out⟩
end Go.Proofs.YtjbnfigpflambacGreatDoor
/- Plain laws, no program: TopGone: where every client went, nothing is left of one. -/
namespace Go.Proofs.YtjbnfigpflambacGreatDoor
theorem Sim.ses {z : Fr × PB} {y : Fr × Wo} (h : Sim z y) : y.2.ses.length = 6 := h.rb.ses6
def aK : ByteArray := ⟨#[97]⟩
end Go.Proofs.YtjbnfigpflambacGreatDoor
/- Plain laws of outcomes: TopPrivate, TopCuts, TopGone. -/
namespace Go.Proofs.YtjbnfigpflambacGreatDoor
open Go.RowKit
theorem fair_in4 {a : Ac} (h : AcFair 4 a) : a.c.toNat ∈ [0, 1, 2, 3] ∧ a.c.toNat < 6 := by
 have h1 := h.lt
 have h2 := h.ok.c0
 have : a.c.toNat = 0 ∨ a.c.toNat = 1 ∨ a.c.toNat = 2 ∨ a.c.toNat = 3 := by omega
 exact ⟨by simpa using this, by omega⟩
theorem out_cuts (mode : Int) (L : List (Ac × Nat)) (hl : ∀ p ∈ L, AcFair 4 p.1 ∧ p.1.kind = 1 ∧ noX p.1.data) (hc : ∀ a ∈ cutAll L, a.c.toNat < 6) : outM mode 4 (L.map (·.1)) = outM mode 4 (cutAll L) := by
 rw [out_house mode 4 (by decide) _ (fun a ha => by obtain ⟨p, hp, rfl⟩ := List.mem_map.1 ha; exact (fair_in4 (hl p hp).1).2), out_house mode 4 (by decide) _ hc]
 exact outH_av (cuts_law mode 4 (by decide) (S := [0, 1, 2, 3]) (by decide) (by decide) L (fun p hp => fair_in4 (hl p hp).1) fun p hp => (hl p hp).2)
theorem out_private (mode : Int) (n : Nat) (hn : n ≤ 8) (l : List Ac) (hl : ∀ a ∈ l, a.c.toNat < 6) (hs : ∀ a ∈ l, Stays a) : (outM mode n l).rows = (replay startH (outM mode n l).deeds).rows ∧
  ∀ ds d m, (outM mode n l).deeds = ds ++ d :: m → d.c < 6 ∧ checkE d.x = 0 ∧ Good (replay startH ds) ∧ (replay startH ds).ses.length = 6 ∧ d.a = (doW (replay startH ds) d.c d.x).2 := by
 obtain ⟨h1, h2⟩ := private_law mode n hn l hl hs
 rw [out_house mode n hn l hl]
 exact ⟨congrArg Wo.rows h1, h2⟩
end Go.Proofs.YtjbnfigpflambacGreatDoor
/- slices.Clone of acts; the plain law of TopTwice. -/
namespace Go.Proofs.YtjbnfigpflambacGreatDoor
open Go.ChangeShapes Go.WideShapes Go.ChangeAt Go.RowKit
theorem acV_one (l : List Ac) : ∀ u ∈ acV l, u.oneCell' = true := by
 intro u hu
 obtain ⟨a, _, h⟩ := List.mem_flatMap.1 hu
 simp only [List.mem_cons, List.not_mem_nil, or_false] at h
 rcases h with rfl | rfl | rfl <;> rfl
set_option maxHeartbeats 1000000 in
/-- slices.Clone of acts -/
theorem clone_acts (w : World) (B : Nat) (v : Value) (l : List Ac) (h : w.ownsRow B 54 3 v l.length (acV l)) (hl : l.length ≤ 1000) :
  Calls Tryz.prog 36 #[v] w fun e w' => ∃ v', e = .returned v' ∧ w'.ownsRow w.heap.size 54 3 v' l.length (acV l) ∧ Below w.heap.size w w' := by
 obtain ⟨i0, hi0, hz0, hz1, hz2⟩ := info_parts act_info
 have hnil := fun (w : World) (a : Option Addr) (n c n' c' : Nat) => Lib.run_eql_slice_nil (P := Tryz.prog) w 24 54 a n c n' c' Tryz.underlying24
 rcases h.2 with ⟨rfl, h0⟩ | ⟨g, cap, cur, rfl, _⟩
 ·have : l = [] := List.eq_nil_of_length_eq_zero h0
  subst this
  clear h
  go_enter Tryz.func36, Tryz.ntmps36
  go_wp2_with fail
  go_ret
  exact ⟨_, rfl, World.ownsRow_nil _ _ _ _, Below.refl _ _⟩
 ·have HR := Lib.hid (Reads.of_own h)
  clear h
  go_enter Tryz.func36, Tryz.ntmps36
  go_wp2_with (at_builtin; refine wpList_append_any _ rfl (.tmp 5) (.tmp 6) 24 rfl w.heap.size 54 i0 _ 3 32 Tryz.underlying24 hi0 hz0 hz1 hz2 rfl (by decide) (.slice (some ⟨w.heap.size, 0, none⟩) 0 0) 0 [] rfl (World.ownsRow_made w #[] 0 (Nat.le_refl _) (Nat.zero_le _) rfl) w.heap.size (some ⟨g, 0, none⟩) l.length cap (acV l) rfl (HR.out.alloc (Nat.le_refl _) _) (acV_one l) (by unfold maxLen; omega) (by omega) (by simp) ?_; intro v' w1 hown hgr hat)
  have hb : Below w.heap.size w w1 := (boxed w _).grown hgr (by simp) (fun k hk => Nat.le_of_eq (by simpa [Value.ownBlock] using hk))
  have HO := Lib.hid hown
  have HB := Lib.hid hb
  clear hown hgr hat hb
  go_wp2_with fail
  go_ret
  exact ⟨_, rfl, by simpa using HO.out, HB.out⟩
/-- more acts: what was sent and done stays -/
theorem twice_plain (mode : Int) (n : Nat) (l m : List Ac) : (∃ ds, (outM mode n (l ++ m)).deeds = (outM mode n l).deeds ++ ds) ∧
  ∀ i, i < 6 → ∃ t, (outM mode n (l ++ m)).sent.getD i ByteArray.empty = (outM mode n l).sent.getD i ByteArray.empty ++ t := by
 have h := run_ext poolB m (runM poolB (startF mode n, startP n) l)
 rw [← run_app] at h
 refine ⟨h.deeds, fun i hi => ?_⟩
 obtain ⟨t, e⟩ := h.sent i
 refine ⟨t, ?_⟩
 unfold outM
 rw [List.getD_eq_getElem?_getD, List.getD_eq_getElem?_getD, List.getElem?_map, List.getElem?_map, List.getElem?_range hi]
 exact e
end Go.Proofs.YtjbnfigpflambacGreatDoor
/- slices.DeleteFunc over acts: those that close or ask to go are left out. -/
namespace Go.Proofs.YtjbnfigpflambacGreatDoor
open Go.ChangeShapes Go.WideShapes Go.ChangeAt Go.RowKit
def goP (a : Ac) : Bool := decide (a.kind = 2) || Lib.hasPrefix a.data.data.toList [88]
def leftA (l : List Ac) : List Ac := l.filter fun a => !goP a
def posA (l : List Ac) : Int := match l.findIdx? goP with | some i => (i : Int) | none => -1
def aAgg (a : Ac) : Value := .agg #[.int .i64 a.kind, .int .i64 a.c, .string a.data]
def cloS : Value := .func (.func 61) #[] #[]
theorem posA_here {l : List Ac} {m : Nat} (hm : m < l.length) (h1 : goP l[m] = true) (h2 : ∀ j (hj : j < l.length), j < m → goP l[j] = false) : posA l = (m : Int) := by
 unfold posA
 rw [List.findIdx?_eq_some_iff_getElem.2 ⟨hm, h1, fun j hj => by rw [h2 j (by omega) hj]; simp⟩]
theorem posA_no {l : List Ac} (h2 : ∀ j (hj : j < l.length), goP l[j] = false) : posA l = -1 := by
 unfold posA
 rw [List.findIdx?_eq_none_iff.2 (fun x hx => by
  obtain ⟨j, hj, rfl⟩ := List.getElem_of_mem hx
  exact h2 j hj)]
theorem left_none {l : List Ac} {j : Nat} (h : ∀ k (hk : k < l.length), k < j → goP l[k] = false) : leftA (l.take j) = l.take j := by
 unfold leftA
 rw [List.filter_eq_self]
 intro a ha
 obtain ⟨k, hk, rfl⟩ := List.getElem_of_mem ha
 rw [List.length_take] at hk
 rw [List.getElem_take, h k (by omega) (by omega)]
 rfl
theorem posA_none {l : List Ac} (h : posA l = -1) : leftA l = l := by
 unfold posA at h
 cases e : l.findIdx? goP with
 | some i => rw [e] at h; simp only at h; omega
 | none =>
  have := left_none (l := l) (j := l.length) (fun k hk _ => List.findIdx?_eq_none_iff.1 e _ (List.getElem_mem hk))
  rwa [List.take_length] at this
theorem posA_some {l : List Ac} (h : posA l ≠ -1) : ∃ i : Nat, ∃ h : i < l.length, posA l = (i : Int) ∧ goP l[i] = true ∧ ∀ k (hk : k < l.length), k < i → goP l[k] = false := by
 unfold posA at h ⊢
 cases e : l.findIdx? goP with
 | none => rw [e] at h; exact absurd rfl h
 | some i =>
  obtain ⟨h1, h2, h3⟩ := List.findIdx?_eq_some_iff_getElem.1 e
  exact ⟨i, h1, rfl, h2, fun j hj hji => by have := h3 j hji; simpa using this⟩
theorem left_step {l : List Ac} {j : Nat} (hj : j < l.length) : leftA (l.take (j + 1)) = if goP l[j] = true then leftA (l.take j) else leftA (l.take j) ++ [l[j]] := by
 unfold leftA
 rw [List.take_succ_eq_append_getElem hj, List.filter_append]
 by_cases h : goP l[j] = true
 ·rw [if_pos h]
  simp [h]
 ·rw [if_neg h]
  simp [h]
theorem acV_set : ∀ (l : List Ac) (i : Nat) (a : Ac), (((acV l).set (i * 3) (.int .i64 a.kind)).set (i * 3 + 1) (.int .i64 a.c)).set (i * 3 + 2) (.string a.data) = acV (l.set i a)
 | [], i, a => by simp [acV]
 | b :: l, 0, a => rfl
 | b :: l, i + 1, a => by
  have h := acV_set l i a
  have e : acV (b :: l) = .int .i64 b.kind :: .int .i64 b.c :: .string b.data :: acV l := rfl
  have e2 : acV ((b :: l).set (i + 1) a) = .int .i64 b.kind :: .int .i64 b.c :: .string b.data :: acV (l.set i a) := rfl
  rw [e, e2, ← h, show (i + 1) * 3 = i * 3 + 1 + 1 + 1 by omega]
  rfl
theorem OwnO.setCellsN {B size : Nat} {e : TypeId} {g off k cap : Nat} {xs : List Value} : ∀ (vs : List Value) (o : Nat) {w : World}, off + k * size ≤ o → OwnO w B e size (.slice (some ⟨g, off, none⟩) k cap) k xs → OwnO (w.setCells g o vs) B e size (.slice (some ⟨g, off, none⟩) k cap) k xs
 | [], _, _, _, h => h
 | v :: vs, o, w, ho, h => by
  have h1 := h.put (o - off) v
  rw [List.set_eq_of_length_le (by rw [h.1]; omega), show off + (o - off) = o by omega] at h1
  exact OwnO.setCellsN vs (o + 1) (by omega) h1
theorem OwnO.frontN {w : World} {B size : Nat} {e : TypeId} {g off n cap : Nat} {xs : List Value} (h : OwnO w B e size (.slice (some ⟨g, off, none⟩) n cap) n xs) {k : Nat} (hk : k ≤ n) : OwnO w B e size (.slice (some ⟨g, off, none⟩) k cap) k (xs.take (k * size)) := by
 have hl := h.1
 have hks : k * size ≤ n * size := Nat.mul_le_mul_right _ hk
 refine ⟨by rw [List.length_take]; omega, ?_⟩
 rcases h.2 with ⟨e0, _⟩ | ⟨g', off', cap', cur, e0, hB, hg, hn, hm, hc, hx⟩
 ·cases e0
 ·injection e0 with e1 e2 e3
  injection e1 with e1
  injection e1 with e1 e4
  subst e1 e3 e4
  refine .inr ⟨g, off, cap, cur, rfl, hB, hg, by omega, hm, hc, ?_⟩
  rw [← hx, List.take_take]
  congr 1
  omega
theorem acV_take : ∀ (l : List Ac) (k : Nat), (acV l).take (k * 3) = acV (l.take k)
 | [], k => by simp [acV]
 | b :: l, 0 => by simp [acV]
 | b :: l, k + 1 => by
  have e : acV (b :: l) = .int .i64 b.kind :: .int .i64 b.c :: .string b.data :: acV l := rfl
  have e2 : acV ((b :: l).take (k + 1)) = .int .i64 b.kind :: .int .i64 b.c :: .string b.data :: acV (l.take k) := rfl
  rw [e, e2, ← acV_take l k, show (k + 1) * 3 = k * 3 + 1 + 1 + 1 by omega]
  rfl
theorem run_clear_many {P : Program} (w : World) (t e ty : TypeId) (z : Value) (ht : P.underlying t = some (.slice e)) (hv : ∀ w, (zeroValue e).run P w = .ok z w) (b o n c : Nat) (hn : 0 < n) (h1 : ∀ v ∈ (Builtin.zeroCells z.cells n).toList, v.oneCell' = true)
  (hc : ∀ j, j < (Builtin.zeroCells z.cells n).toList.length → (w.cell? ⟨b, o + j, none⟩).isSome = true) (hf : ∀ j, w.frozen? ⟨b, o + j, none⟩ = false) :
  (Builtin.clear_ #[t] ty #[.slice (some ⟨b, o, none⟩) n c]).run P w = .ok (.tuple #[]) (w.setCells b o (Builtin.zeroCells z.cells n).toList) := by
 have hst := run_storeCells_cells (P := P) b o (Builtin.zeroCells z.cells n).toList 0 w (by simpa using hc) (fun j _ => hf j) h1
 simp only [Nat.add_zero] at hst
 obtain ⟨m, rfl⟩ : ∃ m, n = m + 1 := ⟨n - 1, by omega⟩
 simp [Builtin.clear_, run_underlying ht, hv, hst]
theorem zeroA (n : Nat) : (∀ v ∈ (Builtin.zeroCells (Value.agg #[.int .i64 0, .int .i64 0, .string ⟨#[]⟩]).cells n).toList, v.oneCell' = true) ∧ (Builtin.zeroCells (Value.agg #[.int .i64 0, .int .i64 0, .string ⟨#[]⟩]).cells n).toList.length = n * 3 := by
 have e : (Value.agg #[.int .i64 0, .int .i64 0, .string ⟨#[]⟩]).cells = #[.int .i64 0, .int .i64 0, .string ⟨#[]⟩] := rfl
 rw [e]
 unfold Builtin.zeroCells
 refine ⟨fun v hv => ?_, by simp⟩
 obtain ⟨i, _, rfl⟩ : ∃ a, a < n * 3 ∧ (([.int .i64 0, .int .i64 0, .string ⟨#[]⟩] : List Value)[a % 3]?).getD default = v := by simpa using hv
 have : i % 3 = 0 ∨ i % 3 = 1 ∨ i % 3 = 2 := by omega
 rcases this with h | h | h <;> rw [h] <;> rfl
/-- in the midst of DeleteFunc: j are looked at, i of them kept -/
structure DelA (w wx : World) (B : Nat) (g off cap : Nat) (l : List Ac) (i j : Nat) : Prop where
 own : ∃ Y : List Ac, OwnO wx B 54 3 (.slice (some ⟨g, off, none⟩) l.length cap) l.length (acV (leftA (l.take j) ++ Y ++ l.drop j)) ∧ Y.length = j - i
 len : (leftA (l.take j)).length = i
 gr : w.grownBy wx (some g)
section
variable {w wx wy : World} {B g off cap i j : Nat} {l : List Ac}
theorem DelA.below (h : DelA w wx B g off cap l i j) (hb : Below wx.heap.size wx wy) : DelA w wy B g off cap l i j := by
 obtain ⟨Y, o, hy⟩ := h.own
 exact ⟨⟨Y, o.below hb, hy⟩, h.len, h.gr.trans ⟨hb.os, hb.tape, hb.output, hb.size, fun i hi _ => hb.block i hi⟩⟩
theorem DelA.lt (h : DelA w wx B g off cap l i j) (hij : i < j) (hj : j < l.length) :
  (wx.cell? ⟨g, off + j * 3, none⟩ = some (.int .i64 l[j].kind) ∧ wx.cell? ⟨g, off + j * 3 + 1, none⟩ = some (.int .i64 l[j].c) ∧ wx.cell? ⟨g, off + j * 3 + 2, none⟩ = some (.string l[j].data)) ∧
  (∃ u, wx.cell? ⟨g, off + i * 3, none⟩ = some u) ∧ (∃ u, wx.cell? ⟨g, off + i * 3 + 1, none⟩ = some u) ∧ ∃ u, wx.cell? ⟨g, off + i * 3 + 2, none⟩ = some u := by
 obtain ⟨Y, o, hy⟩ := h.own
 have hl := h.len
 obtain ⟨g', off', cap', e, _, hc, _⟩ := o.pos (by omega)
 injection e with e1 e2 e3
 injection e1 with e1
 injection e1 with e1 e4
 subst e1 e4
 obtain ⟨M, hM⟩ : ∃ M, leftA (l.take j) ++ Y ++ l.drop j = M := ⟨_, rfl⟩
 have hMl : M.length = l.length := by rw [← hM, List.length_append, List.length_append, List.length_drop]; omega
 have hMj : ∃ h : j < M.length, M[j] = l[j] := by
  refine ⟨by omega, ?_⟩
  have : M[j]? = l[j]? := by
   rw [← hM, List.getElem?_append_right (by rw [List.length_append]; omega), List.length_append, hl, hy, show j - (i + (j - i)) = 0 by omega, List.getElem?_drop, Nat.add_zero]
  rw [List.getElem?_eq_getElem (by omega), List.getElem?_eq_getElem hj] at this
  injection this
 rw [hM] at hc
 obtain ⟨hj', em⟩ := hMj
 obtain ⟨a0, a1, a2⟩ := acV_at M j hj'
 rw [em] at a0 a1 a2
 obtain ⟨b0, b1, b2⟩ := acV_at M i (by omega)
 have hiM : i < M.length := by omega
 refine ⟨⟨?_, ?_, ?_⟩, ⟨.int .i64 M[i].kind, ?_⟩, ⟨.int .i64 M[i].c, ?_⟩, ⟨.string M[i].data, ?_⟩⟩
 ·rw [hc (j * 3) (by omega)]; exact a0
 ·rw [Nat.add_assoc, hc (j * 3 + 1) (by omega)]; exact a1
 ·rw [Nat.add_assoc, hc (j * 3 + 2) (by omega)]; exact a2
 ·rw [hc (i * 3) (by omega)]; exact b0
 ·rw [Nat.add_assoc, hc (i * 3 + 1) (by omega)]; exact b1
 ·rw [Nat.add_assoc, hc (i * 3 + 2) (by omega)]; exact b2
theorem DelA.frozen (h : DelA w wx B g off cap l i j) (hj : 0 < l.length) (k : Nat) : wx.frozen? ⟨g, k, none⟩ = false := by
 obtain ⟨Y, o, hy⟩ := h.own
 obtain ⟨g', off', cap', e, _, _, hf⟩ := o.pos hj
 injection e with e1 e2 e3
 injection e1 with e1
 injection e1 with e1 e4
 subst e1 e4
 exact hf k
theorem DelA.skip (h : DelA w wx B g off cap l i j) (hij : i < j) (hj : j < l.length) (hc : goP l[j] = true) : DelA w wx B g off cap l i (j + 1) := by
 obtain ⟨Y, o, hy⟩ := h.own
 have e := left_step hj
 rw [if_pos hc] at e
 refine ⟨⟨Y ++ [l[j]], ?_, by rw [List.length_append, hy]; simp; omega⟩, by rw [e]; exact h.len, h.gr⟩
 rw [e]
 have ed : l.drop j = l[j] :: l.drop (j + 1) := List.drop_eq_getElem_cons hj
 rw [ed] at o
 simpa using o
theorem DelA.keep (h : DelA w wx B g off cap l i j) (hij : i < j) (hj : j < l.length) (hc : ¬ goP l[j] = true) :
  DelA w (((wx.setCell ⟨g, off + i * 3, none⟩ (.int .i64 l[j].kind)).setCell ⟨g, off + i * 3 + 1, none⟩ (.int .i64 l[j].c)).setCell ⟨g, off + i * 3 + 2, none⟩ (.string l[j].data)) B g off cap l (i + 1) (j + 1) := by
 obtain ⟨Y, o, hy⟩ := h.own
 have e := left_step hj
 rw [if_neg hc] at e
 have hl := h.len
 obtain ⟨a, Z, rfl⟩ : ∃ a Z, Y = a :: Z := by
  cases Y with
  | nil => simp at hy; omega
  | cons a Z => exact ⟨a, Z, rfl⟩
 have hz : Z.length + 1 = j - i := hy
 refine ⟨⟨Z ++ [l[j]], ?_, by rw [List.length_append]; simp; omega⟩, by rw [e, List.length_append, hl]; rfl, grown_store (grown_store (grown_store h.gr _ _) _ _) _ _⟩
 have o1 := ((o.put (i * 3) (.int .i64 l[j].kind)).put (i * 3 + 1) (.int .i64 l[j].c)).put (i * 3 + 2) (.string l[j].data)
 rw [acV_set] at o1
 rw [e]
 have ed : l.drop j = l[j] :: l.drop (j + 1) := List.drop_eq_getElem_cons hj
 have hs : (leftA (l.take j) ++ a :: Z ++ l.drop j).set i l[j] = leftA (l.take j) ++ [l[j]] ++ (Z ++ [l[j]]) ++ l.drop (j + 1) := by
  rw [ed, List.append_assoc, List.set_append_right _ _ (by omega), hl, Nat.sub_self]
  simp
 rw [hs] at o1
 exact o1
end
end Go.Proofs.YtjbnfigpflambacGreatDoor
/- tillermantop.staying: the acts in which nobody goes. -/
namespace Go.Proofs.YtjbnfigpflambacGreatDoor
open Go.ChangeShapes Go.WideShapes Go.ChangeAt Go.RowKit
set_option maxHeartbeats 2000000 in
set_option maxRecDepth 100000 in
theorem stay_clo (w : World) (a : Ac) :
  Calls Tryz.prog 61 #[aAgg a] w fun e w' => e = .returned (.bool (goP a)) ∧ Below w.heap.size w w' := by
 have B := Lib.hid (boxed w (.cells #[.int .i64 a.kind, .int .i64 a.c, .string a.data] 54))
 unfold aAgg goP
 obtain ⟨k, c, d⟩ := a
 simp only at B ⊢
 by_cases hk : k = 2
 ·subst hk
  go_enter Tryz.func61, Tryz.ntmps61
  go_wp2_with fail
  go_ret
  exact ⟨by simp, B.out⟩
 ·have n1 : (k == 2) = false := by simpa using hk
  have n2 : ¬ k = 2 := hk
  go_enter Tryz.func61, Tryz.ntmps61
  go_wp2_with fail
  refine (Tryz.strings_HasPrefix _ _ _).mono ?_
  rintro e w1 ⟨rfl, rfl⟩
  go_wp2_with fail
  go_ret
  exact ⟨by simp [hk], B.out⟩
set_option maxHeartbeats 2000000 in
set_option maxRecDepth 100000 in
theorem idxa_any (w : World) (B : Nat) (A : Option Addr) (n k : Nat) (l : List Ac) (h : OwnO w B 54 3 (.slice A n k) n (acV l)) (hn : l.length = n) (hm : n ≤ 1000) :
  Calls Tryz.prog 88 #[.slice A n k, cloS] w fun e w' => e = .returned (.int .i64 (posA l)) ∧ Below w.heap.size w w' := by
 have HR := Lib.hid h
 have HN := Lib.hid hn
 obtain ⟨z, hz⟩ : ∃ z, posA l = z := ⟨_, rfl⟩
 rw [hz]
 have HZ := Lib.hid hz
 clear h hn hz
 unfold cloS
 go_enter Tryz.func88, Tryz.ntmps88
 go_wp2_with fail
 go_loopw [8] (fun i wx => ∃ m : Nat, m ≤ n ∧ i = .int .i64 m ∧ Below w.heap.size w wx ∧ Hid (∀ j (hj : j < l.length), j < m → goP l[j] = false)) (fun i _ => n - (intOf i).toNat)
 case atStart => exact ⟨0, Nat.zero_le _, rfl, Below.refl _ _, Lib.hid (fun j _ hj => absurd hj (Nat.not_lt_zero _))⟩
 case round =>
  obtain ⟨m, hm', rfl, hb, HJ⟩ := hrel
  by_cases hlt : m < n
  ·have g1 : (m : Int) < (n : Int) := by omega
   have g2 : (0 : Int) ≤ (m : Int) := by omega
   have hml : m < l.length := by rw [HN.out]; exact hlt
   obtain ⟨g, off, cap, e0, hnc, hc, _⟩ := (HR.out.below hb).pos (by omega)
   injection e0 with e1 e2 e3
   subst e1 e3
   obtain ⟨a0, a1, a2⟩ := acV_at l m hml
   have x0 : wr.cell? ⟨g, off + m * 3, none⟩ = some (.int .i64 l[m].kind) := (hc (m * 3) (by omega)).trans a0
   have x1 : wr.cell? ⟨g, off + m * 3 + 1, none⟩ = some (.int .i64 l[m].c) := by rw [Nat.add_assoc]; exact (hc (m * 3 + 1) (by omega)).trans a1
   have x2 : wr.cell? ⟨g, off + m * 3 + 2, none⟩ = some (.string l[m].data) := by rw [Nat.add_assoc]; exact (hc (m * 3 + 2) (by omega)).trans a2
   obtain ⟨a, ha⟩ : ∃ a, l[m] = a := ⟨_, rfl⟩
   rw [ha] at x0 x1 x2
   have HA := Lib.hid ha
   have HB := Lib.hid hb
   have HM := Lib.hid hml
   have HC := fun w' => stay_clo w' a
   obtain ⟨b, hb'⟩ : ∃ b, goP a = b := ⟨_, rfl⟩
   have HPB := Lib.hid hb'
   rw [hb'] at HC
   unfold aAgg at HC
   replace HC := Lib.hid HC
   clear hb ha hb' hc a0 a1 a2 e2
   go_wp2_with fail
   refine (HC.out _).mono ?_
   rintro e w1 ⟨rfl, b1⟩
   have HB1 := Lib.hid (below_step HB.out (Nat.le_refl _) b1)
   clear x0 x1 x2 b1 HC
   cases b
   ·have HF := Lib.hid (show ∀ j (hj : j < l.length), j < m + 1 → goP l[j] = false by
     intro j hj hjm
     rcases Nat.lt_succ_iff_lt_or_eq.1 hjm with h | h
     ·exact HJ.out j hj h
     ·subst h; rw [HA.out]; exact HPB.out)
    go_wp2_with fail
    go_roundw
    case rel => exact ⟨m + 1, by omega, by go_num, HB1.out, HF⟩
    case measure => simp [intOf]; omega
   ·have HF := Lib.hid (show z = (m : Int) by rw [← HZ.out]; exact posA_here HM.out (by rw [HA.out]; exact HPB.out) HJ.out)
    go_wp2_with fail
    go_ret
    rw [HF.out]
    exact ⟨rfl, HB1.out⟩
  ·have g1 : (n : Int) ≤ (m : Int) := by omega
   have HF := Lib.hid (show z = -1 by rw [← HZ.out]; exact posA_no fun j hj => HJ.out j hj (by rw [HN.out] at hj; omega))
   have HB := Lib.hid hb
   clear hb
   go_wp2_with fail
   go_ret
   rw [HF.out]
   exact ⟨rfl, HB.out⟩
set_option maxHeartbeats 4000000 in
set_option maxRecDepth 100000 in
theorem dela_any (w : World) (B : Nat) (v : Value) (l : List Ac) (h : OwnO w B 54 3 v l.length (acV l)) (hl : l.length ≤ 1000) :
  Calls Tryz.prog 60 #[v, cloS] w fun e w' => ∃ v', e = .returned v' ∧ OwnO w' B 54 3 v' (leftA l).length (acV (leftA l)) ∧ w.grownBy w' v.ownBlock := by
 obtain ⟨A, k, rfl, hk⟩ := h.form
 have HO := Lib.hid h
 have HL := Lib.hid hl
 obtain ⟨n, hn⟩ : ∃ n, l.length = n := ⟨_, rfl⟩
 rw [hn] at h hk hl ⊢
 have HN := Lib.hid hn
 have HI := Lib.hid (fun w' (hb : Below w.heap.size w w') => idxa_any w' B A n k l (h.below hb) hn hl)
 clear hn h
 unfold cloS at HI ⊢
 by_cases hp : posA l = -1
 ·have HD := Lib.hid (posA_none hp)
  rw [hp] at HI
  clear hp
  go_enter Tryz.func60, Tryz.ntmps60
  go_wp2_with fail
  refine (HI.out _ (Below.refl _ _)).mono ?_
  rintro e w1 ⟨rfl, b1⟩
  have HB := Lib.hid b1
  clear b1
  go_wp2_with fail
  go_ret
  refine ⟨_, rfl, ?_, ⟨HB.out.os, HB.out.tape, HB.out.output, HB.out.size, fun i hi _ => HB.out.block i hi⟩⟩
  rw [HD.out, ← HN.out]
  have := HO.out.below HB.out
  rw [HN.out] at this ⊢
  exact this
 ·obtain ⟨i0, h0, e0, h1, h2⟩ := posA_some hp
  rw [e0] at HI
  have hnp : 0 < l.length := by omega
  obtain ⟨g, off, cap, es, hnc, _, hfz⟩ := HO.out.pos hnp
  injection es with es1 es2 es3
  subst es1 es3
  have S0 := Lib.hid (show ∀ w', Below w.heap.size w w' → DelA w w' B g off k l i0 (i0 + 1) from fun w' hb => ⟨⟨[l[i0]], by
   have e : leftA (l.take (i0 + 1)) = l.take i0 := by rw [left_step h0, if_pos h1, left_none h2]
   rw [e]
   have e2 : l.take i0 ++ [l[i0]] ++ l.drop (i0 + 1) = l := by
    rw [List.append_assoc, List.singleton_append, ← List.drop_eq_getElem_cons h0, List.take_append_drop]
   rw [e2]
   have := HO.out.below hb
   rw [HN.out] at this ⊢
   exact this, by simp⟩, by rw [left_step h0, if_pos h1, left_none h2, List.length_take]; omega, ⟨hb.os, hb.tape, hb.output, hb.size, fun i hi _ => hb.block i hi⟩⟩)
  have h0n : i0 < n := by rw [← HN.out]; exact h0
  have hi1 : ¬ ((i0 : Int) = -1) := by omega
  have hi2 : ((i0 : Int) == -1) = false := by simp
  clear hp e0 h0 h1 h2 hnp hfz hnc es2
  go_enter Tryz.func60, Tryz.ntmps60
  go_wp2_with fail
  refine (HI.out _ (Below.refl _ _)).mono ?_
  rintro e w1 ⟨rfl, b1⟩
  have S1 := Lib.hid (S0.out _ b1)
  clear b1 S0 HI
  go_wp2_with fail
  go_loopw [5, 6] (fun a b wx => ∃ i j : Nat, a = .int .i64 i ∧ b = .int .i64 j ∧ i < j ∧ j ≤ n ∧ Hid (DelA w wx B g off k l i j)) (fun _ b _ => n - (intOf b).toNat)
  case atStart => exact ⟨i0, i0 + 1, rfl, by go_num, Nat.lt_succ_self _, h0n, S1⟩
  case round =>
   obtain ⟨i, j, rfl, rfl, hij, hjn, S⟩ := hrel
   by_cases hlt : j < n
   ·have hjl : j < l.length := by rw [HN.out]; exact hlt
    have hcl := (S.out.lt hij hjl).1
    obtain ⟨a, ha⟩ : ∃ a, l[j] = a := ⟨_, rfl⟩
    rw [ha] at hcl
    have HJ := Lib.hid hjl
    obtain ⟨x0, x1, x2⟩ := hcl
    have HA := Lib.hid ha
    have HC := fun w' => stay_clo w' a
    obtain ⟨b, hb'⟩ : ∃ b, goP a = b := ⟨_, rfl⟩
    have HPB := Lib.hid hb'
    rw [hb'] at HC
    unfold aAgg at HC
    replace HC := Lib.hid HC
    have g1 : (j : Int) < (n : Int) := by omega
    have g2 : (0 : Int) ≤ (j : Int) := by omega
    have g3 : (i : Int) < (n : Int) := by omega
    have g4 : (0 : Int) ≤ (i : Int) := by omega
    clear ha hb'
    go_wp2_with fail
    refine (HC.out _).mono ?_
    rintro e w3 ⟨rfl, b3⟩
    have S3 := Lib.hid ((S.out.below (boxed wr _)).below b3)
    have bv := (Blk.new wr 54 #[.int .i64 a.kind, .int .i64 a.c, .string a.data]).keep b3
    have v0 := bv.cell_ 0 _ rfl
    have v1 := bv.cell_ 1 _ rfl
    have v2 := bv.cell_ 2 _ rfl
    clear x0 x1 x2 b3 S HC bv
    cases b
    ·have SN := S3.out.keep hij HJ.out (by rw [HA.out, HPB.out]; simp)
     rw [HA.out] at SN
     have SN := Lib.hid SN
     obtain ⟨_, ⟨u0, c0⟩, ⟨u1, c1⟩, ⟨u2, c2⟩⟩ := S3.out.lt hij HJ.out
     have ff := S3.out.frozen (by have := HJ.out; omega)
     go_wp2_with fail
     go_roundw
     case rel => exact ⟨i + 1, j + 1, by go_num, by go_num, by omega, by omega, SN⟩
     case measure => simp [intOf]; omega
    ·have SN := Lib.hid (S3.out.skip hij HJ.out (by rw [HA.out]; exact HPB.out))
     go_wp2_with fail
     go_roundw
     case rel => exact ⟨i, j + 1, rfl, by go_num, by omega, by omega, SN⟩
     case measure => simp [intOf]; omega
   ·have hje : j = n := by omega
    obtain ⟨i1, hi1', hz1, hz2, hz3⟩ := info_parts act_info
    have hzv : ∀ w, (zeroValue 54).run Tryz.prog w = .ok (.agg #[.int .i64 0, .int .i64 0, .string ⟨#[]⟩]) w := fun w => by simp [zeroValue, typeInfo, hi1', hz1]
    obtain ⟨Y, o, hy⟩ := S.out.own
    have hzl := (zeroA (n - i)).2
    have hcells : ∀ t, t < (Builtin.zeroCells (Value.agg #[.int .i64 0, .int .i64 0, .string ⟨#[]⟩]).cells (n - i)).toList.length → (wr.cell? ⟨g, off + i * 3 + t, none⟩).isSome = true := fun t ht => by
     obtain ⟨g', off', cap', e, _, hc, _⟩ := o.pos (by rw [HN.out]; omega)
     injection e with e1 e2 e3
     injection e1 with e1
     injection e1 with e1 e4
     subst e1 e4
     rw [hzl] at ht
     rw [Nat.add_assoc, hc (i * 3 + t) (by rw [HN.out]; omega), List.getElem?_eq_getElem (by rw [o.1, HN.out]; omega)]
     rfl
    have hcl : ∀ ty, (Builtin.clear_ #[24] ty #[.slice (some ⟨g, off + i * 3, none⟩) (n - i) (k - i)]).run Tryz.prog wr = .ok (.tuple #[]) (wr.setCells g (off + i * 3) (Builtin.zeroCells (Value.agg #[.int .i64 0, .int .i64 0, .string ⟨#[]⟩]).cells (n - i)).toList) :=
     fun ty => run_clear_many wr _ _ ty _ Tryz.underlying24 hzv g (off + i * 3) _ _ (by omega) (zeroA _).1 hcells (fun t => S.out.frozen (by rw [HN.out]; omega) _)
    have o2 := (o.frontN (k := i) (by rw [HN.out]; omega)).setCellsN (Builtin.zeroCells (Value.agg #[.int .i64 0, .int .i64 0, .string ⟨#[]⟩]).cells (n - i)).toList (off + i * 3) (Nat.le_refl _)
    have hli := S.out.len
    rw [hje, ← HN.out, List.take_length] at hli
    have et : (acV (leftA (l.take j) ++ Y ++ l.drop j)).take (i * 3) = acV (leftA l) := by
     rw [hje, ← HN.out, List.take_length, List.drop_length, List.append_nil, acV_take, List.take_append_of_le_length (by omega), List.take_of_length_le (by omega)]
    rw [et] at o2
    obtain ⟨wy, hwy⟩ : ∃ wy, wr.setCells g (off + i * 3) (Builtin.zeroCells (Value.agg #[.int .i64 0, .int .i64 0, .string ⟨#[]⟩]).cells (n - i)).toList = wy := ⟨_, rfl⟩
    have o3 : OwnO wy B 54 3 (.slice (some ⟨g, off, none⟩) i k) (leftA l).length (acV (leftA l)) := by rw [hli, ← hwy]; exact o2
    have HF := Lib.hid (And.intro o3 (hwy ▸ grown_stores (Builtin.zeroCells (Value.agg #[.int .i64 0, .int .i64 0, .string ⟨#[]⟩]).cells (n - i)).toList (off + i * 3) S.out.gr))
    rw [hwy] at hcl
    have g1 : (n : Int) ≤ (j : Int) := by omega
    have g3 : (i : Int) < (n : Int) := by omega
    have g4 : (0 : Int) ≤ (i : Int) := by omega
    have g5 : (n : Int) ≤ (k : Int) := by omega
    have g6 : (i : Int) ≤ (k : Int) := by omega
    have g7 : (i : Int) ≤ (n : Int) := by omega
    have g8 : ¬ (k = i) := by omega
    clear o2 o3 et hli hcells hzv hi1' hz1 hz2 hz3 o hy S hje hzl
    go_wp2_with fail
    go_ret
    exact ⟨_, rfl, HF.out.1, HF.out.2⟩
/-- those left stay -/
theorem noX_left {a : Ac} {m : Nat} (h : AcFair m a) (hg : goP a = false) : a.kind = 1 ∧ noX a.data := by
 unfold goP at hg
 rw [Bool.or_eq_false_iff] at hg
 have h2 : a.kind ≠ 2 := by simpa using hg.1
 have hp := hg.2
 refine ⟨?_, ?_⟩
 ·have := h.ok.k
  omega
 ·rcases h.stay with e | e | e
  ·exact absurd e h2
  ·rw [e] at hp
   exact absurd hp (by decide +kernel)
  ·exact e
theorem left_fair {m : Nat} {l : List Ac} (h : ∀ a ∈ l, AcFair m a) : ∀ a ∈ leftA l, AcFair m a ∧ a.kind = 1 ∧ noX a.data := fun a ha => by
 obtain ⟨h1, h2⟩ := List.mem_filter.1 ha
 exact ⟨h a h1, noX_left (h a h1) (by simpa using h2)⟩
theorem left_len (l : List Ac) : (leftA l).length ≤ l.length := List.length_filter_le _ _
set_option maxHeartbeats 4000000 in
set_option maxRecDepth 100000 in
theorem staying_any (w : World) (v : Value) (l : List Rw) (hl : RL w w.heap.size v l) (most m : Nat) (hm : 0 < m) (hm6 : m ≤ 6) (hmo : most ≤ 1000) (hT : Tabs w) :
  Calls Tryz.prog 32 #[v, .int .i64 (most : Int), .int .i64 (m : Int)] w fun e w' => ∃ r, e = .returned r ∧ OwnO w' w.heap.size 54 3 r (leftA (actsL most m l)).length (acV (leftA (actsL most m l))) ∧ Below w.heap.size w w' := by
 have HA := Lib.hid (acts_any w v l hl most m hm hm6 hmo hT)
 have HN := Lib.hid (Nat.le_trans (acts_len most m l) hmo)
 obtain ⟨A, cap, rfl, _⟩ := hl
 obtain ⟨N, hN⟩ : ∃ N, l.length = N := ⟨_, rfl⟩
 rw [hN] at HA ⊢
 obtain ⟨L, hL⟩ : ∃ L, actsL most m l = L := ⟨_, rfl⟩
 rw [hL] at HA HN ⊢
 clear hN hL
 go_enter Tryz.func32, Tryz.ntmps32
 go_wp2_with fail
 refine HA.out.mono ?_
 rintro e w1 ⟨r, rfl, own, b1⟩
 have HO := Lib.hid (OwnO.of_own own)
 have HB := Lib.hid b1
 clear own b1 HA
 go_wp2_with fail
 refine (dela_any _ _ _ L HO.out HN.out).mono ?_
 rintro e w2 ⟨r', rfl, o2, g2⟩
 have HO2 := Lib.hid o2
 have HB2 := Lib.hid (show Below w.heap.size w w2 from HB.out.grown g2 (HB.out.size) fun k hk => (HO.out.lt k hk).1)
 clear o2 g2
 go_wp2_with fail
 go_ret
 exact ⟨_, rfl, HO2.out, HB2.out⟩
end Go.Proofs.YtjbnfigpflambacGreatDoor
/- Acts in memory off a slice that is owned at any offset. -/
namespace Go.Proofs.YtjbnfigpflambacGreatDoor
open Go.RowKit
theorem owno_acl {w : World} {B : Nat} {v : Value} {l : List Ac} (h : OwnO w B 54 3 v l.length (acV l)) : AcL w w.heap.size v l := by
 obtain ⟨A, c, rfl, _, r⟩ := h.reads
 refine ⟨A, c, rfl, fun hn => ?_⟩
 obtain ⟨ad, e, hb, hc⟩ := r.2 hn
 refine ⟨ad, e, hb, fun i hi => ?_⟩
 obtain ⟨a0, a1, a2⟩ := acV_at l i hi
 have ea : ∀ j, (⟨(ad.add (i * 3)).block, (ad.add (i * 3)).off + (j + 1), none⟩ : Addr) = (ad.add (i * 3)).add (j + 1) := fun j => rfl
 refine ⟨hc _ _ a0, ?_, ?_⟩
 ·rw [ea 0, add_of_add]; exact hc _ _ a1
 ·rw [ea 1, add_of_add]; exact hc _ _ a2
end Go.Proofs.YtjbnfigpflambacGreatDoor
