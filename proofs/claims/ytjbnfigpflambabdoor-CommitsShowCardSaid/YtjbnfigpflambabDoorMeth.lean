/- back.value, told, failed, keep; (server).put and (server).end. -/
import Derived.Test.YtjbnfigpflambabDoorSrv
namespace Go.Proofs.YtjbnfigpflambabDoor
open Go.ChangeShapes Go.WideShapes Go.ChangeAt Go.RowKit

def valV : Option ByteArray → Value
  | some v => .tuple #[.string v, .bool true]
  | none => .tuple #[.string ⟨#[]⟩, .bool false]
theorem failed_any (t : ByteArray) (w : World) : Calls Tryd.prog 71 #[.string t] w fun e w' => e = .returned (.agg #[.int .i64 4, .string t, .int .i64 0]) ∧ Below w.heap.size w w' := by
  go_enter Tryd.func71, Tryd.ntmps71
  go_wp2_with fail
  refine bodyPost_ret (v := .agg #[.int .i64 4, .string t, .int .i64 0]) (by simp [results, Tryd.results71, go_sem]) rfl ⟨rfl, boxed _ _⟩
theorem told_some (v : ByteArray) (w : World) : Calls Tryd.prog 73 #[.string v, .bool true] w fun e w' => e = .returned (.agg #[.int .i64 2, .string v, .int .i64 0]) ∧ Below w.heap.size w w' := by
  go_enter Tryd.func73, Tryd.ntmps73
  go_wp2_with fail
  refine bodyPost_ret (v := .agg #[.int .i64 2, .string v, .int .i64 0]) (by simp [results, Tryd.results73, go_sem]) rfl ⟨rfl, boxed _ _⟩
theorem told_none (v : ByteArray) (w : World) : Calls Tryd.prog 73 #[.string v, .bool false] w fun e w' => e = .returned (.agg #[.int .i64 3, .string ⟨#[]⟩, .int .i64 0]) ∧ Below w.heap.size w w' := by
  go_enter Tryd.func73, Tryd.ntmps73
  go_wp2_with fail
  refine bodyPost_ret (v := .agg #[.int .i64 3, .string ⟨#[]⟩, .int .i64 0]) (by simp [results, Tryd.results73, go_sem]) rfl ⟨rfl, boxed _ _⟩
set_option maxHeartbeats 1000000 in
set_option maxRecDepth 100000 in
theorem bvalue_any (w : World) (v : Value) (l : List Pr) (k : ByteArray) (h : PL w w.heap.size v l) (hs : Sorted l) :
    Calls Tryd.prog 74 #[v, .string k] w fun e w' => e = .returned (valV (atP l k)) ∧ Below w.heap.size w w' := by
  have H := Lib.hid h
  have HS := Lib.hid hs
  obtain ⟨A, c, rfl, hc, hr, hf⟩ := h
  have HR := Lib.hid hr
  obtain ⟨z, hz⟩ : ∃ z, valV (atP l k) = z := ⟨_, rfl⟩
  rw [hz]
  have HZ := Lib.hid hz
  clear hs hc hr hf hz
  go_enter Tryd.func74, Tryd.ntmps74
  go_wp2_with fail
  refine (find_any _ _ l k H.out).mono ?_
  rintro e w1 ⟨i, b, rfl, hf, b1⟩
  have HF := Lib.hid hf
  have HB := Lib.hid b1
  clear hf b1
  cases b with
  | true =>
    obtain ⟨hi, hik⟩ := HF.out.here rfl
    obtain ⟨ad, hA, hBl, x1, x2⟩ := pair_at (HR.out.below HB.out) hi
    subst hA
    obtain ⟨u, hu⟩ : ∃ u, l[i].v = u := ⟨_, rfl⟩
    rw [hu] at x2
    have e1 := HZ.out
    obtain ⟨e2, e3⟩ := HF.out.sorted HS.out
    subst e2
    rw [at_pos HS.out k hi hik, hu] at e1
    have HE := Lib.hid e1
    have g1 : ((posP l k : Nat) : Int) < (l.length : Int) := by omega
    have g2 : (0 : Int) ≤ ((posP l k : Nat) : Int) := by omega
    clear x1 hu hik e1 e3
    obtain ⟨q, hq⟩ : ∃ q, posP l k = q := ⟨_, rfl⟩
    rw [hq] at x2 g1 g2 ⊢
    clear hq
    go_wp2_with fail
    go_ret2
    exact ⟨by rw [← HE.out]; rfl, HB.out⟩
  | false =>
    have e1 := HZ.out
    rw [at_none (HF.out.sorted HS.out).2.symm] at e1
    have HE := Lib.hid e1
    clear e1
    go_wp2_with fail
    go_ret2
    exact ⟨by rw [← HE.out]; rfl, HB.out⟩
def KeepR (w : World) (B : Nat) (p : Addr) (l : List Pr) (k v : ByteArray) (e : Ending) (w' : World) : Prop :=
  (keepP l k v = none ∧ e = .returned (anV (noA tFull)) ∧ Below w.heap.size w w') ∨
  (∃ u, keepP l k v = some (plusP l k v) ∧ e = .returned (anV okA) ∧ OPL w' B u (plusP l k v) ∧ Below w.heap.size (w.setCell p u) w')
set_option maxHeartbeats 1000000 in
set_option maxRecDepth 100000 in
theorem keep_any (w : World) (g o B : Nat) (u : Value) (l : List Pr) (k v : ByteArray) (hc : w.cell? ⟨g, o, none⟩ = some u) (hf : w.frozen? ⟨g, o, none⟩ = false) (h : PL w w.heap.size u l) (hs : Sorted l) (hl : l.length ≤ 1000) (hk : k.size ≤ maxLen) (hv : v.size ≤ maxLen) (hB : B ≤ w.heap.size) (t : TypeId) (cs : Array Value) (hg : Blk w g t cs) (ht : t ≠ 66) :
    Calls Tryd.prog 75 #[.pointer (some ⟨g, o, none⟩), .int .i64 6, .string k, .string v] w (KeepR w B ⟨g, o, none⟩ l k v) := by
  obtain ⟨A, c, hu⟩ := h.form
  subst hu
  obtain ⟨n, hn⟩ : ∃ n, l.length = n := ⟨_, rfl⟩
  rw [hn] at hl hc h
  have H := Lib.hid h
  have HS := Lib.hid hs
  have HKV := Lib.hid (And.intro hk hv)
  have hgl : g < w.heap.size := World.block_lt_of_cell? w _ hc
  have hne := Nat.ne_of_lt hgl
  have HN := Lib.hid hn
  have HC := Lib.hid hc
  have HG := Lib.hid hg
  have HT := Lib.hid ht
  clear h hs hk hv hn hg ht
  go_enter Tryd.func75, Tryd.ntmps75
  go_wp2_with fail
  refine (find_any _ _ l k ((H.out.below (boxed _ _)).more (by simp))).mono ?_
  rintro e w1 ⟨i, b, rfl, hfd, b1⟩
  have HF := Lib.hid hfd
  have RB := Blk.keep (Blk.new w 48 #[.int .i64 0, .string ⟨#[]⟩, .int .i64 0]) b1
  have y0 := RB.cell_ 0 _ rfl
  have y1 := RB.cell_ 1 _ rfl
  have y2 := RB.cell_ 2 _ rfl
  have f0 := RB.frozen
  have R1 := Lib.hid RB
  have hb1 := below_of_alloc (Nat.le_refl _) b1
  have hc1 := keep_cell hb1 hc
  have hf1 := keep_frozen hb1 hc hf
  have HB1 := Lib.hid hb1
  clear b1 hb1 hc hf hfd RB
  cases b with
  | false =>
    have hno := (HF.out.sorted HS.out).2.symm
    by_cases h6 : n = 6
    · have HK := Lib.hid (show keepP l k v = none by unfold keepP; rw [if_pos ⟨hno, by rw [HN.out]; exact h6⟩])
      subst h6
      clear hno
      go_wp2_with fail
      refine (failed_any _ _).mono ?_
      rintro e w2 ⟨rfl, b2⟩
      have RB := R1.out.keep b2
      have z0 := RB.cell_ 0 _ rfl
      have z1 := RB.cell_ 1 _ rfl
      have z2 := RB.cell_ 2 _ rfl
      have fz := RB.frozen
      have R2 := Lib.hid RB
      have HB2 := Lib.hid (below_step HB1.out (Nat.le_refl _) b2)
      clear b2 RB y0 y1 y2 f0 hc1 hf1
      go_wp2_with fail
      have RB := ((R2.out.set_ 0 (.int .i64 4)).set_ 1 (.string ⟨#[102, 117, 108, 108]⟩)).set_ 2 (.int .i64 0)
      have t0 := RB.cell_ 0 _ rfl
      have t1 := RB.cell_ 1 _ rfl
      have t2 := RB.cell_ 2 _ rfl
      clear z0 z1 z2
      refine bodyPost_ret (v := .agg #[.int .i64 4, .string ⟨#[102, 117, 108, 108]⟩, .int .i64 0]) (by simp [results, Tryd.results75, go_sem, t0, t1, t2]) rfl (.inl ⟨HK.out, rfl, ?_⟩)
      exact ((HB2.out.setCell (Nat.le_refl _) _).setCell (Nat.le_refl _) _).setCell (Nat.le_refl _) _
    · have HK := Lib.hid (show keepP l k v = some (plusP l k v) by unfold keepP; rw [if_neg (fun h => h6 (by rw [← HN.out]; exact h.2))])
      have g1 : ((n : Int) == 6) = false := by simp; omega
      clear hno h6
      go_wp2_with fail
      refine (with_any _ _ l k v ((H.out.below HB1.out).more HB1.out.size) HS.out (by rw [HN.out]; omega) HKV.out.1 HKV.out.2).mono ?_
      rintro e w2 ⟨u2, rfl, ho, b2⟩
      have HO := Lib.hid (ho.base (Nat.le_trans hB HB1.out.size))
      obtain ⟨A2, c2, rfl⟩ := ho.form
      have RB := R1.out.keep b2
      have z0 := RB.cell_ 0 _ rfl
      have z1 := RB.cell_ 1 _ rfl
      have z2 := RB.cell_ 2 _ rfl
      have fz := RB.frozen
      have hc2 := keep_cell b2 hc1
      have hf2 := keep_frozen b2 hc1 hf1
      have R2 := Lib.hid RB
      have HB2 := Lib.hid (below_step HB1.out (Nat.le_refl _) b2)
      obtain ⟨m, hm⟩ : ∃ m, (plusP l k v).length = m := ⟨_, rfl⟩
      rw [hm] at HO ⊢
      clear b2 RB y0 y1 y2 f0 hc1 hf1 ho hm
      go_wp2_with fail
      have G2 := (HG.out.below HB2.out hgl)
      have RB1 := R2.out.far (p := ⟨g, o, none⟩) (Ne.symm hne) (.slice A2 m c2)
      have RB := ((RB1.set_ 0 (.int .i64 1)).set_ 1 (.string ⟨#[]⟩)).set_ 2 (.int .i64 0)
      have t0 := RB.cell_ 0 _ rfl
      have t1 := RB.cell_ 1 _ rfl
      have t2 := RB.cell_ 2 _ rfl
      clear z0 z1 z2
      refine bodyPost_ret (v := .agg #[.int .i64 1, .string ⟨#[]⟩, .int .i64 0]) (by simp [results, Tryd.results75, go_sem, t0, t1, t2]) rfl (.inr ⟨.slice A2 m c2, HK.out, rfl, ?_, ?_⟩)
      · exact HO.out.keeps ((((Keeps.set_ (p := ⟨g, o, none⟩) G2 HT.out _).trans (Keeps.set_ (p := ⟨w.heap.size, 0, none⟩) RB1 (by decide) _)).trans (Keeps.set_ (p := ⟨w.heap.size, 1, none⟩) (RB1.set_ 0 _) (by decide) _)).trans (Keeps.set_ (p := ⟨w.heap.size, 2, none⟩) ((RB1.set_ 0 _).set_ 1 _) (by decide) _))
      · exact (((below_set HB2.out _ _).setCell (Nat.le_refl _) _).setCell (Nat.le_refl _) _).setCell (Nat.le_refl _) _
  | true =>
    have HK := Lib.hid (show keepP l k v = some (plusP l k v) by unfold keepP; rw [if_neg (fun h => by rw [← (HF.out.sorted HS.out).2] at h; exact absurd h.1 (by decide))])
    go_wp2_with fail
    refine (with_any _ _ l k v ((H.out.below HB1.out).more HB1.out.size) HS.out (by rw [HN.out]; omega) HKV.out.1 HKV.out.2).mono ?_
    rintro e w2 ⟨u2, rfl, ho, b2⟩
    have HO := Lib.hid (ho.base (Nat.le_trans hB HB1.out.size))
    obtain ⟨A2, c2, rfl⟩ := ho.form
    have RB := R1.out.keep b2
    have z0 := RB.cell_ 0 _ rfl
    have z1 := RB.cell_ 1 _ rfl
    have z2 := RB.cell_ 2 _ rfl
    have fz := RB.frozen
    have hc2 := keep_cell b2 hc1
    have hf2 := keep_frozen b2 hc1 hf1
    have R2 := Lib.hid RB
    have HB2 := Lib.hid (below_step HB1.out (Nat.le_refl _) b2)
    obtain ⟨m, hm⟩ : ∃ m, (plusP l k v).length = m := ⟨_, rfl⟩
    rw [hm] at HO ⊢
    clear b2 RB y0 y1 y2 f0 hc1 hf1 ho hm
    go_wp2_with fail
    have G2 := (HG.out.below HB2.out hgl)
    have RB1 := R2.out.far (p := ⟨g, o, none⟩) (Ne.symm hne) (.slice A2 m c2)
    have RB := ((RB1.set_ 0 (.int .i64 1)).set_ 1 (.string ⟨#[]⟩)).set_ 2 (.int .i64 0)
    have t0 := RB.cell_ 0 _ rfl
    have t1 := RB.cell_ 1 _ rfl
    have t2 := RB.cell_ 2 _ rfl
    clear z0 z1 z2
    refine bodyPost_ret (v := .agg #[.int .i64 1, .string ⟨#[]⟩, .int .i64 0]) (by simp [results, Tryd.results75, go_sem, t0, t1, t2]) rfl (.inr ⟨.slice A2 m c2, HK.out, rfl, ?_, ?_⟩)
    · exact HO.out.keeps ((((Keeps.set_ (p := ⟨g, o, none⟩) G2 HT.out _).trans (Keeps.set_ (p := ⟨w.heap.size, 0, none⟩) RB1 (by decide) _)).trans (Keeps.set_ (p := ⟨w.heap.size, 1, none⟩) (RB1.set_ 0 _) (by decide) _)).trans (Keeps.set_ (p := ⟨w.heap.size, 2, none⟩) ((RB1.set_ 0 _).set_ 1 _) (by decide) _))
    · exact (((below_set HB2.out _ _).setCell (Nat.le_refl _) _).setCell (Nat.le_refl _) _).setCell (Nat.le_refl _) _
end Go.Proofs.YtjbnfigpflambabDoor
