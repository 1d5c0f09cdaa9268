/- The reference's did: a world of the call's own in memory, and what its stores do. -/
import Derived.Test.YtjbnfigpflambabDoorJ05
import Derived.Test.YtjbnfigpflambabDoorJ13
/- The reference's did: a world of the call's own in memory, and what its stores do. -/
namespace Go.Proofs.YtjbnfigpflambabDoor
open Go.ChangeShapes Go.WideShapes Go.ChangeAt Go.RowKit
theorem adr0 (g n : Nat) : (⟨g, 0, none⟩ : Addr).add n = ⟨g, n, none⟩ := by unfold Addr.add; split <;> simp_all
theorem OSL.row {w : World} {B g n cap : Nat} {ss : List Se} {cs : List Value} (h : OSL w B (.slice (some ⟨g, 0, none⟩) n cap) ss cs) : ∃ cur, Blk w g 58 cur := by
 rcases h.own.2 with ⟨e, _⟩ | ⟨g', cap', cur, e, hBg, hg, _⟩
 ·cases e
 ·injection e with e1 e2 e3
  injection e1 with e1
  injection e1 with e1
  subst e1
  exact ⟨cur, hg⟩
theorem OSL.keep {w w' : World} {B : Nat} {v : Value} {ss : List Se} {cs : List Value} (h : OSL w B v ss cs) (hb : Below w.heap.size w w') : OSL w' B v ss cs := ⟨(Keeps.of_below hb).own h.own, h.ses.keeps (.of_below hb)⟩
theorem own_far {w : World} {base g m cap size n : Nat} {e : TypeId} {xs : List Value} (h : w.ownsRow base e size (.slice (some ⟨g, 0, none⟩) m cap) n xs) {p : Addr} (hp : g ≠ p.block) (u : Value) : (w.setCell p u).ownsRow base e size (.slice (some ⟨g, 0, none⟩) m cap) n xs := by
 rcases h.2 with ⟨e, _⟩ | ⟨g', cap', cur, e, hBg, hg, hr⟩
 ·cases e
 ·injection e with e1 e2 e3
  injection e1 with e1
  injection e1 with e1
  subst e1 e2 e3
  exact ⟨h.1, .inr ⟨g, cap, cur, rfl, hBg, (Below.heap_setCell w p u g hp).trans hg, hr⟩⟩
theorem OSL.lt {w : World} {B g n cap : Nat} {ss : List Se} {cs : List Value} (h : OSL w B (.slice (some ⟨g, 0, none⟩) n cap) ss cs) : B ≤ g ∧ g < w.heap.size := h.own.lt g rfl
theorem OSL.put_ {w : World} {B g n cap i j : Nat} {ss : List Se} {cs : List Value} {s' : Se} {u : Value} (h : OSL w B (.slice (some ⟨g, 0, none⟩) n cap) ss cs) (hn : ss.length = n) (hi : i < ss.length) (hj : j < 5)
  (H : ∀ (w' : World) a b c d, Keeps 66 w w' → OPL w' B a ss[i].set → OPL w' B b ss[i].pre → OPL w' B c ss[i].sav → OPL w' B d ss[i].wri → ∃ a' b' c' d', [Value.int .i64 ss[i].st, a, b, c, d].set j u = [.int .i64 s'.st, a', b', c', d'] ∧ OPL w' B a' s'.set ∧ OPL w' B b' s'.pre ∧ OPL w' B c' s'.sav ∧ OPL w' B d' s'.wri ∧ (-9223372036854775808 ≤ s'.st ∧ s'.st ≤ 9223372036854775807)) :
  OSL (w.setCell ⟨g, i * 5 + j, none⟩ u) B (.slice (some ⟨g, 0, none⟩) n cap) (ss.set i s') (cs.set (i * 5 + j) u) := by
 subst hn
 obtain ⟨cur, hg⟩ := h.row
 have kp : Keeps 66 w (w.setCell ⟨g, i * 5 + j, none⟩ u) := Keeps.set_ (p := ⟨g, i * 5 + j, none⟩) hg (by decide) u
 refine ⟨?_, SesC.set_ hj (SesC.keeps kp h.ses) i hi fun a b c d h1 h2 h3 h4 => H _ a b c d kp h1 h2 h3 h4⟩
 rw [List.length_set]
 exact own_setC h.own u
/-- all five cells of a session are stored -/
theorem OSL.put5 {w : World} {B g n cap i : Nat} {ss : List Se} {cs : List Value} {s' : Se} {a b c d : Value} (h : OSL w B (.slice (some ⟨g, 0, none⟩) n cap) ss cs) (hn : ss.length = n) (hi : i < ss.length)
  (ha : OPL w B a s'.set) (hb : OPL w B b s'.pre) (hc : OPL w B c s'.sav) (hd : OPL w B d s'.wri) (hs : -9223372036854775808 ≤ s'.st ∧ s'.st ≤ 9223372036854775807) :
  ∃ cs', OSL (((((w.setCell ⟨g, i * 5, none⟩ (.int .i64 s'.st)).setCell ⟨g, i * 5 + 1, none⟩ a).setCell ⟨g, i * 5 + 2, none⟩ b).setCell ⟨g, i * 5 + 3, none⟩ c).setCell ⟨g, i * 5 + 4, none⟩ d) B (.slice (some ⟨g, 0, none⟩) n cap) (ss.set i s') cs' := by
 obtain ⟨cur, hg⟩ := h.row
 have h0 := h.put_ (j := 0) (u := .int .i64 s'.st) (s' := ⟨s'.st, ss[i].set, ss[i].pre, ss[i].sav, ss[i].wri⟩) hn hi (by decide) fun w' a b c d k h1 h2 h3 h4 => ⟨a, b, c, d, rfl, h1, h2, h3, h4, hs⟩
 rw [Nat.add_zero] at h0
 have k0 : Keeps 66 w (w.setCell ⟨g, i * 5, none⟩ (.int .i64 s'.st)) := Keeps.set_ (p := ⟨g, i * 5, none⟩) hg (by decide) _
 have step : ∀ {w1 : World} {t : Se} {cs1 : List Value} (j : Nat) (hj : j < 5) (u : Value) (t' : Se), OSL w1 B (.slice (some ⟨g, 0, none⟩) n cap) (ss.set i t) cs1 →
   (∀ (w' : World) a b c d, Keeps 66 w1 w' → OPL w' B a t.set → OPL w' B b t.pre → OPL w' B c t.sav → OPL w' B d t.wri → ∃ a' b' c' d', [Value.int .i64 t.st, a, b, c, d].set j u = [.int .i64 t'.st, a', b', c', d'] ∧ OPL w' B a' t'.set ∧ OPL w' B b' t'.pre ∧ OPL w' B c' t'.sav ∧ OPL w' B d' t'.wri ∧ (-9223372036854775808 ≤ t'.st ∧ t'.st ≤ 9223372036854775807)) →
   OSL (w1.setCell ⟨g, i * 5 + j, none⟩ u) B (.slice (some ⟨g, 0, none⟩) n cap) (ss.set i t') (cs1.set (i * 5 + j) u) ∧ Keeps 66 w1 (w1.setCell ⟨g, i * 5 + j, none⟩ u) := by
  intro w1 t cs1 j hj u t' h1 H
  obtain ⟨cur1, hg1⟩ := h1.row
  have := h1.put_ (i := i) (j := j) (u := u) (s' := t') (by rw [List.length_set]; exact hn) (by rw [List.length_set]; exact hi) hj (by simpa using H)
  rw [List.set_set] at this
  exact ⟨this, Keeps.set_ (p := ⟨g, i * 5 + j, none⟩) hg1 (by decide) _⟩
 obtain ⟨h1, k1⟩ := step 1 (by decide) a ⟨s'.st, s'.set, ss[i].pre, ss[i].sav, ss[i].wri⟩ h0 fun w' _ b' c' d' k _ h2 h3 h4 => ⟨a, b', c', d', rfl, (ha.keeps k0).keeps k, h2, h3, h4, hs⟩
 obtain ⟨h2, k2⟩ := step 2 (by decide) b ⟨s'.st, s'.set, s'.pre, ss[i].sav, ss[i].wri⟩ h1 fun w' a' _ c' d' k h1 _ h3 h4 => ⟨a', b, c', d', rfl, h1, ((hb.keeps k0).keeps k1).keeps k, h3, h4, hs⟩
 obtain ⟨h3, k3⟩ := step 3 (by decide) c ⟨s'.st, s'.set, s'.pre, s'.sav, ss[i].wri⟩ h2 fun w' a' b' _ d' k h1 h2 _ h4 => ⟨a', b', c, d', rfl, h1, h2, (((hc.keeps k0).keeps k1).keeps k2).keeps k, h4, hs⟩
 obtain ⟨h4, k4⟩ := step 4 (by decide) d s' h3 fun w' a' b' c' _ k h1 h2 h3 _ => ⟨a', b', c', d, rfl, h1, h2, h3, ((((hd.keeps k0).keeps k1).keeps k2).keeps k3).keeps k, hs⟩
 exact ⟨_, h4⟩
/-- in the midst of did -/
structure DidM (w wx : World) (q B g cap n : Nat) (r : Value) (rows : List Pr) (ss : List Se) (cs : List Value) (x : St) (a0 a1 a2 a3 a4 : Value) : Prop where
 bel : Below w.heap.size w wx
 hB : B ≤ w.heap.size
 lg : g < q
 wo : Blk wx q 31 #[r, .slice (some ⟨g, 0, none⟩) n cap]
 st : Blk wx (q + 1) 23 #[.int .i64 x.k, .string x.key, .string x.val]
 rw_ : Blk wx (q + 2) 31 #[.slice none 0 0, .slice none 0 0]
 ra : Blk wx (q + 3) 48 #[.int .i64 0, .string ⟨#[]⟩, .int .i64 0]
 se : Blk wx (q + 4) 58 #[a0, a1, a2, a3, a4]
 ok : Blk wx (q + 5) 48 #[.int .i64 1, .string ⟨#[]⟩, .int .i64 0]
 rows : OPL wx B r rows
 ses : OSL wx B (.slice (some ⟨g, 0, none⟩) n cap) ss cs
section
variable {w wx wy : World} {q B g cap n : Nat} {r : Value} {rows : List Pr} {ss : List Se} {cs : List Value} {x : St} {a0 a1 a2 a3 a4 : Value}
theorem DidM.keep (h : DidM w wx q B g cap n r rows ss cs x a0 a1 a2 a3 a4) (hb : Below wx.heap.size wx wy) : DidM w wy q B g cap n r rows ss cs x a0 a1 a2 a3 a4 :=
 ⟨below_step h.bel (Nat.le_refl _) hb, h.hB, h.lg, h.wo.keep hb, h.st.keep hb, h.rw_.keep hb, h.ra.keep hb, h.se.keep hb, h.ok.keep hb, h.rows.keeps (.of_below hb), h.ses.keep hb⟩
/-- a cell of the session's copy is stored -/
theorem DidM.setS (h : DidM w wx q B g cap n r rows ss cs x a0 a1 a2 a3 a4) (hq : w.heap.size = q) (j : Nat) (u : Value) {b0 b1 b2 b3 b4 : Value} (e : (#[a0, a1, a2, a3, a4] : Array Value).setIfInBounds j u = #[b0, b1, b2, b3, b4]) :
  DidM w (wx.setCell ⟨q + 4, j, none⟩ u) q B g cap n r rows ss cs x b0 b1 b2 b3 b4 := by
 have hse := h.se.set_ j u
 rw [e] at hse
 have hs := h.se
 have f : ∀ k, k ≠ q + 4 → k ≠ (⟨q + 4, j, none⟩ : Addr).block := fun k hk => hk
 have kp : ∀ t, 58 ≠ t → Keeps t wx (wx.setCell ⟨q + 4, j, none⟩ u) := fun t ht => Keeps.set_ (p := ⟨q + 4, j, none⟩) hs ht u
 have lg := h.lg
 exact ⟨h.bel.setCell (by show w.heap.size ≤ q + 4; omega) u, h.hB, h.lg, h.wo.far (f _ (by omega)) u, h.st.far (f _ (by omega)) u, h.rw_.far (f _ (by omega)) u, h.ra.far (f _ (by omega)) u, hse, h.ok.far (f _ (by omega)) u, h.rows.keeps (kp _ (by decide)),
  own_far h.ses.own (f _ (by omega)) u, h.ses.ses.keeps (kp _ (by decide))⟩
/-- the rows are stored -/
theorem DidM.setR (h : DidM w wx q B g cap n r rows ss cs x a0 a1 a2 a3 a4) (hq : w.heap.size = q) {u : Value} {l : List Pr} (hu : OPL wx B u l) : DidM w (wx.setCell ⟨q, 0, none⟩ u) q B g cap n u l ss cs x a0 a1 a2 a3 a4 := by
 have hs := h.wo
 have f : ∀ k, k ≠ q → k ≠ (⟨q, 0, none⟩ : Addr).block := fun k hk => hk
 have kp : ∀ t, 31 ≠ t → Keeps t wx (wx.setCell ⟨q, 0, none⟩ u) := fun t ht => Keeps.set_ (p := ⟨q, 0, none⟩) hs ht u
 have lg := h.lg
 exact ⟨h.bel.setCell (by show w.heap.size ≤ q; omega) u, h.hB, h.lg, h.wo.set_ 0 u, h.st.far (f _ (by omega)) u, h.rw_.far (f _ (by omega)) u, h.ra.far (f _ (by omega)) u, h.se.far (f _ (by omega)) u, h.ok.far (f _ (by omega)) u, hu.keeps (kp _ (by decide)),
  (kp _ (by decide)).own h.ses.own, h.ses.ses.keeps (kp _ (by decide))⟩
end
/-- behind the session's store -/
structure DidN (w wx : World) (q B g cap n : Nat) (r : Value) (rows : List Pr) (ss : List Se) (cs : List Value) : Prop where
 only : Only2 g g w wx
 lg : g < q
 wo : Blk wx q 31 #[r, .slice (some ⟨g, 0, none⟩) n cap]
 rw_ : Blk wx (q + 2) 31 #[.slice none 0 0, .slice none 0 0]
 ra : Blk wx (q + 3) 48 #[.int .i64 0, .string ⟨#[]⟩, .int .i64 0]
 ok : Blk wx (q + 5) 48 #[.int .i64 1, .string ⟨#[]⟩, .int .i64 0]
 rows : OPL wx B r rows
 ses : OSL wx B (.slice (some ⟨g, 0, none⟩) n cap) ss cs
/-- at the end: what the results are made of -/
structure DidQ (w wx : World) (q B g cap n : Nat) (r : Value) (rows : List Pr) (ss : List Se) (cs : List Value) : Prop where
 only : Only2 g g w wx
 rw_ : Blk wx (q + 2) 31 #[.slice none 0 0, .slice none 0 0]
 ra : Blk wx (q + 3) 48 #[.int .i64 0, .string ⟨#[]⟩, .int .i64 0]
 rows : OPL wx B r rows
 ses : OSL wx B (.slice (some ⟨g, 0, none⟩) n cap) ss cs
def DidR (w : World) (B g cap n : Nat) (R : Wo × An) (e : Ending) (w' : World) : Prop :=
 ∃ r' cs', e = .returned (.tuple #[.agg #[r', .slice (some ⟨g, 0, none⟩) n cap], anV R.2]) ∧ OPL w' B r' R.1.rows ∧ OSL w' B (.slice (some ⟨g, 0, none⟩) n cap) R.1.ses cs' ∧ Only2 g g w w'
section
variable {w wx wy : World} {q B g cap n : Nat} {r : Value} {rows : List Pr} {ss : List Se} {cs : List Value} {x : St} {a0 a1 a2 a3 a4 : Value}
theorem DidM.put5 (h : DidM w wx q B g cap n r rows ss cs x a0 a1 a2 a3 a4) (_hq : w.heap.size = q) (hn : ss.length = n) {i : Nat} (hi : i < ss.length) {s' : Se} {a b c d : Value}
  (ha : OPL wx B a s'.set) (hb : OPL wx B b s'.pre) (hc : OPL wx B c s'.sav) (hd : OPL wx B d s'.wri) (hs : -9223372036854775808 ≤ s'.st ∧ s'.st ≤ 9223372036854775807) :
  ∃ cs', DidN w (((((wx.setCell ⟨g, i * 5, none⟩ (.int .i64 s'.st)).setCell ⟨g, i * 5 + 1, none⟩ a).setCell ⟨g, i * 5 + 2, none⟩ b).setCell ⟨g, i * 5 + 3, none⟩ c).setCell ⟨g, i * 5 + 4, none⟩ d) q B g cap n r rows (ss.set i s') cs' := by
 obtain ⟨cs', ho⟩ := h.ses.put5 hn hi ha hb hc hd hs
 obtain ⟨cur, hg⟩ := h.ses.row
 have lg := h.lg
 refine ⟨cs', ?_⟩
 have far5 : ∀ {k : Nat} {t : TypeId} {c0 : Array Value}, k ≠ g → Blk wx k t c0 → Blk (((((wx.setCell ⟨g, i * 5, none⟩ (.int .i64 s'.st)).setCell ⟨g, i * 5 + 1, none⟩ a).setCell ⟨g, i * 5 + 2, none⟩ b).setCell ⟨g, i * 5 + 3, none⟩ c).setCell ⟨g, i * 5 + 4, none⟩ d) k t c0 :=
  fun hk hb => ((((hb.far (p := ⟨g, i * 5, none⟩) hk _).far (p := ⟨g, i * 5 + 1, none⟩) hk _).far (p := ⟨g, i * 5 + 2, none⟩) hk _).far (p := ⟨g, i * 5 + 3, none⟩) hk _).far (p := ⟨g, i * 5 + 4, none⟩) hk _
 have k5 : Keeps 66 wx (((((wx.setCell ⟨g, i * 5, none⟩ (.int .i64 s'.st)).setCell ⟨g, i * 5 + 1, none⟩ a).setCell ⟨g, i * 5 + 2, none⟩ b).setCell ⟨g, i * 5 + 3, none⟩ c).setCell ⟨g, i * 5 + 4, none⟩ d) :=
  (Keeps.set_ (p := ⟨g, i * 5, none⟩) hg (by decide) _).trans (four_sets (hg.set_ _ _) (by decide) _ _ _ _ _ _ _ _)
 refine ⟨?_, h.lg, far5 (by omega) h.wo, far5 (by omega) h.rw_, far5 (by omega) h.ra, far5 (by omega) h.ok, h.rows.keeps k5, ho⟩
 have o0 : Only2 g g w wx := .of_below h.bel
 exact ((((o0.set_ (p := ⟨g, i * 5, none⟩) (.inl rfl) _).set_ (p := ⟨g, i * 5 + 1, none⟩) (.inl rfl) _).set_ (p := ⟨g, i * 5 + 2, none⟩) (.inl rfl) _).set_ (p := ⟨g, i * 5 + 3, none⟩) (.inl rfl) _).set_ (p := ⟨g, i * 5 + 4, none⟩) (.inl rfl) _
theorem DidN.keep (h : DidN w wx q B g cap n r rows ss cs) (hb : Below wx.heap.size wx wy) : DidN w wy q B g cap n r rows ss cs :=
 ⟨h.only.below hb, h.lg, h.wo.keep hb, h.rw_.keep hb, h.ra.keep hb, h.ok.keep hb, h.rows.keeps (.of_below hb), h.ses.keep hb⟩
theorem DidM.toN (h : DidM w wx q B g cap n r rows ss cs x a0 a1 a2 a3 a4) : DidN w wx q B g cap n r rows ss cs := ⟨.of_below h.bel, h.lg, h.wo, h.rw_, h.ra, h.ok, h.rows, h.ses⟩
theorem DidQ.ends (h : DidQ w wx q B g cap n r rows ss cs) (hq : w.heap.size = q) (u0 u1 u2 u3 u4 : Value) :
  (Only2 g g w (((((wx.setCell ⟨q + 2, 0, none⟩ u0).setCell ⟨q + 2, 1, none⟩ u1).setCell ⟨q + 3, 0, none⟩ u2).setCell ⟨q + 3, 1, none⟩ u3).setCell ⟨q + 3, 2, none⟩ u4)) ∧
  OPL (((((wx.setCell ⟨q + 2, 0, none⟩ u0).setCell ⟨q + 2, 1, none⟩ u1).setCell ⟨q + 3, 0, none⟩ u2).setCell ⟨q + 3, 1, none⟩ u3).setCell ⟨q + 3, 2, none⟩ u4) B r rows ∧
  OSL (((((wx.setCell ⟨q + 2, 0, none⟩ u0).setCell ⟨q + 2, 1, none⟩ u1).setCell ⟨q + 3, 0, none⟩ u2).setCell ⟨q + 3, 1, none⟩ u3).setCell ⟨q + 3, 2, none⟩ u4) B (.slice (some ⟨g, 0, none⟩) n cap) ss cs ∧
  Blk (((((wx.setCell ⟨q + 2, 0, none⟩ u0).setCell ⟨q + 2, 1, none⟩ u1).setCell ⟨q + 3, 0, none⟩ u2).setCell ⟨q + 3, 1, none⟩ u3).setCell ⟨q + 3, 2, none⟩ u4) (q + 2) 31 #[u0, u1] ∧
  Blk (((((wx.setCell ⟨q + 2, 0, none⟩ u0).setCell ⟨q + 2, 1, none⟩ u1).setCell ⟨q + 3, 0, none⟩ u2).setCell ⟨q + 3, 1, none⟩ u3).setCell ⟨q + 3, 2, none⟩ u4) (q + 3) 48 #[u2, u3, u4] := by
 have l2 : w.heap.size ≤ (⟨q + 2, 0, none⟩ : Addr).block := by show w.heap.size ≤ q + 2; omega
 have l3 : w.heap.size ≤ (⟨q + 3, 0, none⟩ : Addr).block := by show w.heap.size ≤ q + 3; omega
 have n23 : q + 3 ≠ q + 2 := by omega
 have n32 : q + 2 ≠ q + 3 := by omega
 have r2 := (h.rw_.set_ 0 u0).set_ 1 u1
 have r3 := (h.ra.far (p := ⟨q + 2, 0, none⟩) n23 u0).far (p := ⟨q + 2, 1, none⟩) n23 u1
 have kp : ∀ t, 31 ≠ t → 48 ≠ t → Keeps t wx (((((wx.setCell ⟨q + 2, 0, none⟩ u0).setCell ⟨q + 2, 1, none⟩ u1).setCell ⟨q + 3, 0, none⟩ u2).setCell ⟨q + 3, 1, none⟩ u3).setCell ⟨q + 3, 2, none⟩ u4) := fun t h1 h2 =>
  ((((Keeps.set_ (p := ⟨q + 2, 0, none⟩) h.rw_ h1 _).trans (Keeps.set_ (p := ⟨q + 2, 1, none⟩) (h.rw_.set_ 0 u0) h1 _)).trans (Keeps.set_ (p := ⟨q + 3, 0, none⟩) r3 h2 _)).trans (Keeps.set_ (p := ⟨q + 3, 1, none⟩) (r3.set_ 0 u2) h2 _)).trans (Keeps.set_ (p := ⟨q + 3, 2, none⟩) ((r3.set_ 0 u2).set_ 1 u3) h2 _)
 exact ⟨((((h.only.set_new (p := ⟨q + 2, 0, none⟩) l2 _).set_new (p := ⟨q + 2, 1, none⟩) l2 _).set_new (p := ⟨q + 3, 0, none⟩) l3 _).set_new (p := ⟨q + 3, 1, none⟩) l3 _).set_new (p := ⟨q + 3, 2, none⟩) l3 _,
  h.rows.keeps (kp _ (by decide) (by decide)), ⟨(kp _ (by decide) (by decide)).own h.ses.own, h.ses.ses.keeps (kp _ (by decide) (by decide))⟩,
  ((r2.far (p := ⟨q + 3, 0, none⟩) n32 _).far (p := ⟨q + 3, 1, none⟩) n32 _).far (p := ⟨q + 3, 2, none⟩) n32 _, ((r3.set_ 0 u2).set_ 1 u3).set_ 2 u4⟩
theorem DidN.toQ (h : DidN w wx q B g cap n r rows ss cs) : DidQ w wx q B g cap n r rows ss cs := ⟨h.only, h.rw_, h.ra, h.rows, h.ses⟩
end
/-- what the walk of did meets first -/
structure DidP (w w4 : World) (B g cap n i : Nat) (r : Value) (W : Wo) (cs : List Value) (x : St) (t : Se) (a1 a2 a3 a4 : Value) : Prop where
 z4 : w4.heap.size = w.heap.size + 4
 f1 : w4.cell? ⟨w.heap.size, 1, none⟩ = some (.slice (some ⟨g, 0, none⟩) n cap)
 y0 : w4.cell? ⟨g, i * 5, none⟩ = some (.int .i64 t.st)
 y1 : w4.cell? ⟨g, i * 5 + 1, none⟩ = some a1
 y2 : w4.cell? ⟨g, i * 5 + 2, none⟩ = some a2
 y3 : w4.cell? ⟨g, i * 5 + 3, none⟩ = some a3
 y4 : w4.cell? ⟨g, i * 5 + 4, none⟩ = some a4
 m : DidM w ((w4.alloc (.cells #[.int .i64 t.st, a1, a2, a3, a4] 58)).alloc (.cells #[.int .i64 1, .string ⟨#[]⟩, .int .i64 0] 48)) w.heap.size B g cap n r W.rows W.ses cs x (.int .i64 t.st) a1 a2 a3 a4
/-- a session's lists in memory -/
structure SeR (w : World) (B : Nat) (a1 a2 a3 a4 : Value) (t : Se) : Prop where
 p1 : OPL w B a1 t.set
 p2 : OPL w B a2 t.pre
 p3 : OPL w B a3 t.sav
 p4 : OPL w B a4 t.wri
 i64 : -9223372036854775808 ≤ t.st ∧ t.st ≤ 9223372036854775807
theorem did_pre {w : World} {B g cap n i : Nat} {r : Value} {W : Wo} {cs : List Value} (hB : B ≤ w.heap.size) (hn : W.ses.length = n) (hr : OPL w B r W.rows) (hs : OSL w B (.slice (some ⟨g, 0, none⟩) n cap) W.ses cs) (hi : i < n) :
  ∃ Ar cr A1 z1 A2 z2 A3 z3 A4 z4, r = .slice Ar W.rows.length cr ∧ SeR w B (.slice A1 (W.se i).set.length z1) (.slice A2 (W.se i).pre.length z2) (.slice A3 (W.se i).sav.length z3) (.slice A4 (W.se i).wri.length z4) (W.se i) ∧
   ∀ (x : St) w4, ((((w.alloc (.cells #[r, .slice (some ⟨g, 0, none⟩) n cap] 31)).alloc (.cells #[.int .i64 x.k, .string x.key, .string x.val] 23)).alloc (.cells #[.slice none 0 0, .slice none 0 0] 31)).alloc (.cells #[.int .i64 0, .string ⟨#[]⟩, .int .i64 0] 48)) = w4 →
    DidP w w4 B g cap n i r W cs x (W.se i) (.slice A1 (W.se i).set.length z1) (.slice A2 (W.se i).pre.length z2) (.slice A3 (W.se i).sav.length z3) (.slice A4 (W.se i).wri.length z4) := by
 have hil : i < W.ses.length := by omega
 have hse : W.se i = W.ses[i] := getD_at hil _
 obtain ⟨Ar, cr, rfl⟩ := hr.form
 obtain ⟨v1, v2, v3, v4, k0, k1, k2, k3, k4, o1, o2, o3, o4, o5⟩ := SesC.at_ hs.ses i hil
 rw [← hse] at k0 o1 o2 o3 o4 o5
 have hc := hs.own.cells (g := g) rfl
 obtain ⟨A1, z1, rfl⟩ := o1.form
 obtain ⟨A2, z2, rfl⟩ := o2.form
 obtain ⟨A3, z3, rfl⟩ := o3.form
 obtain ⟨A4, z4, rfl⟩ := o4.form
 refine ⟨Ar, cr, A1, z1, A2, z2, A3, z3, A4, z4, rfl, ⟨o1, o2, o3, o4, o5⟩, fun x w4 hw4 => ?_⟩
 obtain ⟨d1, e4, d3, d4, d5, d6⟩ := did_boxes w _ _ x w4 hw4.symm
 have lg := hs.lt.2
 have hx : ∀ (j : Nat) (u : Value), cs[j]? = some u → w4.cell? ⟨g, j, none⟩ = some u := fun j u hu => by
  have := hc j u hu
  rw [adr0] at this
  exact (d1.cell (by exact lg)).trans this
 have bb := boxed2 w4 (.cells #[.int .i64 (W.se i).st, .slice A1 (W.se i).set.length z1, .slice A2 (W.se i).pre.length z2, .slice A3 (W.se i).sav.length z3, .slice A4 (W.se i).wri.length z4] 58) (.cells #[.int .i64 1, .string ⟨#[]⟩, .int .i64 0] 48)
 have b6 := below_step d1 (Nat.le_refl _) bb
 have n4 := (Blk.new w4 58 #[.int .i64 (W.se i).st, .slice A1 (W.se i).set.length z1, .slice A2 (W.se i).pre.length z2, .slice A3 (W.se i).sav.length z3, .slice A4 (W.se i).wri.length z4]).alloc (.cells #[.int .i64 1, .string ⟨#[]⟩, .int .i64 0] 48)
 have n5 := Blk.new1 w4 (.cells #[.int .i64 (W.se i).st, .slice A1 (W.se i).set.length z1, .slice A2 (W.se i).pre.length z2, .slice A3 (W.se i).sav.length z3, .slice A4 (W.se i).wri.length z4] 58) 48 #[.int .i64 1, .string ⟨#[]⟩, .int .i64 0]
 rw [e4] at n4 n5
 exact ⟨e4, d3.cell_ 1 _ rfl, hx _ _ k0, hx _ _ k1, hx _ _ k2, hx _ _ k3, hx _ _ k4, ⟨b6, hB, lg, d3.keep bb, d4.keep bb, d5.keep bb, d6.keep bb, n4, n5, hr.keeps (.of_below b6), hs.keep b6⟩⟩
/-- what its store into the sessions meets -/
theorem DidM.cells5 {w wx : World} {q B g cap n : Nat} {r : Value} {rows : List Pr} {ss : List Se} {cs : List Value} {x : St} {a0 a1 a2 a3 a4 : Value} (h : DidM w wx q B g cap n r rows ss cs x a0 a1 a2 a3 a4) (hn : ss.length = n) {i : Nat} (hi : i < n) :
  ∃ c0 c1 c2 c3 c4, wx.cell? ⟨g, i * 5, none⟩ = some c0 ∧ wx.cell? ⟨g, i * 5 + 1, none⟩ = some c1 ∧ wx.cell? ⟨g, i * 5 + 2, none⟩ = some c2 ∧ wx.cell? ⟨g, i * 5 + 3, none⟩ = some c3 ∧ wx.cell? ⟨g, i * 5 + 4, none⟩ = some c4 ∧ ∀ j, wx.frozen? ⟨g, j, none⟩ = false := by
 obtain ⟨v1, v2, v3, v4, k0, k1, k2, k3, k4, _⟩ := SesC.at_ h.ses.ses i (by omega)
 have hc := h.ses.own.cells (g := g) rfl
 have hx : ∀ (j : Nat) (u : Value), cs[j]? = some u → wx.cell? ⟨g, j, none⟩ = some u := fun j u hu => by
  have := hc j u hu
  rwa [adr0] at this
 obtain ⟨cur, hg⟩ := h.ses.row
 exact ⟨_, _, _, _, _, hx _ _ k0, hx _ _ k1, hx _ _ k2, hx _ _ k3, hx _ _ k4, fun j => hg.frozen j⟩
theorem SeR.at_ {w u : World} {B : Nat} {a1 a2 a3 a4 : Value} {t : Se} (h : SeR w B a1 a2 a3 a4 t) (hb : Below w.heap.size w u) : SeR u B a1 a2 a3 a4 t :=
 ⟨h.p1.keeps (.of_below hb), h.p2.keeps (.of_below hb), h.p3.keeps (.of_below hb), h.p4.keeps (.of_below hb), h.i64⟩
theorem DidM.wl {w wx : World} {q B g cap n : Nat} {r : Value} {rows : List Pr} {ss : List Se} {cs : List Value} {x : St} {a0 a1 a2 a3 a4 : Value} (h : DidM w wx q B g cap n r rows ss cs x a0 a1 a2 a3 a4) (hz : ss.length ≤ 1000) : WL wx wx.heap.size r (.slice (some ⟨g, 0, none⟩) n cap) ⟨rows, ss⟩ := ⟨h.rows.pl, h.ses.sl (by omega)⟩
theorem put_back (W : Wo) {i : Nat} (hi : i < W.ses.length) : W.put i (W.se i) = W := by
 unfold Wo.put Wo.se
 rw [getD_at hi, List.set_getElem_self]
theorem Good.wri100 {W : Wo} (g : Good W) : ∀ s ∈ W.ses, s.wri.length ≤ 100 := fun s hs => by
 obtain ⟨i, hi, rfl⟩ := List.getElem_of_mem hs
 have := g.ses i hi
 rw [getD_at hi] at this
 exact ((pairs_iff _ _ _).1 this.wri).2.2
theorem Good.rows100 {W : Wo} (g : Good W) : W.rows.length ≤ 100 := ((pairs_iff _ _ _).1 g.rows).2.2
theorem at_here {l m : List Pr} {k a : ByteArray} (hb : hasK l k = true) (ha : (atP l k).getD ⟨#[]⟩ = a) : foundA (match atP l k with | some v => some v | none => atP m k) = ⟨2, a, 0⟩ := by
 have h := hasK_atP l k
 rw [hb] at h
 obtain ⟨v, hv⟩ := Option.isSome_iff_exists.1 h
 rw [hv] at ha ⊢
 rw [← ha]
 rfl
theorem at_there {l m : List Pr} {k a : ByteArray} (hn : hasK l k = false) (hb : hasK m k = true) (ha : (atP m k).getD ⟨#[]⟩ = a) : foundA (match atP l k with | some v => some v | none => atP m k) = ⟨2, a, 0⟩ := by
 rw [at_none hn]
 have h := hasK_atP m k
 rw [hb] at h
 obtain ⟨v, hv⟩ := Option.isSome_iff_exists.1 h
 simp only
 rw [hv] at ha ⊢
 rw [← ha]
 rfl
theorem at_nowhere {l m : List Pr} {k : ByteArray} (hn : hasK l k = false) (hb : hasK m k = false) : foundA (match atP l k with | some v => some v | none => atP m k) = ⟨3, ⟨#[]⟩, 0⟩ := by
 rw [at_none hn]
 simp only
 rw [at_none hb]
 rfl
end Go.Proofs.YtjbnfigpflambabDoor
