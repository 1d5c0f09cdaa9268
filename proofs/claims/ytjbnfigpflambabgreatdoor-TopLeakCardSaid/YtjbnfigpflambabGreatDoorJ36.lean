/- Plain laws, no program: every row was written by a client that was answered so; a client gets its own settings alone. The pool's outcome is the house's. slices.Equal on deeds, on texts and tillermantop.same, for what is the same. The walk of TopModes: it returns true. slices.ContainsFunc over deeds with TopLeak$1. The walk of TopLeak: it returns true. -/
import Derived.Test.YtjbnfigpflambabGreatDoorJ02
import Derived.Test.YtjbnfigpflambabGreatDoorJ06
import Derived.Test.YtjbnfigpflambabGreatDoorJ22
import Derived.Test.YtjbnfigpflambabGreatDoorJ35
import Derived.Lib.SliceRun
import Derived.Deep.CutBlock
/- Plain laws, no program: every row was written by a client that was answered so; a client gets its own settings alone. -/
namespace Go.Proofs.YtjbnfigpflambabGreatDoor
/-- a deed that may have written the pair -/
def Wrote (ds : List De) (p : Pr) : Prop := ∃ d ∈ ds, d.a.kind = 1 ∧ ((d.x.k = 10 ∧ d.x.key = p.k ∧ d.x.val = p.v) ∨ d.x.k = 8)
theorem Wrote.more {ds : List De} {p : Pr} (h : Wrote ds p) (l : List De) : Wrote (ds ++ l) p := by
  obtain ⟨d, hd, h⟩ := h
  exact ⟨d, List.mem_append_left _ hd, h⟩
/-! settings -/
def inSet (s : Se) (p : Pr) : Prop := p ∈ s.set ∨ p ∈ s.sav
theorem did1_inSet {W : Wo} {i : Nat} (hi : i < W.ses.length) (x : St) {j : Nat} {p : Pr} (h : inSet ((did1 W i x).1.se j) p) : inSet (W.se j) p ∨ (j = i ∧ x.k = 9 ∧ x.key = p.k ∧ x.val = p.v ∧ (did1 W i x).2.kind = 1) := by
  have put : ∀ {s : Se}, (∀ q, inSet s q → inSet (W.se i) q) → inSet ((W.put i s).se j) p → inSet (W.se j) p := by
    intro s hs h
    rw [se_put W hi] at h
    split at h
    · rename_i e; rw [e]; exact hs p h
    · exact h
  unfold did1 at h ⊢
  split at h
  · exact .inl h
  rename_i hf
  split at h
  · left
    unfold transW at h
    split at h
    · exact put (fun q hq => by rcases hq with hq | hq <;> exact .inl hq) h
    split at h
    · exact h
    split at h
    · exact h
    unfold endW at h
    split at h
    · have h : inSet ((W.put i ⟨0, (W.se i).set, (W.se i).pre, [], []⟩).se j) p := h
      exact put (fun q hq => by rcases hq with hq | hq; exact .inl hq; simp at hq) h
    · exact put (fun q hq => by rcases hq with hq | hq; exact .inr hq; simp at hq) h
  rename_i h123
  split at h
  · left
    unfold resetW at h
    split at h
    · exact put (fun q hq => by rcases hq with hq | hq; simp at hq; exact .inr hq) h
    · exact h
  rename_i h4
  split at h
  · exact .inl h
  rename_i h6
  split at h
  · exact .inl h
  rename_i h7
  split at h
  · rename_i h9
    rw [if_neg hf, if_neg h123, if_neg h4, if_neg h6, if_neg h7, if_pos h9]
    unfold setW at h ⊢
    split at h
    · exact .inl h
    · rename_i l hl
      rw [se_put W hi] at h
      split at h
      · rename_i e
        rcases h with h | h
        · have h : p ∈ l := h
          have hk := hl
          unfold keepP at hk
          split at hk
          · cases hk
          · injection hk with hk
            rw [← hk] at h
            rcases plus_mem h with rfl | ⟨h, _⟩
            · exact .inr ⟨e, h9, rfl, rfl, rfl⟩
            · rw [e]; exact .inl (.inl h)
        · rw [e]; exact .inl (.inr h)
      · exact .inl h
  rename_i h9
  split at h
  · left
    unfold putW at h
    split at h
    · exact h
    split at h
    · exact h
    split at h
    · exact put (by exact fun q hq => hq) h
    · exact h
  split at h
  · left
    unfold prepW at h
    split at h
    · exact h
    · exact put (by exact fun q hq => hq) h
  · exact .inl h
theorem doW_inSet {W : Wo} (g : Good W) {i : Nat} (hi : i < W.ses.length) (x : St) {j : Nat} {p : Pr} (h : inSet ((doW W i x).1.se j) p) : inSet (W.se j) p ∨ (j = i ∧ x.k = 9 ∧ x.key = p.k ∧ x.val = p.v ∧ (doW W i x).2.kind = 1) := by
  have l1 : i < (did W i x).1.ses.length := by rw [(did_mine W i x).1]; exact hi
  have h1 : inSet ((did W i x).1.se j) p := by
    have h : inSet (((did W i x).1.put i (failSe ((did W i x).1.se i) (did W i x).2)).se j) p := h
    rw [se_put _ l1] at h
    split at h
    · rename_i e
      unfold failSe at h
      rw [e]
      split at h
      · exact h
      · exact h
    · exact h
  have e2 : (doW W i x).2.kind = (did W i x).2.kind := rfl
  rw [e2]
  unfold did at h1 ⊢
  split at h1
  · left
    unfold execW at h1
    split at h1
    · exact h1
    · split at h1
      · exact h1
      · rename_i t ht
        rcases did1_inSet hi _ h1 with h | ⟨_, h9, _⟩
        · exact h
        · have := ((g.se hi).preOk ht).2
          omega
  · rename_i h8
    rw [if_neg h8]
    exact did1_inSet hi x h1
def SetBy (ds : List De) (j : Nat) (p : Pr) : Prop := ∃ d ∈ ds, d.c = j ∧ d.x.k = 9 ∧ d.x.key = p.k ∧ d.x.val = p.v ∧ d.a.kind = 1
theorem SetBy.more {ds : List De} {j : Nat} {p : Pr} (h : SetBy ds j p) (l : List De) : SetBy (ds ++ l) j p := by
  obtain ⟨d, hd, h⟩ := h
  exact ⟨d, List.mem_append_left _ hd, h⟩
theorem doW_get {W : Wo} {i : Nat} {x : St} (h6 : x.k = 6) (h2 : (doW W i x).2.kind = 2) : ⟨x.key, (doW W i x).2.text⟩ ∈ (W.se i).set := by
  have e2 : (doW W i x).2.kind = (did W i x).2.kind := rfl
  have e3 : (doW W i x).2.text = (did W i x).2.text := rfl
  rw [e2] at h2
  rw [e3]
  have e : did W i x = did1 W i x := by unfold did; rw [if_neg (by omega)]
  rw [e] at h2 ⊢
  unfold did1 at h2 ⊢
  by_cases hf : (W.se i).st = 2 ∧ x.k ≠ 2 ∧ x.k ≠ 3
  · rw [if_pos hf] at h2
    simp [noA] at h2
  · rw [if_neg hf, if_neg (by omega), if_neg (by omega), if_pos h6] at h2 ⊢
    unfold getW at h2 ⊢
    cases ha : atP (W.se i).set x.key with
    | none => simp only [ha] at h2; simp [foundA] at h2
    | some v =>
      simp only
      exact atP_mem' ha
/-- deeds in which who gets a value has set it -/
def Fair (ds : List De) : Prop := ∀ l1 d l2, ds = l1 ++ d :: l2 → d.x.k = 6 → d.a.kind = 2 → SetBy l1 d.c ⟨d.x.key, d.a.text⟩
theorem Fair.snoc {ds : List De} (h : Fair ds) (d : De) (hd : d.x.k = 6 → d.a.kind = 2 → SetBy ds d.c ⟨d.x.key, d.a.text⟩) : Fair (ds ++ [d]) := by
  intro l1 e l2 he h6 h2
  rcases List.append_eq_append_iff.1 he with ⟨m, e1, e2⟩ | ⟨m, e1, e2⟩
  · rcases m with _ | ⟨a, m⟩
    · simp only [List.nil_append, List.append_nil, List.cons.injEq] at e1 e2
      rw [e1, ← e2.1]
      rw [← e2.1] at h6 h2
      exact hd h6 h2
    · simp at e2
  · rcases m with _ | ⟨a, m⟩
    · simp only [List.nil_append, List.append_nil, List.cons.injEq] at e1 e2
      rw [← e1, e2.1]
      rw [e2.1] at h6 h2
      exact hd h6 h2
    · simp only [List.cons_append, List.cons.injEq] at e2
      rw [← e2.1] at e1
      exact h l1 e m e1 h6 h2
theorem inv_leak : Inv fun ds w => (∀ j p, inSet (w.se j) p → SetBy ds j p) ∧ Fair ds := by
  refine ⟨⟨?_⟩, ?_⟩
  · intro ds w i x hi hx g h6 h
    have hil : i < w.ses.length := by rw [h6]; exact hi
    refine ⟨fun j p hp => ?_, h.2.snoc _ fun h1 h2 => h.1 i _ (.inl (doW_get h1 h2))⟩
    rcases doW_inSet g hil x hp with hp | ⟨rfl, h1, h2, h3, h4⟩
    · exact (h.1 j p hp).more _
    · exact ⟨_, List.mem_append_right _ List.mem_cons_self, rfl, h1, h2, h3, h4⟩
  · intro ds w i hi h6 h
    refine ⟨fun j p hp => ?_, h.2⟩
    rw [se_put w (by rw [h6]; exact hi)] at hp
    split at hp
    · rcases hp with hp | hp <;> simp [Se.new] at hp
    · exact h.1 j p hp
theorem start_leak : (∀ j p, inSet (startH.se j) p → SetBy [] j p) ∧ Fair [] := by
  refine ⟨fun j p hp => ?_, fun l1 d l2 h => by simp at h⟩
  have e : startH.se j = Se.new := rep_getD 6 j _
  rw [e] at hp
  rcases hp with hp | hp <;> simp [Se.new] at hp
end Go.Proofs.YtjbnfigpflambabGreatDoor
/- The pool's outcome is the house's. -/
namespace Go.Proofs.YtjbnfigpflambabGreatDoor
open Go.RowKit
theorem fair_c {m : Nat} (h6 : m ≤ 6) {l : List Ac} (h : ∀ a ∈ l, AcFair m a) : ∀ a ∈ l, a.c.toNat < 6 := fun a ha => by
  have := (h a ha).lt
  have := (h a ha).ok.c0
  omega
theorem fair_ok {m : Nat} {l : List Ac} (h : ∀ a ∈ l, AcFair m a) : ∀ a ∈ l, AcOk a := fun a ha => (h a ha).ok
/-- the house's outcome -/
noncomputable def outH (y : Fr × Wo) : Outc := ⟨(List.range 6).map fun c => (y.1.c c).sent, y.1.deeds, y.2.rows⟩
theorem out_house (mode : Int) (n : Nat) (hn : n ≤ 8) (l : List Ac) (hl : ∀ a ∈ l, a.c.toNat < 6) : outM mode n l = outH (runM houseB (startF mode n, startH) l) := by
  have h := run_sim mode n hn l hl
  unfold outM outH
  rw [h.front, h.rb.rows]
theorem outH_av {y z : Fr × Wo} (h : avOf y = avOf z) : outH y = outH z := by
  have hu : auOf y = auOf z := congrArg Av.u h
  have h1 : y.1.deeds = z.1.deeds := congrArg Au.deeds hu
  have h2 : (fun i => (y.1.c i).sent) = fun i => (z.1.c i).sent := congrArg Au.sent hu
  have h3 : y.2 = z.2 := congrArg Au.w hu
  unfold outH
  rw [h1, h3]
  congr 1
  refine List.map_congr_left fun c _ => congrFun h2 c
theorem out_modes (l : List Ac) (hl : ∀ a ∈ l, AcFair 4 a) : outM 1 4 l = outM 2 4 l := by
  have hc := fair_c (m := 4) (by decide) hl
  rw [out_house 1 4 (by decide) l hc, out_house 2 4 (by decide) l hc]
  refine outH_av (modes_law 4 (by decide) (S := [0, 1, 2, 3]) (by decide) (by decide) l fun a ha => ⟨?_, hc a ha⟩)
  have h1 := (hl a ha).lt
  have h2 := (hl a ha).ok.c0
  have : a.c.toNat = 0 ∨ a.c.toNat = 1 ∨ a.c.toNat = 2 ∨ a.c.toNat = 3 := by omega
  simpa using this
end Go.Proofs.YtjbnfigpflambabGreatDoor
/- slices.Equal on deeds, on texts and tillermantop.same, for what is the same. -/
namespace Go.Proofs.YtjbnfigpflambabGreatDoor
open Go.ChangeShapes Go.WideShapes Go.ChangeAt Go.RowKit
def dV (d : De) : List Value := [.int .i64 (d.c : Int), .int .i64 d.x.k, .string d.x.key, .string d.x.val, .int .i64 d.a.kind, .string d.a.text, .int .i64 d.a.st]
theorem deV_at : ∀ (l : List De) (k : Nat) (h : k < l.length) (j : Nat), j < 7 → (deV l)[k * 7 + j]? = (dV l[k])[j]?
  | [], _, h, _, _ => absurd h (by simp)
  | d :: l, 0, _, j, hj => by
    show ((dV d) ++ deV l)[0 * 7 + j]? = _
    rw [List.getElem?_append_left (by simp [dV]; omega)]
    simp
  | d :: l, k + 1, h, j, hj => by
    show ((dV d) ++ deV l)[(k + 1) * 7 + j]? = _
    rw [List.getElem?_append_right (by simp [dV]; omega)]
    have := deV_at l k (by simpa using h) j hj
    rw [show (k + 1) * 7 + j - (dV d).length = k * 7 + j by simp [dV]; omega, this]
    rfl
/-- a deed in memory -/
structure DeAt (w : World) (p : Addr) (d : De) : Prop where
  c : w.cell? p = some (.int .i64 (d.c : Int))
  k : w.cell? ⟨p.block, p.off + 1, none⟩ = some (.int .i64 d.x.k)
  key : w.cell? ⟨p.block, p.off + 2, none⟩ = some (.string d.x.key)
  val : w.cell? ⟨p.block, p.off + 3, none⟩ = some (.string d.x.val)
  kind : w.cell? ⟨p.block, p.off + 4, none⟩ = some (.int .i64 d.a.kind)
  text : w.cell? ⟨p.block, p.off + 5, none⟩ = some (.string d.a.text)
  st : w.cell? ⟨p.block, p.off + 6, none⟩ = some (.int .i64 d.a.st)
theorem DeAt.below {w w' : World} {B : Nat} {p : Addr} {x : De} (h : DeAt w p x) (hp : p.block < B) (hb : Below B w w') : DeAt w' p x :=
  ⟨(hb.cell hp).trans h.c, (hb.cell (by exact hp)).trans h.k, (hb.cell (by exact hp)).trans h.key, (hb.cell (by exact hp)).trans h.val, (hb.cell (by exact hp)).trans h.kind, (hb.cell (by exact hp)).trans h.text, (hb.cell (by exact hp)).trans h.st⟩
theorem deed_at {w : World} {B : Nat} {A : Option Addr} {l : List De} (h : Reads w B 7 A l.length (deV l)) {k : Nat} (hk : k < l.length) : ∃ ad : Addr, A = some ad ∧ ad.block < B ∧ DeAt w (ad.add (k * 7)) l[k] := by
  obtain ⟨ad, hA, hB, hcell⟩ := h.2 (by omega)
  have e : ∀ j, j < 7 → ∀ u, (dV l[k])[j]? = some u → w.cell? (ad.add (k * 7 + j)) = some u := fun j hj u hu => hcell _ _ ((deV_at l k hk j hj).trans hu)
  have ea : ∀ j, (⟨(ad.add (k * 7)).block, (ad.add (k * 7)).off + (j + 1), none⟩ : Addr) = ad.add (k * 7 + (j + 1)) := fun j => by rw [← add_of_add]; rfl
  exact ⟨ad, hA, hB, e 0 (by omega) _ rfl, by rw [ea 0]; exact e 1 (by omega) _ rfl, by rw [ea 1]; exact e 2 (by omega) _ rfl, by rw [ea 2]; exact e 3 (by omega) _ rfl, by rw [ea 3]; exact e 4 (by omega) _ rfl, by rw [ea 4]; exact e 5 (by omega) _ rfl, by rw [ea 5]; exact e 6 (by omega) _ rfl⟩
theorem OwnO.most {w : World} {B : Nat} {e : TypeId} {size n : Nat} {v : Value} {xs : List Value} (h : OwnO w B e size v n xs) : n ≤ maxLen := by
  rcases h.2 with ⟨_, rfl⟩ | ⟨_, _, _, _, _, _, _, h1, h2, _⟩
  · exact Nat.zero_le _
  · omega
set_option maxHeartbeats 4000000 in
set_option maxRecDepth 100000 in
theorem deeds_same (w : World) (A1 A2 : Option Addr) (c1 c2 n : Nat) (l : List De) (hn : l.length = n) (hm : n ≤ maxLen) (hu : Reads w w.heap.size 7 A1 n (deV l)) (hv : Reads w w.heap.size 7 A2 n (deV l)) :
    Calls Tryz.prog 18 #[.slice A1 n c1, .slice A2 n c2] w fun e w' => e = .returned (.bool true) ∧ Below w.heap.size w w' := by
  subst hn
  have H1 := Lib.hid hu
  have H2 := Lib.hid hv
  obtain ⟨n, hN⟩ : ∃ n, l.length = n := ⟨_, rfl⟩
  rw [hN] at hm ⊢
  have HN := Lib.hid hN
  unfold maxLen at hm
  clear hu hv hN
  go_enter Tryz.func18, Tryz.ntmps18
  go_wp2_with fail
  go_loopw [13] (fun i wx => ∃ k : Nat, k ≤ n ∧ i = .int .i64 k ∧ Below w.heap.size w wx) (fun i _ => n - (intOf i).toNat)
  case atStart => exact ⟨0, Nat.zero_le _, rfl, Below.refl _ _⟩
  case round =>
    obtain ⟨k, hk, rfl, hb⟩ := hrel
    by_cases hlt : k < n
    · have hkl : k < l.length := by rw [HN.out]; exact hlt
      have HBd := (hb.drew)
      obtain ⟨a1, hA1, -, x⟩ := deed_at (H1.out.below HBd) hkl
      obtain ⟨a2, hA2, -, y⟩ := deed_at (H2.out.below HBd) hkl
      subst hA1 hA2
      obtain ⟨p, hp⟩ : ∃ p, l[k] = p := ⟨_, rfl⟩
      rw [hp] at x y
      obtain ⟨x0, x1, x2, x3, x4, x5, x6⟩ := x
      obtain ⟨y0, y1, y2, y3, y4, y5, y6⟩ := y
      have HB := Lib.hid HBd
      have g1 : (k : Int) < (n : Int) := by omega
      have g2 : (0 : Int) ≤ (k : Int) := by omega
      clear hb HBd hp
      go_upto_region 6 with fail
      refine region_segs [] (by kernel_rfl) ?_
      refine anyB_seg [0, 1, 2, 3, 4, 5, 6, 7] 1 rfl (by kernel_rfl) (by kernel_rfl) (by kernel_rfl) (fun _ _ d _ _ h => by cases d <;> exact h) ?_
      simp only [pickOps, List.getElem?_toArray, List.getElem?_cons_zero, List.getElem?_cons_succ]
      go_wp2_with fail
      refine ⟨rfl, by simp [plainOps, plainV, plain1, Act.eval], ?_⟩
      refine anyB_one (i := 8) (by kernel_rfl) rfl (fun K hK => ?_)
      go_simp
      refine hK.out _ _ (fun _ => (Below.refl _ _)) ?_
      clear hK K
      refine anyB_done (by kernel_rfl) ?_ _
      clear x0 x1 x2 x3 x4 x5 x6 y0 y1 y2 y3 y4 y5 y6
      generalize World.drew _ = x9 at HB ⊢
      go_wp2_with fail
      go_roundw
      case rel => exact ⟨k + 1, by omega, by go_num, HB.out⟩
      case measure => simp [intOf]; omega
    · have g1 : (n : Int) ≤ (k : Int) := by omega
      have HB := Lib.hid hb
      clear hb hlt
      go_wp2_with fail
      go_ret
      exact ⟨rfl, HB.out⟩
/-- texts that are the same -/
theorem own_strs {w : World} {B n : Nat} {v : Value} {l : List ByteArray} (h : OwnO w B 9 1 v n (l.map .string)) (hn : 0 < n) : ∃ g off cap, v = .slice (some ⟨g, off, none⟩) n cap ∧ ∀ j, j < l.length → w.cell? ⟨g, off + j, none⟩ = some (.string (l.getD j ByteArray.empty)) := by
  obtain ⟨A, c, e, _, r⟩ := h.reads
  rcases h.2 with ⟨_, h0⟩ | ⟨g, off, cap, cur, e2, _⟩
  · omega
  · obtain ⟨a, hA, _, hc⟩ := r.2 hn
    rw [e2] at e
    injection e with e3 e4 e5
    rw [hA] at e3
    injection e3 with e3
    subst e3
    refine ⟨g, off, cap, e2, fun j hj => ?_⟩
    have := hc j _ (by rw [List.getElem?_map, List.getElem?_eq_getElem hj]; rfl)
    rw [List.getD_eq_getElem?_getD, List.getElem?_eq_getElem hj]
    unfold Addr.add at this
    split at this
    · rename_i h0
      subst h0
      exact this
    · exact this
theorem strs_same (w : World) (B1 B2 n : Nat) (u v : Value) (l : List ByteArray) (hn : l.length = n) (hu : OwnO w B1 9 1 u n (l.map .string)) (hv : OwnO w B2 9 1 v n (l.map .string)) :
    Calls Tryz.prog 17 #[u, v] w fun e w' => e = .returned (.bool true) ∧ Below w.heap.size w w' := by
  have hm := hu.most
  unfold maxLen at hm
  rcases Nat.eq_zero_or_pos n with h0 | h0
  · subst h0
    obtain ⟨A1, c1, rfl, _⟩ := hu.form
    obtain ⟨A2, c2, rfl, _⟩ := hv.form
    refine (Tryz.slices_Equal_string_empty A1 A2 c1 0 c2 w (by omega)).mono ?_
    rintro e w' ⟨rfl, rfl⟩
    exact ⟨by simp, Below.refl _ _⟩
  · obtain ⟨b1, o1, c1, rfl, r1⟩ := own_strs hu h0
    obtain ⟨b2, o2, c2, rfl, r2⟩ := own_strs hv h0
    refine (Tryz.slices_Equal_string b1 o1 n c1 b2 o2 n c2 l l w (by omega) (by omega) (by omega) (by omega) r1 r2).mono ?_
    rintro e w' ⟨rfl, q, rfl⟩
    exact ⟨by simp, below_drewN (Below.refl _ _) q⟩
set_option maxHeartbeats 4000000 in
set_option maxRecDepth 100000 in
theorem same_top (w : World) (B : Nat) (vs vd vr us ud ur : Value) (o : Outc) (h1 : OutR w B vs vd vr o) (h2 : OutR w B us ud ur o) :
    Calls Tryz.prog 10 #[.agg #[vs, vd, vr], .agg #[us, ud, ur]] w fun e w' => e = .returned (.bool true) ∧ Below w.heap.size w w' := by
  have HS : Hid (∀ w', Below w.heap.size w w' → Calls Tryz.prog 17 #[vs, us] w' fun e w'' => e = .returned (.bool true) ∧ Below w'.heap.size w' w'') := Lib.hid fun w' hb => strs_same w' B B _ vs us o.sent rfl (h1.keep hb).sent (h2.keep hb).sent
  have HD : Hid (∀ w', Below w.heap.size w w' → Calls Tryz.prog 18 #[vd, ud] w' fun e w'' => e = .returned (.bool true) ∧ Below w'.heap.size w' w'') := Lib.hid fun w' hb => by
    have hm := h1.deeds.most
    obtain ⟨A1, c1, rfl, _, r1⟩ := (h1.keep hb).deeds.reads
    obtain ⟨A2, c2, rfl, _, r2⟩ := (h2.keep hb).deeds.reads
    exact deeds_same w' A1 A2 c1 c2 _ o.deeds rfl hm r1 r2
  have HP : Hid (∀ w', Below w.heap.size w w' → Calls Tryz.prog 19 #[vr, ur] w' fun e w'' => e = .returned (.bool true) ∧ Below w'.heap.size w' w'') := Lib.hid fun w' hb =>
    equal_same w' vr ur o.rows (h1.keep hb).rows.pl (h2.keep hb).rows.pl
  obtain ⟨A1, c1, rfl, _⟩ := h1.sent.form
  obtain ⟨A2, c2, rfl, _⟩ := h1.deeds.form
  obtain ⟨A3, c3, rfl⟩ := h1.rows.form
  obtain ⟨E1, d1, rfl, _⟩ := h2.sent.form
  obtain ⟨E2, d2, rfl, _⟩ := h2.deeds.form
  obtain ⟨E3, d3, rfl⟩ := h2.rows.form
  clear h1 h2
  generalize o.sent.length = n1 at *
  generalize o.deeds.length = n2 at *
  generalize o.rows.length = n3 at *
  have Y : Hid (Blk ((w.alloc (.cells #[.slice A1 n1 c1, .slice A2 n2 c2, .slice A3 n3 c3] 27)).alloc (.cells #[.slice E1 n1 d1, .slice E2 n2 d2, .slice E3 n3 d3] 27)) w.heap.size 27 #[.slice A1 n1 c1, .slice A2 n2 c2, .slice A3 n3 c3]) := Lib.hid ((Blk.new w _ _).alloc _)
  have Z : Hid (Blk ((w.alloc (.cells #[.slice A1 n1 c1, .slice A2 n2 c2, .slice A3 n3 c3] 27)).alloc (.cells #[.slice E1 n1 d1, .slice E2 n2 d2, .slice E3 n3 d3] 27)) (w.heap.size + 1) 27 #[.slice E1 n1 d1, .slice E2 n2 d2, .slice E3 n3 d3]) := Lib.hid (by
    have := Blk.new (w.alloc (.cells #[.slice A1 n1 c1, .slice A2 n2 c2, .slice A3 n3 c3] 27)) 27 #[.slice E1 n1 d1, .slice E2 n2 d2, .slice E3 n3 d3]
    rwa [show (w.alloc (.cells #[.slice A1 n1 c1, .slice A2 n2 c2, .slice A3 n3 c3] 27)).heap.size = w.heap.size + 1 by simp] at this)
  go_enter Tryz.func10, Tryz.ntmps10
  go_wp2_with fail
  refine (HS.out _ (boxed2 w _ _)).mono ?_
  rintro e w1 ⟨rfl, b1⟩
  have B1 := Lib.hid (below_step (boxed2 w _ _) (Nat.le_refl _) b1)
  have Y1 := Lib.hid (Y.out.keep b1)
  have Z1 := Lib.hid (Z.out.keep b1)
  have y0 := Y1.out.cell_ 1 _ rfl
  have z0 := Z1.out.cell_ 1 _ rfl
  clear b1 Y Z
  go_wp2_with fail
  refine (HD.out _ B1.out).mono ?_
  rintro e w2 ⟨rfl, b1⟩
  have B2 := Lib.hid (below_step B1.out (Nat.le_refl _) b1)
  have Y2 := Lib.hid (Y1.out.keep b1)
  have Z2 := Lib.hid (Z1.out.keep b1)
  clear y0 z0
  have y0 := Y2.out.cell_ 2 _ rfl
  have z0 := Z2.out.cell_ 2 _ rfl
  clear b1 Y1 Z1 B1
  go_wp2_with fail
  refine (HP.out _ B2.out).mono ?_
  rintro e w3 ⟨rfl, b1⟩
  have B3 := Lib.hid (below_step B2.out (Nat.le_refl _) b1)
  clear b1 B2 y0 z0 Y2 Z2
  go_wp2_with fail
  go_ret
  exact ⟨rfl, B3.out⟩
end Go.Proofs.YtjbnfigpflambabGreatDoor
/- The walk of TopModes: it returns true. -/
namespace Go.Proofs.YtjbnfigpflambabGreatDoor
open Go.ChangeShapes Go.WideShapes Go.ChangeAt Go.RowKit
/-- what is held of an outcome in a box -/
theorem boxO_new {w w1 : World} {B : Nat} {vs vd vr : Value} {o : Outc} (h : OutR w1 w.heap.size vs vd vr o) (hb : Below w.heap.size w w1) (hB : B ≤ w.heap.size) : BoxO (w1.alloc (.cells #[vs, vd, vr] 27)) B w1.heap.size vs vd vr o :=
  ⟨Nat.le_trans hB hb.size, Blk.new w1 _ _, (h.keep (boxed w1 _)).base hB⟩
theorem outR_form {w : World} {B : Nat} {vs vd vr : Value} {o : Outc} (h : OutR w B vs vd vr o) : ∃ A1 c1 A2 c2 A3 c3, vs = .slice A1 o.sent.length c1 ∧ vd = .slice A2 o.deeds.length c2 ∧ vr = .slice A3 o.rows.length c3 := by
  obtain ⟨A1, c1, h1, _⟩ := h.sent.form
  obtain ⟨A2, c2, h2, _⟩ := h.deeds.form
  obtain ⟨A3, c3, h3⟩ := h.rows.form
  exact ⟨A1, c1, A2, c2, A3, c3, h1, h2, h3⟩
set_option maxHeartbeats 8000000 in
set_option maxRecDepth 100000 in
theorem topModes_walk (W0 : World) (hT : Tabs W0) (v : Value) (l : List Rw) (hl : RL W0 W0.heap.size v l) :
    Calls Tryz.prog 4 #[v] W0 fun e w' => e = .returned (.bool true) ∧ Below W0.heap.size W0 w' := by
  have HT := Lib.hid hT
  have HL := Lib.hid hl
  obtain ⟨A, cap, rfl, _⟩ := hl
  have hf := acts_fair (most := 60) (m := 4) (by decide) (by decide) l
  have hm := out_modes _ hf
  obtain ⟨o, ho⟩ : ∃ o, outM 1 4 (actsL 60 4 l) = o := ⟨_, rfl⟩
  rw [ho] at hm
  have HM := Lib.hid hm
  have HM1 := Lib.hid ho
  have HO := Lib.hid (fair_ok hf)
  have HN := Lib.hid (Nat.le_trans (acts_len 60 4 l) (show 60 ≤ 300 by decide))
  obtain ⟨N, hN⟩ : ∃ N, l.length = N := ⟨_, rfl⟩
  rw [hN] at HL ⊢
  clear hT hf hm ho hN
  go_enter Tryz.func4, Tryz.ntmps4
  go_wp2_with fail
  refine (acts_any _ _ l HL.out 60 4 (by decide) (by decide) (by decide) HT.out).mono ?_
  rintro e w1 ⟨r, rfl, own, b1⟩
  have HA := Lib.hid (own_acl own)
  obtain ⟨Ar, cr, rfl⟩ := own_slice own
  have B1 := Lib.hid b1
  obtain ⟨n, hn⟩ : ∃ n, (actsL 60 4 l).length = n := ⟨_, rfl⟩
  rw [hn] at HA ⊢
  clear own b1 hn
  go_wp2_with fail
  refine (played_top _ 1 4 _ _ (by decide) (by decide) (by decide) HA.out HN.out HO.out (HT.out.below B1.out)).mono ?_
  rintro e w2 ⟨vs, vd, vr, rfl, h2, b2⟩
  rw [HM1.out] at h2
  have X := Lib.hid (boxO_new h2 b2 B1.out.size)
  have HA2 := Lib.hid ((HA.out.below b2).more b2.size)
  have B2 := Lib.hid (below_step B1.out (Nat.le_refl _) b2)
  have bb := boxed w2 (.cells #[vs, vd, vr] 27)
  have HA3 := Lib.hid ((HA2.out.below bb).more bb.size)
  have B3 := Lib.hid (below_step B2.out (Nat.le_refl _) bb)
  obtain ⟨A1, c1, A2, c2, A3, c3, rfl, rfl, rfl⟩ := outR_form h2
  clear h2 b2 bb HA HA2 B1 B2
  obtain ⟨n1, hn1⟩ : ∃ n, o.sent.length = n := ⟨_, rfl⟩
  obtain ⟨n2, hn2⟩ : ∃ n, o.deeds.length = n := ⟨_, rfl⟩
  obtain ⟨n3, hn3⟩ : ∃ n, o.rows.length = n := ⟨_, rfl⟩
  rw [hn1, hn2, hn3] at X HA3 B3 ⊢
  obtain ⟨q, hq⟩ : ∃ q, w2.heap.size = q := ⟨_, rfl⟩
  rw [hq] at X
  go_upto_region 3 with fail
  generalize World.alloc _ _ = w3 at X HA3 B3 ⊢
  clear hq
  go_wp2_with fail
  refine (played_top _ 2 4 _ _ (by decide) (by decide) (by decide) HA3.out HN.out HO.out (HT.out.below B3.out)).mono ?_
  rintro e w4 ⟨us, ud, ur, rfl, h4, b4⟩
  rw [← HM.out] at h4
  have Y := Lib.hid (boxO_new h4 b4 B3.out.size)
  have X4 := Lib.hid (X.out.keep b4)
  have B4 := Lib.hid (below_step B3.out (Nat.le_refl _) b4)
  obtain ⟨E1, d1, E2, d2, E3, d3, rfl, rfl, rfl⟩ := outR_form h4
  rw [hn1, hn2, hn3] at Y ⊢
  have bb := boxed w4 (.cells #[.slice E1 n1 d1, .slice E2 n2 d2, .slice E3 n3 d3] 27)
  have X5 := Lib.hid (X4.out.keep bb)
  have B5 := Lib.hid (below_step B4.out (Nat.le_refl _) bb)
  clear h4 b4 X X4 B3 B4 bb HA3
  obtain ⟨q', hq⟩ : ∃ q, w4.heap.size = q := ⟨_, rfl⟩
  rw [hq] at Y
  go_upto_region 4 with fail
  generalize World.alloc _ _ = w5 at X5 Y B5 ⊢
  clear hq
  have x0 := X5.out.blk.cell_ 0 _ rfl
  have x1 := X5.out.blk.cell_ 1 _ rfl
  have x2 := X5.out.blk.cell_ 2 _ rfl
  have y0 := Y.out.blk.cell_ 0 _ rfl
  have y1 := Y.out.blk.cell_ 1 _ rfl
  have y2 := Y.out.blk.cell_ 2 _ rfl
  go_wp2_with fail
  refine (same_top w5 W0.heap.size _ _ _ _ _ _ o X5.out.out Y.out.out).mono ?_
  rintro e w6 ⟨rfl, b6⟩
  have B6 := Lib.hid (below_step B5.out (Nat.le_refl _) b6)
  clear b6 x0 x1 x2 y0 y1 y2
  go_wp2_with fail
  go_ret
  exact ⟨rfl, B6.out⟩
end Go.Proofs.YtjbnfigpflambabGreatDoor
/- slices.ContainsFunc over deeds with TopLeak$1. -/
namespace Go.Proofs.YtjbnfigpflambabGreatDoor
open Go.ChangeShapes Go.WideShapes Go.ChangeAt Go.RowKit
def dAgg (d : De) : Value := .agg #[.int .i64 (d.c : Int), .int .i64 d.x.k, .string d.x.key, .string d.x.val, .int .i64 d.a.kind, .string d.a.text, .int .i64 d.a.st]
def cloD (q : Nat) : Value := .func (.func 9) #[] #[.pointer (some ⟨q, 0, none⟩)]
set_option maxHeartbeats 2000000 in
set_option maxRecDepth 100000 in
theorem idxd_any (w : World) (A : Option Addr) (n k : Nat) (l : List De) (q : Nat) (P : De → Bool) (hw : ∀ x ∈ l, P x = true ∨ P x = false) (h : Reads w w.heap.size 7 A n (deV l)) (hn : l.length = n) (hm : n ≤ maxLen)
    (hP : ∀ w' d, Below w.heap.size w w' → d ∈ l → Calls Tryz.prog 9 #[dAgg d, .pointer (some ⟨q, 0, none⟩)] w' fun e w'' => e = .returned (.bool (P d)) ∧ Below w'.heap.size w' w'') :
    Calls Tryz.prog 16 #[.slice A n k, cloD q] w fun e w' => ∃ r : Int, e = .returned (.int .i64 r) ∧ decide (0 ≤ r) = l.any P ∧ Below w.heap.size w w' := by
  have HR := Lib.hid h
  have HN := Lib.hid hn
  have HP := Lib.hid hP
  unfold maxLen at hm
  clear h hn hP hw
  unfold cloD
  go_enter Tryz.func16, Tryz.ntmps16
  go_wp2_with fail
  go_loopw [8] (fun i wx => ∃ m : Nat, m ≤ n ∧ i = .int .i64 m ∧ Below w.heap.size w wx ∧ Hid (∀ j (hj : j < l.length), j < m → P l[j] = false)) (fun i _ => n - (intOf i).toNat)
  case atStart => exact ⟨0, Nat.zero_le _, rfl, Below.refl _ _, Lib.hid (fun j _ hj => absurd hj (Nat.not_lt_zero _))⟩
  case round =>
    obtain ⟨m, hm', rfl, hb, HJ⟩ := hrel
    by_cases hlt : m < n
    · have g1 : (m : Int) < (n : Int) := by omega
      have g2 : (0 : Int) ≤ (m : Int) := by omega
      have hml : m < l.length := by rw [HN.out]; exact hlt
      have hr := HR.out
      rw [← HN.out] at hr
      obtain ⟨ad, hA, _, x⟩ := deed_at (hr.below hb) hml
      have hcall := fun w' hb' => HP.out w' l[m] hb' (List.getElem_mem hml)
      obtain ⟨d, hd⟩ : ∃ d, l[m] = d := ⟨_, rfl⟩
      rw [hd] at x hcall
      subst hA
      have HD := Lib.hid hd
      have HB := Lib.hid hb
      have HC := Lib.hid hcall
      have HM := Lib.hid hml
      obtain ⟨x0, x1, x2, x3, x4, x5, x6⟩ := x
      obtain ⟨b, hb'⟩ : ∃ b, P d = b := ⟨_, rfl⟩
      have HPB := Lib.hid hb'
      rw [hb'] at HC
      unfold dAgg at HC
      clear hb hcall hr hd hb'
      go_wp2_with fail
      refine (HC.out _ HB.out).mono ?_
      rintro e w1 ⟨rfl, b1⟩
      have HB1 := Lib.hid (below_step HB.out (Nat.le_refl _) b1)
      clear x0 x1 x2 x3 x4 x5 x6 b1 HC
      cases b
      · have HF := Lib.hid (show ∀ j (hj : j < l.length), j < m + 1 → P l[j] = false by
          intro j hj hjm
          rcases Nat.lt_succ_iff_lt_or_eq.1 hjm with h | h
          · exact HJ.out j hj h
          · subst h; rw [HD.out]; exact HPB.out)
        go_wp2_with fail
        go_roundw
        case rel => exact ⟨m + 1, by omega, by go_num, HB1.out, Lib.hid HF.out⟩
        case measure => simp [intOf]; omega
      · have HF := Lib.hid (show decide (0 ≤ (m : Int)) = l.any P by
          rw [show decide (0 ≤ (m : Int)) = true by simp]
          exact (List.any_eq_true.2 ⟨l[m]'HM.out, List.getElem_mem _, by rw [HD.out]; exact HPB.out⟩).symm)
        go_wp2_with fail
        go_ret
        exact ⟨_, rfl, HF.out, HB1.out⟩
    · have g1 : (n : Int) ≤ (m : Int) := by omega
      have HB := Lib.hid hb
      have HF := Lib.hid (show decide (0 ≤ (-1 : Int)) = l.any P by
        rw [show decide (0 ≤ (-1 : Int)) = false by decide]
        refine (List.any_eq_false.2 fun x hx => ?_).symm
        obtain ⟨j, hj, rfl⟩ := List.getElem_of_mem hx
        rw [HJ.out j hj (by rw [HN.out] at hj; omega)]
        decide)
      clear hb
      go_wp2_with fail
      go_ret
      exact ⟨_, rfl, HF.out, HB.out⟩
set_option maxRecDepth 100000 in
theorem contd_any (w : World) (A : Option Addr) (n k : Nat) (l : List De) (q : Nat) (P : De → Bool) (hw : ∀ x ∈ l, P x = true ∨ P x = false) (h : Reads w w.heap.size 7 A n (deV l)) (hn : l.length = n) (hm : n ≤ maxLen)
    (hP : ∀ w' d, Below w.heap.size w w' → d ∈ l → Calls Tryz.prog 9 #[dAgg d, .pointer (some ⟨q, 0, none⟩)] w' fun e w'' => e = .returned (.bool (P d)) ∧ Below w'.heap.size w' w'') :
    Calls Tryz.prog 8 #[.slice A n k, cloD q] w fun e w' => e = .returned (.bool (l.any P)) ∧ Below w.heap.size w w' := by
  have HI := Lib.hid (idxd_any w A n k l q P hw h hn hm hP)
  obtain ⟨b, hb⟩ : ∃ b, l.any P = b := ⟨_, rfl⟩
  rw [hb] at HI ⊢
  clear h hn hP hw hb
  unfold cloD at *
  go_enter Tryz.func8, Tryz.ntmps8
  go_wp2_with fail
  refine HI.out.mono ?_
  rintro e w1 ⟨r, rfl, hr, b1⟩
  have B1 := Lib.hid b1
  have HR := Lib.hid hr
  clear b1 hr
  go_wp2_with fail
  go_ret
  exact ⟨by rw [← HR.out]; rfl, B1.out⟩
end Go.Proofs.YtjbnfigpflambabGreatDoor
/- The walk of TopLeak: it returns true. -/
namespace Go.Proofs.YtjbnfigpflambabGreatDoor
open Go.ChangeShapes Go.WideShapes Go.ChangeAt Go.RowKit
def leakB (d x : De) : Bool := decide (x.c = d.c) && (decide (x.x.k = 9) && decide (x.x.key = d.x.key) && decide (x.x.val = d.a.text)) && decide (x.a.kind = 1)
theorem str_no {a b : ByteArray} (h : ¬ a = b) : (a.toList == b.toList) = false := by
  cases hh : (a.toList == b.toList) with
  | false => rfl
  | true => exact absurd (str_inj (by simpa using hh)) h
theorem int_beq (a b : Int) : (a == b) = decide (a = b) := by rw [Bool.eq_iff_iff]; simp
set_option maxHeartbeats 2000000 in
set_option maxRecDepth 100000 in
theorem leak_clo (w : World) (x d : De) (q : Nat) (h : DeAt w ⟨q, 0, none⟩ d) :
    Calls Tryz.prog 9 #[dAgg x, .pointer (some ⟨q, 0, none⟩)] w fun e w' => e = .returned (.bool (leakB d x)) ∧ Below w.heap.size w w' := by
  have lq : q < w.heap.size := World.block_lt_of_cell? w _ h.c
  obtain ⟨x0, x1, x2, x3, x4, x5, x6⟩ := h
  have B := Lib.hid (boxed w (.cells #[.int .i64 (x.c : Int), .int .i64 x.x.k, .string x.x.key, .string x.x.val, .int .i64 x.a.kind, .string x.a.text, .int .i64 x.a.st] 40))
  unfold dAgg leakB
  obtain ⟨c, ⟨k, key, val⟩, ⟨ak, at', as'⟩⟩ := x
  obtain ⟨dc, ⟨dk, dkey, dval⟩, ⟨dak, dat, das⟩⟩ := d
  simp only at x0 x1 x2 x3 x4 x5 x6 B ⊢
  by_cases hc : c = dc
  · subst hc
    by_cases hk : k = 9
    · subst hk
      by_cases hkey : key = dkey
      · subst hkey
        by_cases hval : val = dat
        · subst hval
          go_enter Tryz.func9, Tryz.ntmps9
          go_wp2_with fail
          go_ret
          exact ⟨by simp [int_beq], B.out⟩
        · have n1 := str_no hval
          go_enter Tryz.func9, Tryz.ntmps9
          go_wp2_with fail
          go_ret
          exact ⟨by simp [hval], B.out⟩
      · have n1 := str_no hkey
        go_enter Tryz.func9, Tryz.ntmps9
        go_wp2_with fail
        go_ret
        exact ⟨by simp [hkey], B.out⟩
    · have n1 : (k == 9) = false := by simpa using hk
      have n2 : ¬ k = 9 := hk
      go_enter Tryz.func9, Tryz.ntmps9
      go_wp2_with fail
      go_ret
      exact ⟨by simp [hk], B.out⟩
  · have n1 : ((c : Int) == (dc : Int)) = false := by simp; omega
    have n2 : ¬ (c : Int) = (dc : Int) := by omega
    go_enter Tryz.func9, Tryz.ntmps9
    go_wp2_with fail
    go_ret
    exact ⟨by simp [hc], B.out⟩
theorem DeAt.lt {w : World} {p : Addr} {x : De} (h : DeAt w p x) : p.block < w.heap.size := World.block_lt_of_cell? w _ h.c
/-- the first deeds -/
theorem reads_take {w : World} {B n i : Nat} {A : Option Addr} {l : List De} (h : Reads w B 7 A n (deV l)) (hi : i ≤ n) (hn : l.length = n) : Reads w B 7 A i (deV (l.take i)) := by
  have hl : (deV (l.take i)).length = i * 7 := by
    have : ∀ m : List De, (deV m).length = m.length * 7 := fun m => by
      induction m with
      | nil => rfl
      | cons a m ih =>
        show ((dV a) ++ deV m).length = _
        rw [List.length_append, ih, List.length_cons]
        show 7 + m.length * 7 = _
        omega
    rw [this, List.length_take]
    omega
  refine ⟨hl, fun h0 => ?_⟩
  obtain ⟨ad, hA, hB, hc⟩ := h.2 (by omega)
  refine ⟨ad, hA, hB, fun j u hu => hc j u ?_⟩
  have e : deV l = deV (l.take i) ++ deV (l.drop i) := by
    unfold deV
    rw [← List.flatMap_append, List.take_append_drop]
  rw [e, List.getElem?_append_left (List.getElem?_eq_some_iff.1 hu).1]
  exact hu
theorem deeds_reads {w : World} {B n cap : Nat} {vs vr : Value} {A : Option Addr} {o : Outc} (h : OutR w B vs (.slice A n cap) vr o) : Reads w w.heap.size 7 A o.deeds.length (deV o.deeds) := by
  obtain ⟨A', c', e, _, r⟩ := h.deeds.reads
  injection e with e1
  subst e1
  exact r
theorem leak_any {ds : List De} (h : Fair ds) {i : Nat} (hi : i < ds.length) (hk : ds[i].x.k = 6) (ha : ds[i].a.kind = 2) : (ds.take i).any (leakB ds[i]) = true := by
  obtain ⟨d, hd, h1, h2, h3, h4, h5⟩ := h (ds.take i) ds[i] (ds.drop (i + 1)) (by rw [List.getElem_cons_drop, List.take_append_drop]) hk ha
  refine List.any_eq_true.2 ⟨d, hd, ?_⟩
  unfold leakB
  simp [h1, h2, h3, h4, h5]
theorem out_fair (mode : Int) (n : Nat) (hn : n ≤ 8) (l : List Ac) (hl : ∀ a ∈ l, a.c.toNat < 6) : Fair (outM mode n l).deeds := by
  rw [out_house mode n hn l hl]
  exact (inv_all inv_leak start_leak mode n hn l hl).2
theorem setup_ok (m n : Int) : ∃ k : Nat, 1 + pick n 4 = (k : Int) ∧ 1 ≤ k ∧ k ≤ 4 ∧ setupE (1 + pick m 3) k = 0 := by
  have h1 := pick_bd m 3 (by decide)
  have h2 := pick_bd n 4 (by decide)
  refine ⟨(1 + pick n 4).toNat, by omega, by omega, by omega, ?_⟩
  unfold setupE
  rw [if_neg (by omega), if_neg (by omega)]
set_option maxHeartbeats 8000000 in
set_option maxRecDepth 100000 in
theorem topLeak_walk (W0 : World) (hT : Tabs W0) (v : Value) (l : List Rw) (hl : RL W0 W0.heap.size v l) (m : Int) (hm : (Lit.int .i64 m).wf = true) (n : Int) (hn : (Lit.int .i64 n).wf = true) :
    Calls Tryz.prog 3 #[v, .int .i64 m, .int .i64 n] W0 fun e w' => e = .returned (.bool true) ∧ Below W0.heap.size W0 w' := by
  have HT := Lib.hid hT
  have HL := Lib.hid hl
  have HM := Lib.hid hm
  have HN := Lib.hid hn
  obtain ⟨A, cap, rfl, _⟩ := hl
  have hf := acts_fair (most := 60) (m := 5) (by decide) (by decide) l
  obtain ⟨ns, hk, k1, k4, hs⟩ := setup_ok m n
  have hfair := out_fair (1 + pick m 3) ns (by omega) _ (fair_c (by decide) hf)
  obtain ⟨md, hmd⟩ : ∃ md, 1 + pick m 3 = md := ⟨_, rfl⟩
  rw [hmd] at hs hfair
  obtain ⟨o, ho⟩ : ∃ o, outM md ns (actsL 60 5 l) = o := ⟨_, rfl⟩
  rw [ho] at hfair
  have HO1 := Lib.hid ho
  have HF := Lib.hid hfair
  have HO := Lib.hid (fair_ok hf)
  have HLE := Lib.hid (Nat.le_trans (acts_len 60 5 l) (show 60 ≤ 300 by decide))
  have HK := Lib.hid hk
  have HMD := Lib.hid hmd
  have HS := Lib.hid (And.intro hs (And.intro k1 k4))
  obtain ⟨N, hN⟩ : ∃ N, l.length = N := ⟨_, rfl⟩
  rw [hN] at HL ⊢
  clear hT hf ho hN hm hn hk k1 k4 hs hfair hmd
  go_enter Tryz.func3, Tryz.ntmps3
  go_wp2_with fail
  refine (ksetup_any m n _ HM.out HN.out).mono ?_
  rintro e w1 ⟨rfl, b1⟩
  rw [HK.out, HMD.out]
  have B1 := Lib.hid b1
  clear b1
  go_wp2_with fail
  refine (acts_any _ _ l (HL.out.below B1.out |>.more B1.out.size) 60 5 (by decide) (by decide) (by decide) (HT.out.below B1.out)).mono ?_
  rintro e w2 ⟨r, rfl, own, b2⟩
  have HA := Lib.hid (own_acl own)
  obtain ⟨Ar, cr, rfl⟩ := own_slice own
  have B2 := Lib.hid (below_step B1.out (Nat.le_refl _) b2)
  obtain ⟨n', hn'⟩ : ∃ n, (actsL 60 5 l).length = n := ⟨_, rfl⟩
  rw [hn'] at HA ⊢
  clear own b2 hn' B1
  go_wp2_with fail
  refine (played_top _ md ns _ _ HS.out.1 HS.out.2.1 HS.out.2.2 HA.out HLE.out HO.out (HT.out.below B2.out)).mono ?_
  rintro e w3 ⟨vs, vd, vr, rfl, h3, b3⟩
  rw [HO1.out] at h3
  have X := Lib.hid (boxO_new h3 b3 B2.out.size)
  have B3 := Lib.hid (below_step B2.out (Nat.le_refl _) b3)
  have bb := boxed w3 (.cells #[vs, vd, vr] 27)
  have B4 := Lib.hid (below_step B3.out (Nat.le_refl _) bb)
  obtain ⟨A1, c1, A2, c2, A3, c3, rfl, rfl, rfl⟩ := outR_form h3
  clear h3 b3 bb HA B2 B3
  obtain ⟨n1, hn1⟩ : ∃ n, o.sent.length = n := ⟨_, rfl⟩
  obtain ⟨n2, hn2⟩ : ∃ n, o.deeds.length = n := ⟨_, rfl⟩
  obtain ⟨n3, hn3⟩ : ∃ n, o.rows.length = n := ⟨_, rfl⟩
  have HN2 := Lib.hid hn2
  rw [hn1, hn2, hn3] at X B4 ⊢
  obtain ⟨q, hq⟩ : ∃ q, w3.heap.size = q := ⟨_, rfl⟩
  rw [hq] at X
  go_upto_region 2 with fail
  generalize World.alloc _ _ = w4 at X B4 ⊢
  clear hq hn1 hn2 hn3
  have x1 := X.out.blk.cell_ 1 _ rfl
  go_wp2_with fail
  clear x1
  go_loopw [23] (fun i wx => ∃ k : Nat, k ≤ n2 ∧ i = .int .i64 k ∧ BoxO wx W0.heap.size q (.slice A1 n1 c1) (.slice A2 n2 c2) (.slice A3 n3 c3) o ∧ Below W0.heap.size W0 wx) (fun i _ => n2 - (intOf i).toNat)
  case atStart => exact ⟨0, Nat.zero_le _, rfl, X.out, B4.out⟩
  case round =>
    obtain ⟨k, hk, rfl, hX, hB⟩ := hrel
    have hmost := hX.out.deeds.most
    obtain ⟨A2', c2', e0, hle, rd⟩ := hX.out.deeds.reads
    injection e0 with e1 e2 e3
    subst e1 e3
    have hle : n2 ≤ c2 := by rw [← HN2.out]; exact hle
    have hm9 : n2 ≤ 9223372036854775807 := by have h := hmost; unfold maxLen at h; rw [HN2.out] at h; omega
    clear e2
    by_cases hlt : k < n2
    · have g1 : (k : Int) < (n2 : Int) := by omega
      have g2 : (0 : Int) ≤ (k : Int) := by omega
      have hkl : k < o.deeds.length := by rw [HN2.out]; exact hlt

      obtain ⟨ad, hA, hadB, x⟩ := deed_at rd hkl
      subst hA
      obtain ⟨d, hd⟩ : ∃ d, o.deeds[k] = d := ⟨_, rfl⟩
      have HL1 := Lib.hid (fun h1 h2 => leak_any HF.out hkl h1 h2)
      rw [hd] at x HL1
      have HX := Lib.hid hX
      have HB := Lib.hid hB
      have HMO := Lib.hid hmost
      obtain ⟨x0, x1, x2, x3, x4, x5, x6⟩ := x
      obtain ⟨dc, ⟨dk, dkey, dval⟩, ⟨dak, dat, das⟩⟩ := d
      simp only at x0 x1 x2 x3 x4 x5 x6
      clear hX hB hmost rd hd
      go_upto_region 5 with fail
      have Y := Lib.hid (show DeAt (wr.alloc (.cells #[.int .i64 (dc : Int), .int .i64 dk, .string dkey, .string dval, .int .i64 dak, .string dat, .int .i64 das] 40)) ⟨wr.heap.size, 0, none⟩ ⟨dc, ⟨dk, dkey, dval⟩, ⟨dak, dat, das⟩⟩ from by
        have y := Blk.new wr 40 #[.int .i64 (dc : Int), .int .i64 dk, .string dkey, .string dval, .int .i64 dak, .string dat, .int .i64 das]
        exact ⟨y.cell_ 0 _ rfl, y.cell_ 1 _ rfl, y.cell_ 2 _ rfl, y.cell_ 3 _ rfl, y.cell_ 4 _ rfl, y.cell_ 5 _ rfl, y.cell_ 6 _ rfl⟩)
      have bb := boxed wr (.cells #[.int .i64 (dc : Int), .int .i64 dk, .string dkey, .string dval, .int .i64 dak, .string dat, .int .i64 das] 40)
      have X2 := Lib.hid (HX.out.keep bb)
      have BB2 := Lib.hid (below_step HB.out (Nat.le_refl _) bb)
      obtain ⟨z, hz⟩ : ∃ z, wr.heap.size = z := ⟨_, rfl⟩
      rw [hz] at Y ⊢
      generalize World.alloc _ _ = w5 at Y X2 BB2 ⊢
      clear bb x0 x1 x2 x3 x4 x5 x6 HX HB hz hadB
      have y1 : w5.cell? ⟨z, 1, none⟩ = some (.int .i64 dk) := Y.out.k
      have y4 : w5.cell? ⟨z, 4, none⟩ = some (.int .i64 dak) := Y.out.kind
      by_cases hk6 : dk = 6
      · by_cases ha2 : dak = 2
        · subst hk6 ha2
          have HL2 := Lib.hid (HL1.out rfl rfl)
          have x1 := X2.out.blk.cell_ 1 _ rfl
          have g4 : (k : Int) ≤ (c2 : Int) := by omega
          have RD := Lib.hid (reads_take (deeds_reads X2.out.out) (show k ≤ o.deeds.length by omega) rfl)
          go_wp2_with fail
          refine (contd_any w5 _ k c2 (o.deeds.take k) z (leakB ⟨dc, ⟨6, dkey, dval⟩, ⟨2, dat, das⟩⟩) (fun x _ => by cases leakB ⟨dc, ⟨6, dkey, dval⟩, ⟨2, dat, das⟩⟩ x <;> simp) RD.out (by rw [List.length_take]; omega) (by have := HMO.out; omega) (fun w' x hb hx => leak_clo w' x _ z (Y.out.below (by exact Y.out.lt) hb))).mono ?_
          rintro e w6 ⟨rfl, b6⟩
          rw [HL2.out]
          have X6 := Lib.hid (X2.out.keep b6)
          have B6 := Lib.hid (below_step BB2.out (Nat.le_refl _) b6)
          clear b6 x1 y1 y4 RD X2 BB2
          go_wp2_with fail
          go_roundw
          case rel => exact ⟨k + 1, by omega, by go_num, X6.out, B6.out⟩
          case measure => simp [intOf]; omega
        · have n1 : (dak == 2) = false := by simpa using ha2
          have n2' : ¬ dak = 2 := ha2
          subst hk6
          go_wp2_with fail
          go_roundw
          case rel => exact ⟨k + 1, by omega, by go_num, X2.out, BB2.out⟩
          case measure => simp [intOf]; omega
      · have n1 : (dk == 6) = false := by simpa using hk6
        have n2' : ¬ dk = 6 := hk6
        go_wp2_with fail
        go_roundw
        case rel => exact ⟨k + 1, by omega, by go_num, X2.out, BB2.out⟩
        case measure => simp [intOf]; omega
    · have g1 : (n2 : Int) ≤ (k : Int) := by omega
      have HB := Lib.hid hB
      clear hB hX
      go_wp2_with fail
      go_ret
      exact ⟨rfl, HB.out⟩
end Go.Proofs.YtjbnfigpflambabGreatDoor
