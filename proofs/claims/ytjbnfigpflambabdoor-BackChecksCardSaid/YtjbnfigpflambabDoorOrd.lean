/- A region that draws its order, with loads ahead of calls and stores behind both: the loads may be taken first although a store turns what they read, where every such store waits for them. -/
import Derived.Test.YtjbnfigpflambabDoorBase
import Derived.OrdersHeld
import Derived.Deep.RegionHeld3
namespace Go.Proofs.YtjbnfigpflambabDoor
open Go.RowKit

section
variable {P : Program} {ops : Array Oper} {Q : Exit → Act → World → Prop} {md : Region.Mode} {S : World → Prop} {late : List Nat}

/-- Any order from here on; S is owed behind each operation that does not stand in 'late'. -/
def anyL (P : Program) (md : Region.Mode) (ops : Array Oper) (Q : Exit → Act → World → Prop) (S : World → Prop) (late : List Nat) : Nat → Array Bool → Act → World → Prop
  | 0, done, a, w => Region.ready md ops done = [] ∧ Q .normal a w
  | n + 1, done, a, w => (Region.ready md ops done = [] → Q .normal a w) ∧
      ∀ j, j ∈ Region.ready md ops done → wpOp P ops Q j (fun b u => (j ∉ late → S u) ∧ anyL P md ops Q S late n (done.setIfInBounds j true) b u) a w
theorem anyL_any (n : Nat) : ∀ (done : Array Bool) (a : Act) (w : World), anyL P md ops Q S late n done a w → wpAny P md ops Q n done a w := by
  induction n with
  | zero => exact fun _ _ _ h => h
  | succ n ih => exact fun done a w h => ⟨h.1, fun j hj => wpOp_mono (fun b u hb => ih _ b u hb.2) (h.2 j hj)⟩
/-- every operation of 'late' waits for operation i -/
def waits (md : Region.Mode) (ops : Array Oper) (late : List Nat) (i : Nat) : Bool :=
  late.all fun j => match ops[j]? with
    | some o => o.after.any fun e => Region.binds md e && (e.on == i)
    | none => false
theorem waits_edge {i : Nat} (h : waits md ops late i = true) {j : Nat} (hj : j ∈ late) {o : Oper} (ho : ops[j]? = some o) : ∃ e ∈ o.after, Region.binds md e = true ∧ e.on = i := by
  unfold waits at h
  have := List.all_eq_true.1 h j hj
  rw [ho] at this
  simp only [Array.any_eq_true, Bool.and_eq_true, beq_iff_eq] at this
  obtain ⟨k, hk, h1, h2⟩ := this
  exact ⟨_, Array.getElem_mem hk, h1, h2⟩
theorem open_of_ready {i : Nat} {done : Array Bool} (h : i ∈ Region.ready md ops done) : done.getD i false = false := by
  have h0 := (mem_ready.1 h).1
  rcases Nat.lt_or_ge i done.size with hlt | hge
  · simp [hlt] at h0 ⊢
    exact h0
  · simp [Array.getElem?_eq_none hge]
/-- what does not wait for i, and may come up while i is open, is not in 'late' -/
theorem not_late {i j : Nat} {done : Array Bool} (hw : waits md ops late i = true) (hi : i ∈ Region.ready md ops done) (hj : j ∈ Region.ready md ops done) : j ∉ late := by
  intro hl
  obtain ⟨_, o, ho, hall⟩ := mem_ready.1 hj
  obtain ⟨e, he, hb, hei⟩ := waits_edge hw hl ho
  have h1 := hall e he hb
  rw [hei, open_of_ready hi] at h1
  cases h1
theorem anyL_first {i : Nat} {o : Oper} {v : Value} (ho : ops[i]? = some o) (hs : ∀ (j : Nat) (q : Oper) cs b, ops[j]? = some q → q.op ≠ .select cs b)
    (hQ : ∀ c a w, Q (.panic c) (a.put o.dst v) w → Q (.panic c) a w) (hw : waits md ops late i = true) (n : Nat) :
    ∀ (done : Array Bool) (a : Act) (w : World),
      (∀ j q, ops[j]? = some q → j ≠ i → done.getD j true = false → (∀ e ∈ q.after, Region.binds md e = true → e.on ≠ i) → o.apart ops q = true) →
      i ∈ Region.ready md ops done → YieldsIf P ops S o v a → S w →
      anyL P md ops Q S late n (done.setIfInBounds i true) (a.put o.dst v) w → anyL P md ops Q S late (n + 1) done a w := by
  induction n with
  | zero =>
    intro done a w _ hi hy hS h
    refine ⟨fun e => (by rw [e] at hi; cases hi), fun j hj => ?_⟩
    rcases Nat.decEq j i with hne | rfl
    · have hm := ready_mono hj hne
      rw [h.1] at hm
      cases hm
    · exact hy.wpOp ho hS ⟨fun _ => hS, h⟩
  | succ n ih =>
    intro done a w hf hi hy hS h
    refine ⟨fun e => (by rw [e] at hi; cases hi), fun j hj => ?_⟩
    rcases Nat.decEq j i with hne | rfl
    · obtain ⟨hun, q, hq, hall⟩ := mem_ready.1 hj
      have hno : ∀ e ∈ q.after, Region.binds md e = true → e.on ≠ i := by
        intro e he hb hei
        have h1 := hall e he hb
        rw [hei, open_of_ready hi] at h1
        cases h1
      have hstep := wpOp_putIf (S := S) hq (hf j q hq hne hun hno) (fun cs b => hs i o cs b ho) (fun cs b => hs j q cs b hq) hQ hy (h.2 j (ready_mono hj hne))
      refine wpOp_mono (fun b u ⟨hy', hSu, hrest⟩ => ⟨hSu, ?_⟩) hstep
      refine ih (done.setIfInBounds j true) b u (fun k r hr hki hk => ?_) (ready_mono hi (Ne.symm hne)) hy' (hSu (not_late hw hi hj)) ?_
      · refine hf k r hr hki ?_
        rcases Nat.decEq j k with hjk | rfl
        · rwa [getD_set_ne true hjk] at hk
        · exact hun
      · rw [Array.setIfInBounds_comm _ _ hne]
        exact hrest
    · exact hy.wpOp ho hS ⟨fun _ => hS, h⟩
/-- what yields in any world may be taken first, if nothing is asked behind it -/
theorem anyL_free {i : Nat} {o : Oper} {v : Value} (ho : ops[i]? = some o) (hs : ∀ (j : Nat) (q : Oper) cs b, ops[j]? = some q → q.op ≠ .select cs b)
    (hQ : ∀ c a w, Q (.panic c) (a.put o.dst v) w → Q (.panic c) a w) (hl : i ∈ late) (n : Nat) :
    ∀ (done : Array Bool) (a : Act) (w : World),
      (∀ j q, ops[j]? = some q → j ≠ i → done.getD j true = false → (∀ e ∈ q.after, Region.binds md e = true → e.on ≠ i) → o.apart ops q = true) →
      i ∈ Region.ready md ops done → YieldsIf P ops (fun _ => True) o v a →
      anyL P md ops Q S late n (done.setIfInBounds i true) (a.put o.dst v) w → anyL P md ops Q S late (n + 1) done a w := by
  induction n with
  | zero =>
    intro done a w _ hi hy h
    refine ⟨fun e => (by rw [e] at hi; cases hi), fun j hj => ?_⟩
    rcases Nat.decEq j i with hne | rfl
    · have hm := ready_mono hj hne
      rw [h.1] at hm
      cases hm
    · exact hy.wpOp ho trivial ⟨fun hn => absurd hl hn, h⟩
  | succ n ih =>
    intro done a w hf hi hy h
    refine ⟨fun e => (by rw [e] at hi; cases hi), fun j hj => ?_⟩
    rcases Nat.decEq j i with hne | rfl
    · obtain ⟨hun, q, hq, hall⟩ := mem_ready.1 hj
      have hno : ∀ e ∈ q.after, Region.binds md e = true → e.on ≠ i := by
        intro e he hb hei
        have h1 := hall e he hb
        rw [hei, open_of_ready hi] at h1
        cases h1
      have hstep := wpOp_putIf (S := fun _ => True) hq (hf j q hq hne hun hno) (fun cs b => hs i o cs b ho) (fun cs b => hs j q cs b hq) hQ hy (h.2 j (ready_mono hj hne))
      refine wpOp_mono (fun b u ⟨hy', hSu, hrest⟩ => ⟨hSu, ?_⟩) hstep
      refine ih (done.setIfInBounds j true) b u (fun k r hr hki hk => ?_) (ready_mono hi (Ne.symm hne)) hy' ?_
      · refine hf k r hr hki ?_
        rcases Nat.decEq j k with hjk | rfl
        · rwa [getD_set_ne true hjk] at hk
        · exact hun
      · rw [Array.setIfInBounds_comm _ _ hne]
        exact hrest
    · exact hy.wpOp ho trivial ⟨fun hn => absurd hl hn, h⟩
/-- operations that yield, taken one after the other: number, value -/
def Takes (P : Program) (ops : Array Oper) (S : World → Prop) : List (Nat × Value) → Act → Prop
  | [], _ => True
  | (i, v) :: l, a => (match ops[i]? with | some o => YieldsIf P ops S o v a ∧ Takes P ops S l (a.put o.dst v) | none => False)
def putAll (ops : Array Oper) : List (Nat × Value) → Act → Act
  | [], a => a
  | (i, v) :: l, a => putAll ops l (match ops[i]? with | some o => a.put o.dst v | none => a)
def doneAll : List (Nat × Value) → Array Bool → Array Bool
  | [], d => d
  | (i, _) :: l, d => doneAll l (d.setIfInBounds i true)
/-- may these come up first, each in its turn? -/
def takesB (md : Region.Mode) (ops : Array Oper) (late : List Nat) : List Nat → Array Bool → Bool
  | [], _ => true
  | i :: l, d => Region.free md ops d i && (Region.ready md ops d).contains i && waits md ops late i && takesB md ops late l (d.setIfInBounds i true)
theorem anyL_takes (hs : Region.noSelect ops = true) (hQ : ∀ c a d v w, Q (.panic c) (Act.put a d v) w → Q (.panic c) a w) : ∀ (l : List (Nat × Value)) (n : Nat) (done : Array Bool) (a : Act) (w : World),
    takesB md ops late (l.map (·.1)) done = true → Takes P ops S l a → S w → anyL P md ops Q S late n (doneAll l done) (putAll ops l a) w → anyL P md ops Q S late (n + l.length) done a w
  | [], _, _, _, _, _, _, _, h => h
  | (i, v) :: l, n, done, a, w, hb, ht, hS, h => by
    unfold Takes at ht
    simp only [List.map_cons, takesB, Bool.and_eq_true] at hb
    obtain ⟨⟨⟨h1, h2⟩, h3⟩, h4⟩ := hb
    cases ho : ops[i]? with
    | none => rw [ho] at ht; exact ht.elim
    | some o =>
      rw [ho] at ht
      obtain ⟨hy, ht⟩ := ht
      unfold putAll at h
      rw [ho] at h
      have := anyL_takes hs hQ l n (done.setIfInBounds i true) (a.put o.dst v) w h4 ht hS h
      exact anyL_first ho (Region.noSelect_spec hs) (fun c a w => hQ c a _ _ w) h3 (n + l.length) done a w (Region.free_spec ho h1) (by simpa using h2) hy hS this
theorem anyL_take (hs : Region.noSelect ops = true) (hQ : ∀ c a d v w, Q (.panic c) (Act.put a d v) w → Q (.panic c) a w) (l : List (Nat × Value)) (n : Nat) {N : Nat} {done : Array Bool} {a : Act} {w : World} (hN : N = n + l.length)
    (hb : takesB md ops late (l.map (·.1)) done = true) (ht : Takes P ops S l a) (hS : S w) (h : anyL P md ops Q S late n (doneAll l done) (putAll ops l a) w) : anyL P md ops Q S late N done a w := by
  subst hN
  exact anyL_takes hs hQ l n done a w hb ht hS h
def freeB (md : Region.Mode) (ops : Array Oper) (late : List Nat) : List Nat → Array Bool → Bool
  | [], _ => true
  | i :: l, d => Region.free md ops d i && (Region.ready md ops d).contains i && late.contains i && freeB md ops late l (d.setIfInBounds i true)
theorem anyL_frees (hs : Region.noSelect ops = true) (hQ : ∀ c a d v w, Q (.panic c) (Act.put a d v) w → Q (.panic c) a w) : ∀ (l : List (Nat × Value)) (n : Nat) (done : Array Bool) (a : Act) (w : World),
    freeB md ops late (l.map (·.1)) done = true → Takes P ops (fun _ => True) l a → anyL P md ops Q S late n (doneAll l done) (putAll ops l a) w → anyL P md ops Q S late (n + l.length) done a w
  | [], _, _, _, _, _, _, h => h
  | (i, v) :: l, n, done, a, w, hb, ht, h => by
    unfold Takes at ht
    simp only [List.map_cons, freeB, Bool.and_eq_true] at hb
    obtain ⟨⟨⟨h1, h2⟩, h3⟩, h4⟩ := hb
    cases ho : ops[i]? with
    | none => rw [ho] at ht; exact ht.elim
    | some o =>
      rw [ho] at ht
      obtain ⟨hy, ht⟩ := ht
      unfold putAll at h
      rw [ho] at h
      have := anyL_frees hs hQ l n (done.setIfInBounds i true) (a.put o.dst v) w h4 ht h
      exact anyL_free ho (Region.noSelect_spec hs) (fun c a w => hQ c a _ _ w) (by simpa using h3) (n + l.length) done a w (Region.free_spec ho h1) (by simpa using h2) hy this
theorem anyL_any_ (hs : Region.noSelect ops = true) (hQ : ∀ c a d v w, Q (.panic c) (Act.put a d v) w → Q (.panic c) a w) (l : List (Nat × Value)) (n : Nat) {N : Nat} {done : Array Bool} {a : Act} {w : World} (hN : N = n + l.length)
    (hb : freeB md ops late (l.map (·.1)) done = true) (ht : Takes P ops (fun _ => True) l a) (h : anyL P md ops Q S late n (doneAll l done) (putAll ops l a) w) : anyL P md ops Q S late N done a w := by
  subst hN
  exact anyL_frees hs hQ l n done a w hb ht h
/-- one operation that yields is taken first -/
theorem anyL_take1 {i : Nat} {v : Value} {o : Oper} {n : Nat} {done : Array Bool} {a : Act} {w : World} (ho : ops[i]? = some o) (hs : Region.noSelect ops = true) (hb : takesB md ops late [i] done = true)
    (hQ : ∀ c a w, Q (.panic c) (a.put o.dst v) w → Q (.panic c) a w) (hy : YieldsIf P ops S o v a) (hS : S w) (h : anyL P md ops Q S late n (done.setIfInBounds i true) (a.put o.dst v) w) : anyL P md ops Q S late (n + 1) done a w := by
  simp only [takesB, Bool.and_eq_true] at hb
  obtain ⟨⟨⟨h1, h2⟩, h3⟩, _⟩ := hb
  exact anyL_first ho (Region.noSelect_spec hs) hQ h3 n done a w (Region.free_spec ho h1) (by simpa using h2) hy hS h
/-- one operation alone may come up -/
theorem anyL_one {i : Nat} {o : Oper} {n : Nat} {done : Array Bool} {a : Act} {w : World} (hr : Region.ready md ops done = [i]) (ho : ops[i]? = some o)
    (h : ∀ K : Act → World → Prop, Shut (∀ b u, (i ∉ late → S u) → anyL P md ops Q S late n (done.setIfInBounds i true) b u → K b u) → if Region.wanted o (yielded ops a.tmps) = true then Oper.wp P o a w K Q else K (a.put o.dst undef) w) :
    anyL P md ops Q S late (n + 1) done a w := by
  refine ⟨fun e => (by rw [e] at hr; cases hr), fun j hj => ?_⟩
  rw [hr, List.mem_singleton] at hj
  subst hj
  exact wpOp_step ho fun K hK => h K fun b u h1 h2 => hK b u ⟨h1, h2⟩
theorem anyL_done {done : Array Bool} {a : Act} {w : World} (hr : Region.ready md ops done = []) (h : Q .normal a w) : ∀ n, anyL P md ops Q S late n done a w
  | 0 => ⟨hr, h⟩
  | _ + 1 => ⟨fun _ => h, by rw [hr]; simp⟩
theorem region_late {id : Nat} {a : Act} {w : World} (S : World → Prop) (late : List Nat) (hm : P.follows .mixedOrders = true) (h : anyL P .any ops Q S late ops.size (Array.replicate ops.size false) a w.drew) : (Code.region id ops true).wp P Q a w :=
  wp_region_any hm (anyL_any _ _ _ _ h)
end
end Go.Proofs.YtjbnfigpflambabDoor
