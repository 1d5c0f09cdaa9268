/- Plain laws, no program: all rows of a world, as the reference counts them. -/
import Derived.Test.YtjbnfigpflambabDoorWo
namespace Go.Proofs.YtjbnfigpflambabDoor

/-- the writes of a session, added to rows by their names -/
def addR (l m : List Pr) : List Pr := m.foldl (fun o p => plusP o p.k ⟨#[]⟩) l
/-- all rows: those that there are, and those that are written -/
def allR (W : Wo) : List Pr := W.ses.foldl (fun o s => addR o s.wri) W.rows
theorem addR_sorted : ∀ (m : List Pr) {l : List Pr}, Sorted l → Sorted (addR l m)
  | [], _, h => h
  | p :: m, _, h => addR_sorted m (plus_sorted h p.k ⟨#[]⟩)
theorem addR_keys : ∀ (m l : List Pr) (x : ByteArray), x ∈ (addR l m).map (·.k) ↔ x ∈ l.map (·.k) ∨ x ∈ m.map (·.k)
  | [], l, x => by simp [addR]
  | p :: m, l, x => by
    have h := addR_keys m (plusP l p.k ⟨#[]⟩) x
    have e : addR l (p :: m) = addR (plusP l p.k ⟨#[]⟩) m := rfl
    rw [e, h, plus_keys, List.map_cons, List.mem_cons]
    constructor
    · rintro ((h | h) | h)
      · exact .inr (.inl h)
      · exact .inl h
      · exact .inr (.inr h)
    · rintro (h | h | h)
      · exact .inl (.inr h)
      · exact .inl (.inl h)
      · exact .inr h
theorem addR_len : ∀ (m l : List Pr), Sorted l → (addR l m).length ≤ l.length + m.length
  | [], l, _ => by simp [addR]
  | p :: m, l, h => by
    have h1 := addR_len m _ (plus_sorted h p.k ⟨#[]⟩)
    have e : addR l (p :: m) = addR (plusP l p.k ⟨#[]⟩) m := rfl
    have h2 := plus_length l p.k ⟨#[]⟩ h
    rw [e]
    simp only [List.length_cons]
    split at h2 <;> omega
def allS (l : List Pr) (ss : List Se) : List Pr := ss.foldl (fun o s => addR o s.wri) l
theorem allS_sorted : ∀ (ss : List Se) {l : List Pr}, Sorted l → Sorted (allS l ss)
  | [], _, h => h
  | s :: ss, _, h => allS_sorted ss (addR_sorted s.wri h)
theorem allS_keys : ∀ (ss : List Se) (l : List Pr) (x : ByteArray), x ∈ (allS l ss).map (·.k) ↔ x ∈ l.map (·.k) ∨ x ∈ ss.flatMap fun s => s.wri.map (·.k)
  | [], l, x => by simp [allS]
  | s :: ss, l, x => by
    have e : allS l (s :: ss) = allS (addR l s.wri) ss := rfl
    rw [e, allS_keys ss, addR_keys, List.flatMap_cons, List.mem_append, or_assoc]
theorem allS_len : ∀ (ss : List Se) (l : List Pr) (m : Nat), Sorted l → (∀ s ∈ ss, s.wri.length ≤ m) → (allS l ss).length ≤ l.length + ss.length * m
  | [], l, m, _, _ => by simp [allS]
  | s :: ss, l, m, h, hm => by
    have e : allS l (s :: ss) = allS (addR l s.wri) ss := rfl
    have h1 := allS_len ss _ m (addR_sorted s.wri h) fun t ht => hm t (List.mem_cons_of_mem _ ht)
    have h2 := addR_len s.wri l h
    have h3 := hm s List.mem_cons_self
    rw [e, List.length_cons, Nat.succ_mul]
    omega
theorem allS_take (l : List Pr) (ss : List Se) {k : Nat} (hk : k < ss.length) : allS l (ss.take (k + 1)) = addR (allS l (ss.take k)) ss[k].wri := by
  unfold allS
  rw [List.take_succ_eq_append_getElem hk, List.foldl_append]
  rfl
theorem addR_take (l m : List Pr) {k : Nat} (hk : k < m.length) : addR l (m.take (k + 1)) = plusP (addR l (m.take k)) m[k].k ⟨#[]⟩ := by
  unfold addR
  rw [List.take_succ_eq_append_getElem hk, List.foldl_append]
  rfl
theorem allR_sorted {W : Wo} (h : Sorted W.rows) : Sorted (allR W) := allS_sorted W.ses h
theorem allR_keys (W : Wo) (x : ByteArray) : x ∈ (allR W).map (·.k) ↔ x ∈ keysW W := by
  unfold keysW
  rw [List.mem_append]
  exact allS_keys W.ses W.rows x
theorem allR_card {W : Wo} (h : Sorted W.rows) : (allR W).length = card (keysW W) := by
  rw [← card_congr (allR_keys W), card_nodup (allR_sorted h).nodup, List.length_map]
theorem allR_has (W : Wo) (x : ByteArray) : hasK (allR W) x = true ↔ hasK W.rows x = true ∨ ∃ j, j < W.ses.length ∧ hasK (W.se j).wri x = true := by
  rw [hasK_iff, allR_keys, mem_keys]
/-- in a valid world, of a row that nobody else holds -/
theorem allR_mine {W : Wo} {i : Nat} (hi : i < W.ses.length) {k : ByteArray} (h : heldB W.ses i k = false) : hasK (allR W) k = (hasK W.rows k || hasK (W.se i).wri k) := by
  rw [Bool.eq_iff_iff, allR_has, Bool.or_eq_true]
  constructor
  · rintro (h1 | ⟨j, hj, h1⟩)
    · exact .inl h1
    · by_cases e : j = i
      · subst e; exact .inr h1
      · exfalso
        have : heldB W.ses i k = true := (held_iff _ _ _).2 ⟨j, hj, e, h1⟩
        rw [h] at this
        cases this
  · rintro (h1 | h1)
    · exact .inl h1
    · exact .inr ⟨i, hi, h1⟩
theorem full_iff {W : Wo} (g : Good W) {i : Nat} (hi : i < W.ses.length) {k : ByteArray} (h : heldB W.ses i k = false) : (hasK W.rows k = false ∧ hasK (W.se i).wri k = false ∧ card (keysW W) = 100) ↔ (hasK (allR W) k = false ∧ 100 ≤ (allR W).length) := by
  rw [allR_mine hi h, allR_card g.rowsS]
  have := g.room
  constructor
  · rintro ⟨a, b, c⟩
    exact ⟨by rw [a, b]; rfl, by omega⟩
  · rintro ⟨a, b⟩
    rw [Bool.or_eq_false_iff] at a
    exact ⟨a.1, a.2, by omega⟩
end Go.Proofs.YtjbnfigpflambabDoor
