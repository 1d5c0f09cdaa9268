/- What a transaction leaves behind when it is rolled back or failed: its prepared statements. -/
import Derived.Test.YtjbnfigpflambabDoorWo
namespace Go.Proofs.YtjbnfigpflambabDoor

theorem se_setSes (W : Wo) (r : List Pr) {i : Nat} (hi : i < W.ses.length) (s : Se) : (⟨r, W.ses.set i s⟩ : Wo).se i = s := by
  have h := se_put (W := ⟨r, W.ses⟩) (i := i) hi s i
  rw [if_pos rfl] at h
  exact h
/-- a statement that neither commits nor rolls back, in a transaction -/
structure TxStep (V : Wo) (i : Nat) (V' : Wo) : Prop where
  rows : V'.rows = V.rows
  sav : (V'.se i).sav = (V.se i).sav
  st : (V'.se i).st = (V.se i).st
theorem TxStep.refl (V : Wo) (i : Nat) : TxStep V i V := ⟨rfl, rfl, rfl⟩
theorem TxStep.put_ (V : Wo) {i : Nat} (hi : i < V.ses.length) (s : Se) (h1 : s.sav = (V.se i).sav) (h2 : s.st = (V.se i).st) : TxStep V i (V.put i s) := by
  have h := se_put V hi s i
  rw [if_pos rfl] at h
  exact ⟨rfl, by rw [h]; exact h1, by rw [h]; exact h2⟩
theorem did1_tx (V : Wo) {i : Nat} (hi : i < V.ses.length) (hs : (V.se i).st = 1 ∨ (V.se i).st = 2) (x : St) (h2 : x.k ≠ 2) (h3 : x.k ≠ 3) : TxStep V i (did1 V i x).1 := by
  unfold did1
  by_cases hf : (V.se i).st = 2
  · rw [if_pos ⟨hf, h2, h3⟩]; exact .refl V i
  have h1 : (V.se i).st = 1 := by omega
  rw [if_neg (fun h => hf h.1)]
  split
  · have hk : x.k = 1 := by omega
    unfold transW
    rw [if_neg (by omega), if_pos hk]
    exact .refl V i
  split
  · unfold resetW
    rw [if_neg (by omega)]
    exact .refl V i
  split
  · exact .refl V i
  split
  · exact .refl V i
  split
  · unfold setW
    split
    · exact .refl V i
    · exact .put_ V hi _ rfl rfl
  split
  · unfold putW
    split
    · exact .refl V i
    split
    · exact .refl V i
    exact TxStep.put_ V hi _ rfl rfl
  split
  · unfold prepW
    split
    · exact .refl V i
    · exact .put_ V hi _ rfl rfl
  · exact .refl V i
theorem did_tx {V : Wo} (g : Good V) {i : Nat} (hi : i < V.ses.length) (hs : (V.se i).st = 1 ∨ (V.se i).st = 2) (x : St) (h2 : x.k ≠ 2) (h3 : x.k ≠ 3) : TxStep V i (did V i x).1 := by
  unfold did
  split
  · unfold execW
    split
    · exact .refl V i
    · split
      · exact .refl V i
      · rename_i t ht
        have hp := ((g.ses i hi).preOk ht).2
        exact did1_tx V hi hs _ (by omega) (by omega)
  · exact did1_tx V hi hs x h2 h3
theorem plain_ok (k : Int) (h1 : 1 ≤ k) (h2 : k < 6) : checkE ⟨k, ⟨#[]⟩, ⟨#[]⟩⟩ = 0 := by
  have e : isE ⟨#[]⟩ = true := by unfold isE; rw [ByteArray.toList_eq]; rfl
  unfold checkE plainE
  rw [if_neg (by simp; omega)]
  simp only []
  rw [if_neg (by omega), if_pos h2, e]
  rfl
/-- in a transaction that began in W -/
structure Tx (W V : Wo) (i : Nat) : Prop where
  good : Good V
  len : V.ses.length = W.ses.length
  hi : i < V.ses.length
  st : (V.se i).st = 1 ∨ (V.se i).st = 2
  rows : V.rows = W.rows
  sav : (V.se i).sav = (W.se i).set
theorem failSe_sav (s : Se) (a : An) : (failSe s a).sav = s.sav := by unfold failSe; split <;> rfl
theorem failSe_st (s : Se) (a : An) (h : s.st = 1 ∨ s.st = 2) : (failSe s a).st = 1 ∨ (failSe s a).st = 2 := by
  unfold failSe
  split
  · exact .inr rfl
  · exact h
theorem doW_se (V : Wo) {i : Nat} (hi : i < V.ses.length) (x : St) : (doW V i x).1.se i = failSe ((did V i x).1.se i) (did V i x).2 := by
  have hi1 : i < (did V i x).1.ses.length := by rw [(did_mine V i x).1]; exact hi
  show ((did V i x).1.put i _).se i = _
  rw [se_put _ hi1, if_pos rfl]
theorem Tx.step {W V : Wo} {i : Nat} (h : Tx W V i) {x : St} (hx : checkE x = 0) (h2 : x.k ≠ 2) (h3 : x.k ≠ 3) : Tx W (doW V i x).1 i := by
  have t := did_tx h.good h.hi h.st x h2 h3
  refine ⟨doW_good h.good h.hi hx, (doW_length V i x).trans h.len, by rw [doW_length]; exact h.hi, ?_, ?_, ?_⟩
  · rw [doW_se V h.hi]
    exact failSe_st _ _ (by rw [t.st]; exact h.st)
  · show (did V i x).1.rows = _
    rw [t.rows]; exact h.rows
  · rw [doW_se V h.hi, failSe_sav, t.sav]; exact h.sav
def stB : St := ⟨1, ⟨#[]⟩, ⟨#[]⟩⟩
def stC : St := ⟨2, ⟨#[]⟩, ⟨#[]⟩⟩
def stR : St := ⟨3, ⟨#[]⟩, ⟨#[]⟩⟩
def stF : St := ⟨5, ⟨#[]⟩, ⟨#[]⟩⟩
theorem Tx.begin_ {W : Wo} (g : Good W) {i : Nat} (hi : i < W.ses.length) (h0 : (W.se i).st = 0) : Tx W (doW W i stB).1 i ∧ (doW W i stB).2.kind = 1 := by
  have e : did W i stB = (W.put i ⟨1, (W.se i).set, (W.se i).pre, (W.se i).set, (W.se i).wri⟩, okA) := by
    unfold did did1 transW stB
    rw [if_neg (by decide), if_neg (by omega), if_pos (by decide), if_pos ⟨rfl, h0⟩]
  have hg := doW_good g hi (x := stB) (plain_ok 1 (by decide) (by decide))
  have hs := doW_se W hi stB
  rw [e, se_put W hi, if_pos rfl] at hs
  have hk : (doW W i stB).2.kind = 1 := by show (did W i stB).2.kind = 1; rw [e]; rfl
  refine ⟨⟨hg, doW_length W i stB, by rw [doW_length]; exact hi, ?_, ?_, ?_⟩, hk⟩
  · rw [hs]; exact .inl rfl
  · show (did W i stB).1.rows = _
    rw [e]; rfl
  · rw [hs]; rfl
/-- the end: rolled back, or committed where it has failed -/
theorem Tx.back {W V : Wo} {i : Nat} (h : Tx W V i) (x : St) (hx : x = stR ∨ x = stC ∧ (V.se i).st = 2) : (doW V i x).1.rows = W.rows ∧ ((doW V i x).1.se i).set = (W.se i).set ∧ (doW V i x).2.kind = 1 ∧ (doW V i x).2.st = 0 ∧ (doW V i x).1.ses.length = W.ses.length := by
  have hst := h.st
  have e : did V i x = (V.put i ⟨0, (V.se i).sav, (V.se i).pre, [], []⟩, okA) := by
    rcases hx with rfl | ⟨rfl, h2⟩
    · unfold did did1 transW stR
      rw [if_neg (by decide), if_neg (by simp), if_pos (by decide), if_neg (by simp), if_neg (by decide), if_neg (by omega)]
      unfold endW
      rw [if_neg (by simp)]
    · unfold did did1 transW stC
      rw [if_neg (by decide), if_neg (by simp), if_pos (by decide), if_neg (by simp), if_neg (by decide), if_neg (by omega)]
      unfold endW
      rw [if_neg (by simp; omega)]
  have hs := doW_se V h.hi x
  rw [e, se_put V h.hi, if_pos rfl] at hs
  have hf : failSe ⟨0, (V.se i).sav, (V.se i).pre, [], []⟩ okA = ⟨0, (V.se i).sav, (V.se i).pre, [], []⟩ := by unfold failSe; rw [if_neg (by unfold okA; simp)]
  rw [hf] at hs
  refine ⟨?_, ?_, ?_, ?_, (doW_length V i x).trans h.len⟩
  · show (did V i x).1.rows = _
    rw [e]; exact h.rows
  · rw [hs]; exact h.sav
  · show (did V i x).2.kind = 1
    rw [e]; rfl
  · rw [doW_state h.hi, hs]
theorem Tx.failed {W V : Wo} {i : Nat} (h : Tx W V i) : ((doW V i stF).1.se i).st = 2 := by
  rw [doW_se V h.hi]
  rcases h.st with h1 | h2
  · have e : did V i stF = (V, noA tAsked) := by
      unfold did did1 stF
      rw [if_neg (by decide), if_neg (by omega), if_neg (by decide), if_neg (by decide), if_neg (by decide), if_neg (by decide), if_neg (by decide), if_neg (by decide), if_neg (by decide)]
    rw [e]
    unfold failSe
    rw [if_pos ⟨rfl, h1⟩]
  · have e : did V i stF = (V, noA tFailed) := by
      unfold did did1 stF
      rw [if_neg (by decide), if_pos ⟨h2, by decide, by decide⟩]
    rw [e]
    unfold failSe
    rw [if_neg (fun h => by have h3 : (V.se i).st = 1 := h.2; omega)]
    exact h2
/-- a rollback leaves a session with no transaction -/
theorem idle_after {V : Wo} {i : Nat} (hi : i < V.ses.length) : ((doW V i stR).1.se i).st = 0 := by
  by_cases h0 : (V.se i).st = 0
  · have e : did V i stR = (V, noA tNoTx) := by
      unfold did did1 transW stR
      rw [if_neg (by decide), if_neg (by simp), if_pos (by decide), if_neg (by simp), if_neg (by decide), if_pos h0]
    rw [doW_se V hi, e]
    unfold failSe
    rw [if_neg (fun h => by have h3 : (V.se i).st = 1 := h.2; omega)]
    exact h0
  · have e : did V i stR = (V.put i ⟨0, (V.se i).sav, (V.se i).pre, [], []⟩, okA) := by
      unfold did did1 transW stR
      rw [if_neg (by decide), if_neg (by simp), if_pos (by decide), if_neg (by simp), if_neg (by decide), if_neg h0]
      unfold endW
      rw [if_neg (by simp)]
    rw [doW_se V hi, e, se_put V hi, if_pos rfl]
    unfold failSe
    rw [if_neg (by unfold okA; simp)]
def stZ : St := ⟨4, ⟨#[]⟩, ⟨#[]⟩⟩
/-- after rollback, reset and prep: the exec of what was prepared does what the statement does -/
theorem exec_same {W : Wo} {i : Nat} (hi : i < W.ses.length) (n t : ByteArray) (hk : (readS t).k ≠ 8) :
    let W3 := (doW (doW (doW W i stR).1 i stZ).1 i ⟨11, n, t⟩).1
    doW W3 i ⟨8, n, ⟨#[]⟩⟩ = doW W3 i (readS t) ∧ (W3.se i).st = 0 := by
  intro W3
  have l1 : i < (doW W i stR).1.ses.length := by rw [doW_length]; exact hi
  have l2 : i < (doW (doW W i stR).1 i stZ).1.ses.length := by rw [doW_length]; exact l1
  have h1 := idle_after (V := W) hi
  obtain ⟨W1, hW1⟩ : ∃ V, (doW W i stR).1 = V := ⟨_, rfl⟩
  have h2 : ((doW W1 i stZ).1.se i) = ⟨0, [], [], (W1.se i).sav, (W1.se i).wri⟩ := by
    rw [hW1] at h1 l1
    have e : did W1 i stZ = (W1.put i ⟨(W1.se i).st, [], [], (W1.se i).sav, (W1.se i).wri⟩, okA) := by
      unfold did did1 resetW stZ
      rw [if_neg (by decide), if_neg (by omega), if_neg (by decide), if_pos rfl, if_pos h1]
    rw [doW_se W1 l1, e, se_put W1 l1, if_pos rfl, h1]
    unfold failSe
    rw [if_neg (by unfold okA; simp)]
  obtain ⟨W2, hW2⟩ : ∃ V, (doW W1 i stZ).1 = V := ⟨_, rfl⟩
  have h3 : ((doW W2 i ⟨11, n, t⟩).1.se i) = ⟨0, [], [⟨n, t⟩], (W2.se i).sav, (W2.se i).wri⟩ := by
    rw [hW1, hW2] at l2
    rw [hW2] at h2
    have e0 : keepP (W2.se i).pre n t = some [⟨n, t⟩] := by
      rw [h2]
      unfold keepP
      rw [if_neg (fun h => by have := h.2; cases this)]
      rfl
    have e : did W2 i ⟨11, n, t⟩ = (W2.put i ⟨0, [], [⟨n, t⟩], (W2.se i).sav, (W2.se i).wri⟩, okA) := by
      unfold did did1 prepW
      rw [if_neg (by simp), if_neg (fun h => by have := h.1; rw [h2] at this; cases this), if_neg (by simp), if_neg (by simp), if_neg (by simp), if_neg (by simp), if_neg (by simp), if_neg (by simp), if_pos rfl]
      rw [e0]
      rw [h2]
    rw [doW_se W2 l2, e, se_put W2 l2, if_pos rfl]
    unfold failSe
    rw [if_neg (by unfold okA; simp)]
  have hW3 : W3 = (doW W2 i ⟨11, n, t⟩).1 := by rw [← hW2, ← hW1]
  rw [← hW3] at h3
  refine ⟨?_, by rw [h3]⟩
  have ed : did W3 i ⟨8, n, ⟨#[]⟩⟩ = did W3 i (readS t) := by
    have ea : atP (W3.se i).pre n = some t := by
      rw [h3]
      unfold atP
      simp
    unfold did
    rw [if_pos rfl, if_neg hk]
    unfold execW
    rw [if_neg (by rw [h3]; simp)]
    simp only [ea]
  unfold doW
  rw [ed]
end Go.Proofs.YtjbnfigpflambabDoor
