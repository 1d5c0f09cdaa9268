/- Plain laws of memory: copy between rows of elements of several cells; a row with one element more in its midst; pairs with one more, as cells. -/
import Derived.Laws.CopyRow
import Derived.Laws.IdiomCopy
import Derived.Laws.AppendOwn
import Derived.Lib.AppendZerosOnto
import Derived.Lib.Overlaps
import Derived.Tactics
namespace Go.Proofs.YtjbnfigpflambabDoor

theorem wp_copy_run (w : World) {P : Program} {o : Oper} {a : Act} {K : Act → World → Prop} {Q : Exit → Act → World → Prop} (d s : Operand) (t t' : TypeId)
    (ho : o.op = .call { callee := .builtin .copy, args := #[d, s], argTypes := #[t, t'] }) (v u : Value) (hd : a.eval d = v) (hs : a.eval s = u) {v' : Value} {w' : World}
    (hr : (Builtin.copy_ #[t, t'] o.type #[v, u]).run P w = .ok v' w') (h : K (a.put o.dst v') w') : o.wp P a w K Q := by
  unfold Oper.wp execOp
  simp only [ho, resolve, invoke, builtin, Sem.run_bind, Sem.run_pure, Result.andThen_ok, List.map_toArray, List.map_cons, List.map_nil, hd, hs, hr]
  exact h
theorem wpList_copy_run (w : World) {P : Program} {ops : Array Oper} {rest : List Oper} {o : Oper} {a : Act} {Q : Exit → Act → World → Prop} (hgd : o.guard = none) (d s : Operand) (t t' : TypeId)
    (ho : o.op = .call { callee := .builtin .copy, args := #[d, s], argTypes := #[t, t'] }) (v u : Value) (hd : a.eval d = v) (hs : a.eval s = u) {v' : Value} {w' : World}
    (hr : (Builtin.copy_ #[t, t'] o.type #[v, u]).run P w = .ok v' w') (h : wpList P ops Q rest (a.put o.dst v') w') : wpList P ops Q (o :: rest) a w :=
  wpList_plain hgd fun _ hK => wp_copy_run w d s t t' ho v u hd hs hr (hK _ _ h)
theorem wp_append_run (w : World) {P : Program} {o : Oper} {a : Act} {K : Act → World → Prop} {Q : Exit → Act → World → Prop} (d s : Operand) (t t' : TypeId)
    (ho : o.op = .call { callee := .builtin .append, args := #[d, s], argTypes := #[t, t'] }) (v u : Value) (hd : a.eval d = v) (hs : a.eval s = u) {v' : Value} {w' : World}
    (hr : (Builtin.append_ #[t, t'] o.type #[v, u]).run P w = .ok v' w') (h : K (a.put o.dst v') w') : o.wp P a w K Q := by
  unfold Oper.wp execOp
  simp only [ho, resolve, invoke, builtin, Sem.run_bind, Sem.run_pure, Result.andThen_ok, List.map_toArray, List.map_cons, List.map_nil, hd, hs, hr]
  exact h
theorem wpList_append_run (w : World) {P : Program} {ops : Array Oper} {rest : List Oper} {o : Oper} {a : Act} {Q : Exit → Act → World → Prop} (hgd : o.guard = none) (d s : Operand) (t t' : TypeId)
    (ho : o.op = .call { callee := .builtin .append, args := #[d, s], argTypes := #[t, t'] }) (v u : Value) (hd : a.eval d = v) (hs : a.eval s = u) {v' : Value} {w' : World}
    (hr : (Builtin.append_ #[t, t'] o.type #[v, u]).run P w = .ok v' w') (h : wpList P ops Q rest (a.put o.dst v') w') : wpList P ops Q (o :: rest) a w :=
  wpList_plain hgd fun _ hK => wp_append_run w d s t t' ho v u hd hs hr (hK _ _ h)
theorem run_copy_rowN {P : Program} (w : World) (dT sT ty elem : TypeId) (g o dLen dCap : Nat) (a : Addr) (sLen sCap : Nat) (cur : Array Value) (t : TypeId) (cs : List Value) (k : Nat)
    (hu : P.underlying dT = some (.slice elem)) (hs : (P.info? elem).map (·.size) = some k)
    (hg : w.heap[g]? = some (.cells cur t (0, 0))) (hn : cs.length = Nat.min sLen dLen * k)
    (hsrc : ∀ j v, cs[j]? = some v → w.cell? (a.add j) = some v) (hfit : o + cs.length ≤ cur.size) (h1 : ∀ v ∈ cs, v.oneCell' = true) :
    (Builtin.copy_ #[dT, sT] ty #[.slice (some ⟨g, o, none⟩) dLen dCap, .slice (some a) sLen sCap]).run P w =
      .ok (goInt (Nat.min sLen dLen)) (w.setRow g (cur.toList.take o ++ cs ++ cur.toList.drop (o + cs.length)).toArray) := by
  have hl := run_loadCells_list (P := P) w a cs hsrc
  have hst := run_storeCells_at P g o t cs 0 cur w hg (by simpa using hfit) h1
  cases hq : P.info? elem with
  | none => simp [hq] at hs
  | some i =>
    have hi : i.size = k := by simpa [hq] using hs
    simp [Builtin.copy_, run_underlying hu, Builtin.lenOf, Builtin.firstCells, sizeOf, typeInfo, hq, hi, ← hn, hl, hst]
/-- a row is written: the world keeps its other blocks -/
theorem grown_setRow (w : World) (g : Nat) (cur : Array Value) : w.grownBy (w.setRow g cur) (some g) := by
  refine ⟨rfl, rfl, rfl, by simp [World.setRow], fun k hk hne => ?_⟩
  have : k ≠ g := fun e => hne (by rw [e])
  simp only [World.setRow, Array.getElem?_modify]
  rw [if_neg (fun e => this e.symm)]
/-- in place: what stands from 2 i on goes one element up, and the new one takes its place -/
theorem shift_list (X rest new : List Value) (i n : Nat) (hX : X.length = n * 2) (hi : i < n) (hnew : new.length = 2) (hr : 2 ≤ rest.length) :
    let cur := X ++ rest
    let cur1 := cur.take ((i + 1) * 2) ++ X.drop (i * 2) ++ cur.drop ((i + 1) * 2 + (X.drop (i * 2)).length)
    (cur1.take (i * 2) ++ new ++ cur1.drop (i * 2 + 2)).take ((n + 1) * 2) = X.take (i * 2) ++ new ++ X.drop (i * 2) := by
  intro cur cur1
  have e1 : (X.drop (i * 2)).length = n * 2 - i * 2 := by rw [List.length_drop, hX]
  have e2 : cur1.take (i * 2) = X.take (i * 2) := by
    show List.take (i * 2) (List.take ((i + 1) * 2) (X ++ rest) ++ X.drop (i * 2) ++ _) = _
    rw [List.append_assoc, List.take_append_of_le_length (by rw [List.length_take, List.length_append, hX]; omega), List.take_take, Nat.min_eq_left (by omega), List.take_append_of_le_length (by omega)]
  have e3 : cur1.drop (i * 2 + 2) = X.drop (i * 2) ++ cur.drop ((i + 1) * 2 + (X.drop (i * 2)).length) := by
    show List.drop (i * 2 + 2) (List.take ((i + 1) * 2) (X ++ rest) ++ X.drop (i * 2) ++ _) = _
    rw [List.append_assoc, List.drop_append_of_le_length (by rw [List.length_take, List.length_append, hX]; omega), List.drop_eq_nil_of_le (by rw [List.length_take]; omega), List.nil_append]
  rw [e2, e3, ← List.append_assoc, List.take_append_of_le_length (by simp only [List.length_append, List.length_take, hnew, e1, hX]; omega)]
  exact List.take_of_length_le (by simp only [List.length_append, List.length_take, hnew, e1, hX]; omega)
/-- in a new row -/
theorem grow_list (X Z new : List Value) (i n : Nat) (hX : X.length = n * 2) (hi : i < n) (hnew : new.length = 2) :
    let row := X.take (i * 2) ++ Z
    let row1 := row.take (i * 2) ++ new ++ row.drop (i * 2 + 2)
    (row1.take ((i + 1) * 2) ++ X.drop (i * 2) ++ row1.drop ((i + 1) * 2 + (X.drop (i * 2)).length)).take ((n + 1) * 2) = X.take (i * 2) ++ new ++ X.drop (i * 2) := by
  intro row row1
  have e1 : (X.drop (i * 2)).length = n * 2 - i * 2 := by rw [List.length_drop, hX]
  have e0 : (X.take (i * 2)).length = i * 2 := by rw [List.length_take, hX]; omega
  have e2 : row.take (i * 2) = X.take (i * 2) := by
    show List.take (i * 2) (X.take (i * 2) ++ Z) = _
    rw [List.take_append_of_le_length (by omega)]
    exact List.take_of_length_le (by omega)
  have e3 : row1.take ((i + 1) * 2) = X.take (i * 2) ++ new := by
    show List.take ((i + 1) * 2) (row.take (i * 2) ++ new ++ _) = _
    rw [e2, List.take_append_of_le_length (by rw [List.length_append, e0, hnew]; omega)]
    exact List.take_of_length_le (by rw [List.length_append, e0, hnew]; omega)
  rw [e3, List.take_append_of_le_length (by simp only [List.length_append, hnew, e1, e0]; omega)]
  exact List.take_of_length_le (by simp only [List.length_append, hnew, e1, e0]; omega)
end Go.Proofs.YtjbnfigpflambabDoor
