/- What a row's list gives at the start of a call: the words' table; MaxLen by the world's shape. -/
import Derived.Test.YtjbnfigpflambabDoorTabs
import Derived.Deep.DeepHandedRow
import Derived.Test.YtjbnfigpflambabDoorShelf
namespace Go.Proofs.YtjbnfigpflambabDoor
open Go.ChangeShapes Go.WideShapes Go.ChangeAt Go.RowKit

/-- an array of strings that reads as a table holds the table's strings -/
theorem cells_of_strs {H : Type} {enc : TypeId × Value → H} {P : Program} {w : World} {base : Nat} {sp : Nat → Bool} {held : Bool} {fuel : Nat} {t e : TypeId} {n : Nat} {cs : List Value} {zs : List (List UInt8)} {p : List MemPlace}
    (ht : P.underlying t = some (.array n e)) (he : P.underlying e = some .string) (hce : P.cellsOf e = 1) (hct : P.cellsOf t = n)
    (h : DataW.trod enc P w base sp held fuel t cs = some (.agg (zs.map fun z => (DataW.lit (Lit.string z) : DataW H)), p)) : ∀ (i : Nat) (z : List UInt8), zs[i]? = some z → cs[i]? = some (Value.string ⟨z.toArray⟩) := by
  cases fuel with
  | zero => simp [DataW.trod] at h
  | succ fuel =>
    simp only [DataW.trod, ht, hce, hct, Nat.mul_one] at h
    split at h
    · rename_i hl
      obtain ⟨xs, hm, hx⟩ := Option.map_eq_some_iff.1 h
      have hxs : xs.map (·.1) = zs.map fun z => (DataW.lit (.string z) : DataW H) := by
        have := congrArg Prod.fst hx
        simpa using this
      have hxl : xs.length = n := by simpa using Lib.mapM_length hm
      have hzl : zs.length = n := by
        have := congrArg List.length hxs
        simp at this
        omega
      intro i z hz
      have hi : i < n := by rw [← hzl]; exact (List.getElem?_eq_some_iff.1 hz).1
      obtain ⟨b, hb, hf⟩ := Lib.mapM_at hm i i (by simp [hi])
      obtain ⟨s, hc, rfl, _⟩ := DataW.trod_string he hf
      have h1 : cs[i]? = some (.string s) := by
        have := congrArg (·[0]?) hc
        simpa [List.getElem?_take, List.getElem?_drop] using this
      have h2 : (xs.map (·.1))[i]? = some (DataW.lit (.string s.data.toList) : DataW H) := by simp [hb]
      rw [hxs] at h2
      simp only [List.getElem?_map, hz, Option.map_some, Option.some.injEq, DataW.lit.injEq, Lit.string.injEq] at h2
      rw [h1, h2]
    · cases h
theorem typeWords : (Tryd.prog.globals[0]?).map (·.type) = some 69 := by kernel_rfl
theorem cellsWords : Tryd.prog.cellsOf 69 = 12 := by kernel_rfl
theorem cellsString : Tryd.prog.cellsOf 9 = 1 := by kernel_rfl
def words12 : List (List UInt8) := [] :: wordsL.map fun w => w.data.toList
/-- the words' table as the list's second variable -/
theorem words_of {W : World} {d0 : String × DataW Unit} {rest : List (String × DataW Unit)} (h : laidMet Tryd.prog (d0 :: ("tillerman/say.words", .agg (words12.map fun z => DataW.lit (Lit.string z))) :: rest) W) :
    ∀ i, i < 11 → W.cell? ⟨0, 1 + i, none⟩ = some (.string (wordsL.getD i ByteArray.empty)) := by
  obtain ⟨ps, ⟨_, _, _, _, _, _, _, _, _, _, ⟨g', t', cs, fuel, p, q, hg', ht', hvar, hd, _, _⟩, _⟩, _⟩ := h
  obtain rfl := Option.some.inj (gWords.symm.trans hg')
  obtain rfl := Option.some.inj (typeWords.symm.trans ht')
  have hc := cells_of_strs Tryd.underlying69 Tryd.underlying9 cellsString cellsWords hd
  intro i hi
  have h1 := World.var?_cell gWords hvar (1 + i)
  rw [h1]
  have hz : words12[1 + i]? = some (wordsL.getD i ByteArray.empty).data.toList := by
    have hl : i < wordsL.length := hi
    rw [Nat.add_comm]
    simp [words12, List.getD, hl]
  have h2 := hc (1 + i) _ hz
  simpa using h2
/-- a listed variable's facts -/
theorem laid_mem {w : World} : ∀ {l : List (String × DataW Unit)} {ps : List MemPlace}, DataW.LaidVars Tryd.prog w l ps → ∀ {i : Nat} {n : String} {d : DataW Unit}, l[i]? = some (n, d) →
    ∃ g t cs fuel p, Tryd.prog.globalNamed n = some g ∧ (Tryd.prog.globals[g]?).map (·.type) = some t ∧ w.var? Tryd.prog n = some cs ∧ DataW.trod (fun _ => ()) Tryd.prog w 0 (fun _ => true) false fuel t cs.toList = some (d, p)
  | [], ps, _, i, n, d, hi => by simp at hi
  | (m, e) :: r, ps, h, i, n, d, hi => by
    obtain ⟨g, t, cs, fuel, p, q, h1, h2, h3, h4, h5, -⟩ := h
    cases i with
    | zero =>
      have hi2 : (m, e) = (n, d) := by simpa using hi
      obtain ⟨rfl, rfl⟩ := Prod.mk.inj hi2
      exact ⟨g, t, cs, fuel, p, h1, h2, h3, h4⟩
    | succ i => exact laid_mem h5 (by simpa using hi)
/-- the words' table wherever it stands in the list -/
theorem words_in {W : World} {l : List (String × DataW Unit)} (k : Nat) (h : laidMet Tryd.prog l W) (hk : l[k]? = some ("tillerman/say.words", .agg (words12.map fun z => DataW.lit (Lit.string z)))) :
    ∀ i, i < 11 → W.cell? ⟨0, 1 + i, none⟩ = some (.string (wordsL.getD i ByteArray.empty)) := by
  obtain ⟨ps, hv, -⟩ := h
  obtain ⟨g', t', cs, fuel, p, hg', ht', hvar, hd⟩ := laid_mem hv hk
  obtain rfl := Option.some.inj (gWords.symm.trans hg')
  obtain rfl := Option.some.inj (typeWords.symm.trans ht')
  have hc := cells_of_strs Tryd.underlying69 Tryd.underlying9 cellsString cellsWords hd
  intro i hi
  have h1 := World.var?_cell gWords hvar (1 + i)
  rw [h1]
  have hz : words12[1 + i]? = some (wordsL.getD i ByteArray.empty).data.toList := by
    have hl : i < wordsL.length := hi
    rw [Nat.add_comm]
    simp [words12, List.getD, hl]
  have h2 := hc (1 + i) _ hz
  simpa using h2
theorem maxLen_of {W : World} (h : W.ShapedOpen Tryd.prog) : ∃ m, W.cell? ⟨1, 0, none⟩ = some (.int .i64 m) :=
  Tryd.laysM143.s1_3 W h
/-- the tables, out of a row's list and the world's shape -/
theorem tabs_of {W : World} {d0 : String × DataW Unit} {rest : List (String × DataW Unit)} (h : laidMet Tryd.prog (d0 :: ("tillerman/say.words", .agg (words12.map fun z => DataW.lit (Lit.string z))) :: rest) W) (hs : W.ShapedOpen Tryd.prog) : Tabs W :=
  ⟨words_of h, maxLen_of hs⟩
theorem tabs_in {W : World} {l : List (String × DataW Unit)} (k : Nat) (h : laidMet Tryd.prog l W) (hk : l[k]? = some ("tillerman/say.words", .agg (words12.map fun z => DataW.lit (Lit.string z)))) (hs : W.ShapedOpen Tryd.prog) : Tabs W :=
  ⟨words_in k h hk, maxLen_of hs⟩
/-- a datum's cells -/
def flatN : Nat → DataW Unit → List Value
  | 0, _ => []
  | _ + 1, .lit (.int k n) => [.int k n]
  | _ + 1, .lit (.string b) => [.string ⟨b.toArray⟩]
  | f + 1, .agg ps => ps.flatMap (flatN f)
  | _ + 1, _ => []
def putObj (d : DataW Unit) : Obj → Obj
  | .cells _ t frozen => .cells (flatN 4 d).toArray t frozen
  | o => o
noncomputable def putTab (h : Array Obj) (x : String × DataW Unit) : Array Obj :=
  match Tryd.prog.globalNamed x.1 with
  | some g => h.modify g (putObj x.2)
  | none => h
/-- a world whose listed variables hold what the list says -/
noncomputable def listWorld (laid : List (String × DataW Unit)) (os : Os) : World :=
  { World.holding Tryd.prog os ⟨#[], #[], []⟩ with heap := laid.foldl putTab (World.holding Tryd.prog os ⟨#[], #[], []⟩).heap }
end Go.Proofs.YtjbnfigpflambabDoor
