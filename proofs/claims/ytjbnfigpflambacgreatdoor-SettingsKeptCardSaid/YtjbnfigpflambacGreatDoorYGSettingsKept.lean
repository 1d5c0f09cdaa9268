/- SettingsKept: for every input the law returns true, and each argument reads afterwards as it read before. Its walk is settingsKept_walk; here the statement is closed. Conditions: none beyond the given statement's. -/
import Derived.Test.YtjbnfigpflambacGreatDoorRows
import Derived.Test.YtjbnfigpflambacGreatDoorProg
import Derived.Test.YtjbnfigpflambacGreatDoorCards
import Derived.Test.YtjbnfigpflambacGreatDoorTie
import Derived.Test.YtjbnfigpflambacGreatDoorG00
import Derived.Test.YtjbnfigpflambacGreatDoorG01
import Derived.Test.YtjbnfigpflambacGreatDoorG02
import Derived.Test.YtjbnfigpflambacGreatDoorG03
import Derived.Test.YtjbnfigpflambacGreatDoorG04
import Derived.Test.YtjbnfigpflambacGreatDoorG05
import Derived.Test.YtjbnfigpflambacGreatDoorG06
import Derived.Test.YtjbnfigpflambacGreatDoorG07
import Derived.Test.YtjbnfigpflambacGreatDoorG08
import Derived.Test.YtjbnfigpflambacGreatDoorG09
import Derived.Test.YtjbnfigpflambacGreatDoorG10
import Derived.Test.YtjbnfigpflambacGreatDoorG11
import Derived.Test.YtjbnfigpflambacGreatDoorG12
import Derived.Test.YtjbnfigpflambacGreatDoorG13
import Derived.Test.YtjbnfigpflambacGreatDoorG14
import Derived.Test.YtjbnfigpflambacGreatDoorG15
import Derived.Test.YtjbnfigpflambacGreatDoorG16
import Derived.Test.YtjbnfigpflambacGreatDoorG17
import Derived.Test.YtjbnfigpflambacGreatDoorG18
import Derived.Test.YtjbnfigpflambacGreatDoorG19
import Derived.Test.YtjbnfigpflambacGreatDoorG20
import Derived.Test.YtjbnfigpflambacGreatDoorG21
import Derived.Test.YtjbnfigpflambacGreatDoorG22
import Derived.Test.YtjbnfigpflambacGreatDoorG23
import Derived.Test.YtjbnfigpflambacGreatDoorG24
import Derived.Test.YtjbnfigpflambacGreatDoorG25
import Derived.Test.YtjbnfigpflambacGreatDoorG26
import Derived.Test.YtjbnfigpflambacGreatDoorG27
import Derived.Test.YtjbnfigpflambacGreatDoorG28
import Derived.Test.YtjbnfigpflambacGreatDoorG29
import Derived.Test.YtjbnfigpflambacGreatDoorG30
import Derived.Test.YtjbnfigpflambacGreatDoorG31
import Derived.Test.YtjbnfigpflambacGreatDoorG32
import Derived.Test.YtjbnfigpflambacGreatDoorG33
import Derived.Test.YtjbnfigpflambacGreatDoorG34
import Derived.Test.YtjbnfigpflambacGreatDoorG35
import Derived.Test.YtjbnfigpflambacGreatDoorG37
import Derived.Test.YtjbnfigpflambacGreatDoorG38
import Derived.Test.YtjbnfigpflambacGreatDoorG39
import Derived.Lib.Split
import Derived.Lib.SplitLaws
import Derived.Lib.SlicesS
import Derived.Lib.IndexBytes
import Derived.Lib.Bytealg
import GoSem.Op.String
import Derived.WalkKit
import Derived.ProofKit
import Derived.OpenShut
import Derived.Below
import Derived.Outline
import Derived.Lib.Hide
import Derived.ShutString
import Derived.ChangeOld
import Derived.Lib.SmallJoins
import Derived.Laws.OwnMore
import Derived.Deep.AppendLies
import Derived.Deep.Draws
import Derived.Laws.Rows
import Derived.Maps.AppendAt
import Derived.RegionTactic
import Derived.OwnWalk
import Derived.Deep.QuietTactic
import Derived.BigQuiet
import Derived.WalkSpells
import Derived.WalkLawsBesides
import Derived.Deep.RegionHeld3
import Derived.OrdersHeld
import Derived.Deep.DeepCutAuto
import Derived.Shelf.Strings.Builder1
import Derived.Shelf.Small.Strs
import Derived.Shelf.Strings.BuilderF
import Derived.Shelf.Strings.BuilderK
import Derived.Shelf.Strconv.Itoa0
import Derived.Shelf.Strconv.Itoa1
import Derived.Shelf.LaysM
import Derived.Shelf.Strconv.Itoa2
import Derived.Shelf.Strconv.Itoa3
import Derived.Shelf.Strings.Search1
import Derived.Shelf.Strings.Search2
import Derived.Shelf.Strings.Search3
import Derived.Shelf.Strings.Count
import Derived.Shelf.Strings.Shaped
import Derived.Shelf.Strings.Prefix
import Derived.Shelf.Strings.Split
import Derived.Shelf.Strings.SplitShaped
import Derived.Shelf.Bits.Mul64
import Derived.Shelf.Unicode.DecodeSlow
import Derived.Shelf.Strings.BuilderCap
import Derived.Shelf.Slices.Turned
import Derived.Shelf.Slices.Equal
import Derived.Shelf.Slices.Empties2
import Derived.Laws.CopyRow
import Derived.Laws.IdiomCopy
import Derived.Laws.AppendOwn
import Derived.Lib.AppendZerosOnto
import Derived.Lib.Overlaps
import Derived.Tactics
import Derived.Laws.Externs
import Derived.Lib.ConvBytes
import Derived.Lib.LaidTab
import Derived.Deep.DeepHandedRow
import Derived.Maps.Own
import Derived.Maps.OwnSet
import Derived.Maps.Views
import Derived.Maps.OwnOps
import Derived.Deep.Slices
import Derived.Deep.Fields
import Derived.ChangeSame
import Derived.SizedLaws
import Derived.Lib.IndexLaws
import Derived.Lib.AppendStr
import Derived.Laws.MakeOwn
import Derived.Deep.CutBlock
import Derived.Lib.Builder
import Derived.Lib.Walk
import Derived.Lib.UnsafeStr
import Derived.Lib.SliceRun
import Derived.Lib.ItoaNum
import Derived.SevenTiedAt
namespace Go.Proofs.YtjbnfigpflambacGreatDoor.settingsKeptDone
open Go.ChangeShapes Go.WideShapes Go.ChangeAt Go.RowKit Go.Proofs.YtjbnfigpflambacGreatDoor
open Go.ChangeMaps (open_string shut_string)

set_option linter.unusedVariables false in
set_option maxRecDepth 100000 in
theorem contract (H : Type) (enc : TypeId × Value → H) (W : World) (base : Nat) (args : Array Value) (ds gs : List (DataW H)) (before : List MemPlace)
    (hval : ∀ (j : Nat) t v, Tryz.f5.params[j]? = some t → args[j]? = some v → Value.okWide Tryz.prog W .any base t v)
    (hW : DataW.Whole enc Tryz.prog Tryz.f5.params.toList Rows.settingsKeptSpec.vars false W args.toList ds gs before)
    (hz : (DataW.weightsEach Tryz.prog (Tryz.f5.params.toList ++ []) (ds ++ gs)).all (· ≤ reachBytes) = true)
    (hL : laidMetH Tryz.prog Rows.settingsKeptRow.laid W) (hS : W.ShapedOpen Tryz.prog)
    :
    Calls Tryz.prog 5 args W fun e W' => ∃ v, e = .returned v ∧ Rows.settingsKeptSpec.post enc Tryz.prog Tryz.f5 false true false false W args v W' := by
  have hW' := hW
  obtain ⟨p, q, hA0, hV, rfl, hfz, hnd⟩ := hW
  have hA : DataW.TrodAll enc Tryz.prog W 0 (fun _ => true) true Tryz.f5.params.toList args.toList ds p := hA0
  rw [Tryz.params5] at hA hval hz
  obtain ⟨v0, vs0, d0, ds0, p0, q0, hargs, rfl, rfl, k0, r0⟩ := trodAll_cons hA
  obtain ⟨v1, vs1, d1, ds1, p1, q1, rfl, rfl, rfl, k1, r1⟩ := trodAll_cons r0
  obtain ⟨v2, vs2, d2, ds2, p2, q2, rfl, rfl, rfl, k2, r2⟩ := trodAll_cons r1
  obtain ⟨rfl, rfl, rfl⟩ := trodAll_nil r2
  obtain rfl : args = #[v0, v1, v2] := by cases args; simp_all
  obtain ⟨rfl, rfl⟩ := trodVars_none hV
  clear hA0
  have lt0 : ∀ x ∈ p0, x.block < W.heap.size := by obtain ⟨m, hm⟩ := k0; exact DataW.trod_lt m _ _ _ hm
  have lt1 : ∀ x ∈ p1, x.block < W.heap.size := by obtain ⟨m, hm⟩ := k1; exact DataW.trod_lt m _ _ _ hm
  have lt2 : ∀ x ∈ p2, x.block < W.heap.size := by obtain ⟨m, hm⟩ := k2; exact DataW.trod_lt m _ _ _ hm
  obtain ⟨a0, ea0, -, -, wa0⟩ := open_int Tryz.underlying3 (hval 0 _ v0 rfl rfl) k0
  subst ea0
  obtain ⟨a1, ea1, -, -, wa1⟩ := open_int Tryz.underlying3 (hval 1 _ v1 rfl rfl) k1
  subst ea1
  obtain ⟨a2, ea2, -, -⟩ := open_bool Tryz.underlying4 (hval 2 _ v2 rfl rfl) k2
  subst ea2
  have hT : Tabs W := by
    first
    | exact tabs_of hL hS
    | exact tabs_in (l := Rows.settingsKeptRow.laid) 4 hL (by kernel_rfl) hS
    | exact tabs_in (l := Rows.settingsKeptRow.laid) 0 hL (by kernel_rfl) hS
    | exact tabs_in (l := Rows.settingsKeptRow.laid) 1 hL (by kernel_rfl) hS
    | exact tabs_in (l := Rows.settingsKeptRow.laid) 2 hL (by kernel_rfl) hS
    | exact tabs_in (l := Rows.settingsKeptRow.laid) 3 hL (by kernel_rfl) hS
    | exact tabs_in (l := Rows.settingsKeptRow.laid) 5 hL (by kernel_rfl) hS
    | exact tabs_in (l := Rows.settingsKeptRow.laid) 6 hL (by kernel_rfl) hS
    | exact tabs_in (l := Rows.settingsKeptRow.laid) 7 hL (by kernel_rfl) hS
  refine (settingsKept_walk W hT a0 wa0 a1 wa1 a2).mono fun e W' ⟨he, bel⟩ => ?_
  subst he
  exact ⟨_, rfl, _, _, _, [], _, [], hW', trodAll_mk1 (shut_bool Tryz.underlying4 _), (trodAll_cons_mk (Below.trod laidOut (by kernel_rfl) (of_decide_eq_true (by kernel_rfl)) k0 bel lt0) (trodAll_cons_mk (Below.trod laidOut (by kernel_rfl) (of_decide_eq_true (by kernel_rfl)) k1 bel lt1) (trodAll_cons_mk (Below.trod laidOut (by kernel_rfl) (of_decide_eq_true (by kernel_rfl)) k2 bel lt2) trodAll_mk0))), rfl, bel.frame _, fun h => by cases h⟩

noncomputable def theWorld (os : Os) : World := listWorld Rows.settingsKeptRow.laid os
theorem laid_met (os : Os) : laidMet Tryz.prog Rows.settingsKeptRow.laid ((theWorld os).forCall (fun _ _ => 0) ⟨#[], #[.int .i64 0, .int .i64 0, .bool false], []⟩).memory :=
  laidMet_of_run' 8 (by kernel_rfl) (by kernel_rfl)
theorem reads (os : Os) {H : Type} (enc : TypeId × Value → H) : ∃ places, DataW.whole enc Tryz.prog ((theWorld os).forCall (fun _ _ => 0) ⟨#[], #[.int .i64 0, .int .i64 0, .bool false], []⟩).memory Tryz.f5.params.toList Rows.settingsKeptSpec.vars false (#[.int .i64 0, .int .i64 0, .bool false] : Array Value).toList 8 = some ([.lit (.int .i64 0), .lit (.int .i64 0), .lit (.bool false)], [], places) :=
  ⟨[], by kernel_rfl⟩

set_option linter.unusedVariables false in
set_option maxRecDepth 100000 in
theorem lifted (os : Os) (started : os.Started) (H : Type) (enc : TypeId × Value → H) (F : Stop.Interp) :
    ReturnsInHanded {} Tryz.checked os 5 .any ((OpenSpec.ofChange Rows.settingsKeptSpec).preRow enc Tryz.prog Tryz.f5 Rows.settingsKeptRow.domain false Rows.settingsKeptRow.laid) (((OpenSpec.ofChange Rows.settingsKeptSpec).at F).post enc Tryz.prog Tryz.f5 false true false false) := by
  obtain ⟨places, hx⟩ := reads os enc
  refine returnsInHanded_of_row (C := Tryz.checked) (s := OpenSpec.ofChange Rows.settingsKeptSpec) own started (by kernel_rfl) Tryz.func5
    (witness_row_at (enc := enc) (C := Tryz.checked) false (theWorld os) #[.int .i64 0, .int .i64 0, .bool false] rfl (by kernel_rfl) (by kernel_rfl) (by kernel_rfl)
      (OpenSpec.preRow_of_cond 8 hx (by kernel_rfl) (fun k hk => by cases hk) (by kernel_rfl) (laid_met os))) ?_
  intro W base args ds gs before hval hW _ _ hz hL hS _
  exact contract H enc W base args ds gs before hval hW hz hL hS

theorem said : Rows.SettingsKeptSaid :=
  OpenClaim.holds_of_cond 5 Tryz.f5 rfl rfl rfl rfl rfl rfl rfl ⟨rfl, rfl, rfl, rfl, rfl⟩ rfl rfl rfl rfl rfl (by kernel_rfl) Tryz.func5 (by kernel_rfl)
    (of_decide_eq_true (by kernel_rfl)) (by unfold Func.isWrapper; first | (rw [if_pos (by decide +kernel)]; kernel_rfl) | (rw [if_neg (by decide +kernel)]; exact ⟨rfl, rfl⟩))
    (fun os started H enc _ F => by rw [OpenClaim.pre_eq_preRow]; exact lifted os started H enc F)
/-- No parameter wants a stand-in; the program's own looks are off: what the card asks. -/
theorem plain (f : FuncId) (fn : Func) (hf : Tryz.pinned.checked.prog.funcNamed "tillerman/tillermankeep.SettingsKept" = some f) (hfn : Tryz.pinned.checked.prog.funcs[f]? = some fn) :
    false = Tryz.pinned.checked.prog.looks [] ∧ ∀ (j : Nat) t, fn.params[j]? = some t → Tryz.pinned.checked.prog.wantsStandIn t = false := by
  obtain rfl : f = 5 := Option.some.inj ((show Tryz.prog.funcNamed "tillerman/tillermankeep.SettingsKept" = some 5 by kernel_rfl).symm.trans hf) |>.symm
  obtain rfl : fn = Tryz.f5 := (Option.some.inj (Tryz.func5.symm.trans hfn)).symm
  refine ⟨by kernel_rfl, fun j t ht => ?_⟩
  rw [Tryz.params5] at ht
  have hm := Array.mem_of_getElem? ht
  simp only [List.mem_toArray, List.mem_cons, List.not_mem_nil, or_false] at hm
  rcases hm with rfl | rfl | rfl
  · exact (show Tryz.prog.wantsStandIn 3 = false by kernel_rfl)
  · exact (show Tryz.prog.wantsStandIn 3 = false by kernel_rfl)
  · exact (show Tryz.prog.wantsStandIn 4 = false by kernel_rfl)
theorem proved : Rows.SettingsKeptCardSaid :=
  Claim7.holds_tied_plain_at .later [] _ _ _ _ said (fun _ h => by cases h) (by kernel_rfl) (fun _ h => by cases h) settingsKept_row_tie rfl ⟨rfl, rfl⟩ (by kernel_rfl) rfl plain (by kernel_rfl)
#print axioms proved
end Go.Proofs.YtjbnfigpflambacGreatDoor.settingsKeptDone
