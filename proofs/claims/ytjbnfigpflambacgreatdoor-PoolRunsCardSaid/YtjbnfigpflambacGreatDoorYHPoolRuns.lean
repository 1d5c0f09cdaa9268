/- PoolRuns: for every input the law returns true, and each argument reads afterwards as it read before. Its walk is poolRuns_walk; here the statement is closed. Conditions: none beyond the given statement's. -/
import Derived.Test.YtjbnfigpflambacGreatDoorH42
import Derived.Test.YtjbnfigpflambacGreatDoorCards
import Derived.Test.YtjbnfigpflambacGreatDoorTie
import Derived.SevenTiedAt
namespace Go.Proofs.YtjbnfigpflambacGreatDoor.poolRunsDone
open Go.ChangeShapes Go.WideShapes Go.ChangeAt Go.RowKit Go.Proofs.YtjbnfigpflambacGreatDoor
open Go.ChangeMaps (open_string shut_string)

set_option linter.unusedVariables false in
set_option maxRecDepth 100000 in
theorem contract (H : Type) (enc : TypeId × Value → H) (W : World) (base : Nat) (args : Array Value) (ds gs : List (DataW H)) (before : List MemPlace)
    (hval : ∀ (j : Nat) t v, Tryz.f3.params[j]? = some t → args[j]? = some v → Value.okWide Tryz.prog W .any base t v)
    (hW : DataW.Whole enc Tryz.prog Tryz.f3.params.toList Rows.poolRunsSpec.vars false W args.toList ds gs before)
    (hz : (DataW.weightsEach Tryz.prog (Tryz.f3.params.toList ++ []) (ds ++ gs)).all (· ≤ reachBytes) = true)
    (hL : laidMetH Tryz.prog Rows.poolRunsRow.laid W) (hS : W.ShapedOpen Tryz.prog)
    :
    Calls Tryz.prog 3 args W fun e W' => ∃ v, e = .returned v ∧ Rows.poolRunsSpec.post enc Tryz.prog Tryz.f3 false true false false W args v W' := by
  have hW' := hW
  obtain ⟨p, q, hA0, hV, rfl, hfz, hnd⟩ := hW
  have hA : DataW.TrodAll enc Tryz.prog W 0 (fun _ => true) true Tryz.f3.params.toList args.toList ds p := hA0
  rw [Tryz.params3] at hA hval hz
  obtain ⟨v0, vs0, d0, ds0, p0, q0, hargs, rfl, rfl, k0, r0⟩ := trodAll_cons hA
  obtain ⟨v1, vs1, d1, ds1, p1, q1, rfl, rfl, rfl, k1, r1⟩ := trodAll_cons r0
  obtain ⟨rfl, rfl, rfl⟩ := trodAll_nil r1
  obtain rfl : args = #[v0, v1] := by cases args; simp_all
  obtain ⟨rfl, rfl⟩ := trodVars_none hV
  clear hA0
  have lt0 : ∀ x ∈ p0, x.block < W.heap.size := by obtain ⟨m, hm⟩ := k0; exact DataW.trod_lt m _ _ _ hm
  have lt1 : ∀ x ∈ p1, x.block < W.heap.size := by obtain ⟨m, hm⟩ := k1; exact DataW.trod_lt m _ _ _ hm
  obtain ⟨c0_0, c0_1, y0_0, y0_1, m0, e0, -, -, h0_0, h0_1⟩ := Go.Joins.open_agg2 Tryz.underlying23 (by kernel_rfl) (by kernel_rfl) (hval 0 _ v0 rfl rfl) k0
  subst e0
  obtain ⟨a0_0, ea0_0, -, wa0_0⟩ := DataW.trod_int Tryz.underlying3 h0_0
  simp only [List.cons.injEq, and_true] at ea0_0
  subst ea0_0
  obtain ⟨a0_1, ea0_1, -, wa0_1⟩ := DataW.trod_int Tryz.underlying3 h0_1
  simp only [List.cons.injEq, and_true] at ea0_1
  subst ea0_1
  obtain ⟨l1, hl1⟩ := open_acts (hval 1 _ v1 rfl rfl) k1 (fun m hm => by have := List.all_eq_true.1 hz m (DataW.weights_mem_each (j := 1) (t := 24) (d := d1) rfl rfl m hm); simpa using this)
  have hT : Tabs W := by
    first
    | exact tabs_of hL hS
    | exact tabs_in (l := Rows.poolRunsRow.laid) 4 hL (by kernel_rfl) hS
    | exact tabs_in (l := Rows.poolRunsRow.laid) 0 hL (by kernel_rfl) hS
    | exact tabs_in (l := Rows.poolRunsRow.laid) 1 hL (by kernel_rfl) hS
    | exact tabs_in (l := Rows.poolRunsRow.laid) 2 hL (by kernel_rfl) hS
    | exact tabs_in (l := Rows.poolRunsRow.laid) 3 hL (by kernel_rfl) hS
    | exact tabs_in (l := Rows.poolRunsRow.laid) 5 hL (by kernel_rfl) hS
    | exact tabs_in (l := Rows.poolRunsRow.laid) 6 hL (by kernel_rfl) hS
    | exact tabs_in (l := Rows.poolRunsRow.laid) 7 hL (by kernel_rfl) hS
  refine (poolRuns_walk W hT a0_0 wa0_0 a0_1 wa0_1 _ l1 hl1).mono fun e W' ⟨he, bel⟩ => ?_
  subst he
  exact ⟨_, rfl, _, _, _, [], _, [], hW', trodAll_mk1 (shut_bool Tryz.underlying4 _), (trodAll_cons_mk (Below.trod laidOut (by kernel_rfl) (of_decide_eq_true (by kernel_rfl)) k0 bel lt0) (trodAll_cons_mk (Below.trod laidOut (by kernel_rfl) (of_decide_eq_true (by kernel_rfl)) k1 bel lt1) trodAll_mk0)), rfl, bel.frame _, fun h => by cases h⟩

noncomputable def theWorld (os : Os) : World := listWorld Rows.poolRunsRow.laid os
theorem laid_met (os : Os) : laidMet Tryz.prog Rows.poolRunsRow.laid ((theWorld os).forCall (fun _ _ => 0) ⟨#[], #[.agg #[.int .i64 0, .int .i64 0], .slice none 0 0], []⟩).memory :=
  laidMet_of_run' 8 (by kernel_rfl) (by kernel_rfl)
theorem reads (os : Os) {H : Type} (enc : TypeId × Value → H) : ∃ places, DataW.whole enc Tryz.prog ((theWorld os).forCall (fun _ _ => 0) ⟨#[], #[.agg #[.int .i64 0, .int .i64 0], .slice none 0 0], []⟩).memory Tryz.f3.params.toList Rows.poolRunsSpec.vars false (#[.agg #[.int .i64 0, .int .i64 0], .slice none 0 0] : Array Value).toList 8 = some ([.agg [.lit (.int .i64 0), .lit (.int .i64 0)], .nil], [], places) :=
  ⟨[], by kernel_rfl⟩

set_option linter.unusedVariables false in
set_option maxRecDepth 100000 in
theorem lifted (os : Os) (started : os.Started) (H : Type) (enc : TypeId × Value → H) (F : Stop.Interp) :
    ReturnsInHanded {} Tryz.checked os 3 .any ((OpenSpec.ofChange Rows.poolRunsSpec).preRow enc Tryz.prog Tryz.f3 Rows.poolRunsRow.domain false Rows.poolRunsRow.laid) (((OpenSpec.ofChange Rows.poolRunsSpec).at F).post enc Tryz.prog Tryz.f3 false true false false) := by
  obtain ⟨places, hx⟩ := reads os enc
  refine returnsInHanded_of_row (C := Tryz.checked) (s := OpenSpec.ofChange Rows.poolRunsSpec) own started (by kernel_rfl) Tryz.func3
    (witness_row_at (enc := enc) (C := Tryz.checked) false (theWorld os) #[.agg #[.int .i64 0, .int .i64 0], .slice none 0 0] rfl (by kernel_rfl) (by kernel_rfl) (by kernel_rfl)
      (OpenSpec.preRow_of_cond 8 hx (by kernel_rfl) (fun k hk => by cases hk) (by kernel_rfl) (laid_met os))) ?_
  intro W base args ds gs before hval hW _ _ hz hL hS _
  exact contract H enc W base args ds gs before hval hW hz hL hS

theorem said : Rows.PoolRunsSaid :=
  OpenClaim.holds_of_cond 3 Tryz.f3 rfl rfl rfl rfl rfl rfl rfl ⟨rfl, rfl, rfl, rfl, rfl⟩ rfl rfl rfl rfl rfl (by kernel_rfl) Tryz.func3 (by kernel_rfl)
    (of_decide_eq_true (by kernel_rfl)) (by unfold Func.isWrapper; first | (rw [if_pos (by decide +kernel)]; kernel_rfl) | (rw [if_neg (by decide +kernel)]; exact ⟨rfl, rfl⟩))
    (fun os started H enc _ F => by rw [OpenClaim.pre_eq_preRow]; exact lifted os started H enc F)
/-- No parameter wants a stand-in; the program's own looks are off: what the card asks. -/
theorem plain (f : FuncId) (fn : Func) (hf : Tryz.pinned.checked.prog.funcNamed "tillerman/tillermanlaw.PoolRuns" = some f) (hfn : Tryz.pinned.checked.prog.funcs[f]? = some fn) :
    false = Tryz.pinned.checked.prog.looks [] ∧ ∀ (j : Nat) t, fn.params[j]? = some t → Tryz.pinned.checked.prog.wantsStandIn t = false := by
  obtain rfl : f = 3 := Option.some.inj ((show Tryz.prog.funcNamed "tillerman/tillermanlaw.PoolRuns" = some 3 by kernel_rfl).symm.trans hf) |>.symm
  obtain rfl : fn = Tryz.f3 := (Option.some.inj (Tryz.func3.symm.trans hfn)).symm
  refine ⟨by kernel_rfl, fun j t ht => ?_⟩
  rw [Tryz.params3] at ht
  have hm := Array.mem_of_getElem? ht
  simp only [List.mem_toArray, List.mem_cons, List.not_mem_nil, or_false] at hm
  rcases hm with rfl | rfl
  · exact (show Tryz.prog.wantsStandIn 23 = false by kernel_rfl)
  · exact (show Tryz.prog.wantsStandIn 24 = false by kernel_rfl)
theorem proved : Rows.PoolRunsCardSaid :=
  Claim7.holds_tied_plain_at .later [] _ _ _ _ said (fun _ h => by cases h) (by kernel_rfl) (fun _ h => by cases h) poolRuns_row_tie rfl ⟨rfl, rfl⟩ (by kernel_rfl) rfl plain (by kernel_rfl)
#print axioms proved
end Go.Proofs.YtjbnfigpflambacGreatDoor.poolRunsDone
