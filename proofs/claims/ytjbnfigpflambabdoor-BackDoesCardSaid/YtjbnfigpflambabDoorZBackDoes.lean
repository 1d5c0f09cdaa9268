/- BackDoes: for every input the law returns true, and each argument reads afterwards as it read before. Its walk is backDoes_walk; here the statement is closed. Conditions: none beyond the given statement's. -/
import Derived.Test.YtjbnfigpflambabDoorCards
import Derived.Test.YtjbnfigpflambabDoorTie
import Derived.Test.YtjbnfigpflambabDoorJ09
import Derived.Test.YtjbnfigpflambabDoorJ23
import Derived.Test.YtjbnfigpflambabDoorJ30
import Derived.SevenTiedAt
import Derived.Deep.DeepHandedRow
import Derived.Lib.LaidTab
import Derived.Lib.SmallJoins
namespace Go.Proofs.YtjbnfigpflambabDoor.backDoesDone
open Go.ChangeShapes Go.WideShapes Go.ChangeAt Go.RowKit Go.Proofs.YtjbnfigpflambabDoor
open Go.ChangeMaps (open_string shut_string)

set_option linter.unusedVariables false in
set_option maxRecDepth 100000 in
theorem contract (H : Type) (enc : TypeId × Value → H) (W : World) (base : Nat) (args : Array Value) (ds gs : List (DataW H)) (before : List MemPlace)
    (hval : ∀ (j : Nat) t v, Tryd.f7.params[j]? = some t → args[j]? = some v → Value.okWide Tryd.prog W .any base t v)
    (hW : DataW.Whole enc Tryd.prog Tryd.f7.params.toList Rows.backDoesSpec.vars false W args.toList ds gs before)
    (hz : (DataW.weightsEach Tryd.prog (Tryd.f7.params.toList ++ []) (ds ++ gs)).all (· ≤ reachBytes) = true)
    (hL : laidMetH Tryd.prog Rows.backDoesRow.laid W) (hS : W.ShapedOpen Tryd.prog)
    :
    Calls Tryd.prog 7 args W fun e W' => ∃ v, e = .returned v ∧ Rows.backDoesSpec.post enc Tryd.prog Tryd.f7 false true false false W args v W' := by
  have hW' := hW
  obtain ⟨p, q, hA0, hV, rfl, hfz, hnd⟩ := hW
  have hA : DataW.TrodAll enc Tryd.prog W 0 (fun _ => true) true Tryd.f7.params.toList args.toList ds p := hA0
  rw [Tryd.params7] at hA hval hz
  obtain ⟨v0, vs0, d0, ds0, p0, q0, hargs, rfl, rfl, k0, r0⟩ := trodAll_cons hA
  obtain ⟨v1, vs1, d1, ds1, p1, q1, rfl, rfl, rfl, k1, r1⟩ := trodAll_cons r0
  obtain ⟨v2, vs2, d2, ds2, p2, q2, rfl, rfl, rfl, k2, r2⟩ := trodAll_cons r1
  obtain ⟨rfl, rfl, rfl⟩ := trodAll_nil r2
  obtain rfl : args = #[v0, v1, v2] := by cases args; simp_all
  obtain ⟨rfl, rfl⟩ := trodVars_none hV
  clear hA0
  have lt0 : ∀ x ∈ p0, x.block < W.heap.size := by obtain ⟨m, hm⟩ := k0; exact DataW.trod_lt m _ _ _ hm
  have lt1 : ∀ x ∈ p1, x.block < W.heap.size := by obtain ⟨m, hm⟩ := k1; exact DataW.trod_lt m _ _ _ hm
  have lt2 : ∀ x ∈ p2, x.block < W.heap.size := by obtain ⟨m, hm⟩ := k2; exact DataW.trod_lt m _ _ _ hm
  obtain ⟨r0, s0, V0, e0, hV0⟩ := open_world (hval 0 _ v0 rfl rfl) k0 (fun m hm => by have := List.all_eq_true.1 hz m (DataW.weights_mem_each (j := 0) (t := 31) (d := d0) rfl rfl m hm); simpa using this)
  subst e0
  obtain ⟨a1, ea1, -, -, wa1⟩ := open_int Tryd.underlying3 (hval 1 _ v1 rfl rfl) k1
  subst ea1
  obtain ⟨c2_0, c2_1, c2_2, y2_0, y2_1, y2_2, m2, e2, -, -, h2_0, h2_1, h2_2⟩ := Go.Joins.open_agg3 Tryd.underlying23 (by kernel_rfl) (by kernel_rfl) (hval 2 _ v2 rfl rfl) k2
  subst e2
  obtain ⟨a2_0, ea2_0, -, wa2_0⟩ := DataW.trod_int Tryd.underlying3 h2_0
  simp only [List.cons.injEq, and_true] at ea2_0
  subst ea2_0
  obtain ⟨a2_1, ea2_1, -, wa2_1⟩ := DataW.trod_string Tryd.underlying9 h2_1
  simp only [List.cons.injEq, and_true] at ea2_1
  subst ea2_1
  obtain ⟨a2_2, ea2_2, -, wa2_2⟩ := DataW.trod_string Tryd.underlying9 h2_2
  simp only [List.cons.injEq, and_true] at ea2_2
  subst ea2_2
  have hT : Tabs W := by
    first
    | exact tabs_of hL hS
    | exact tabs_in (l := Rows.backDoesRow.laid) 4 hL (by kernel_rfl) hS
    | exact tabs_in (l := Rows.backDoesRow.laid) 0 hL (by kernel_rfl) hS
    | exact tabs_in (l := Rows.backDoesRow.laid) 1 hL (by kernel_rfl) hS
    | exact tabs_in (l := Rows.backDoesRow.laid) 2 hL (by kernel_rfl) hS
    | exact tabs_in (l := Rows.backDoesRow.laid) 3 hL (by kernel_rfl) hS
    | exact tabs_in (l := Rows.backDoesRow.laid) 5 hL (by kernel_rfl) hS
    | exact tabs_in (l := Rows.backDoesRow.laid) 6 hL (by kernel_rfl) hS
    | exact tabs_in (l := Rows.backDoesRow.laid) 7 hL (by kernel_rfl) hS
  refine (backDoes_walk W hT _ _ V0 hV0 a1 wa1 a2_0 wa2_0 a2_1 wa2_1 a2_2 wa2_2).mono fun e W' ⟨he, bel⟩ => ?_
  subst he
  exact ⟨_, rfl, _, _, _, [], _, [], hW', trodAll_mk1 (shut_bool Tryd.underlying4 _), (trodAll_cons_mk (Below.trod laidOut (by kernel_rfl) (of_decide_eq_true (by kernel_rfl)) k0 bel lt0) (trodAll_cons_mk (Below.trod laidOut (by kernel_rfl) (of_decide_eq_true (by kernel_rfl)) k1 bel lt1) (trodAll_cons_mk (Below.trod laidOut (by kernel_rfl) (of_decide_eq_true (by kernel_rfl)) k2 bel lt2) trodAll_mk0))), rfl, bel.frame _, fun h => by cases h⟩

noncomputable def theWorld (os : Os) : World := listWorld Rows.backDoesRow.laid os
theorem laid_met (os : Os) : laidMet Tryd.prog Rows.backDoesRow.laid ((theWorld os).forCall (fun _ _ => 0) ⟨#[], #[.agg #[.slice none 0 0, .slice none 0 0], .int .i64 0, .agg #[.int .i64 0, .string ⟨#[]⟩, .string ⟨#[]⟩]], []⟩).memory :=
  laidMet_of_run' 8 (by kernel_rfl) (by kernel_rfl)
theorem reads (os : Os) {H : Type} (enc : TypeId × Value → H) : ∃ places, DataW.whole enc Tryd.prog ((theWorld os).forCall (fun _ _ => 0) ⟨#[], #[.agg #[.slice none 0 0, .slice none 0 0], .int .i64 0, .agg #[.int .i64 0, .string ⟨#[]⟩, .string ⟨#[]⟩]], []⟩).memory Tryd.f7.params.toList Rows.backDoesSpec.vars false (#[.agg #[.slice none 0 0, .slice none 0 0], .int .i64 0, .agg #[.int .i64 0, .string ⟨#[]⟩, .string ⟨#[]⟩]] : Array Value).toList 8 = some ([.agg [.nil, .nil], .lit (.int .i64 0), .agg [.lit (.int .i64 0), .lit (.string []), .lit (.string [])]], [], places) :=
  ⟨[], by kernel_rfl⟩

set_option linter.unusedVariables false in
set_option maxRecDepth 100000 in
theorem lifted (os : Os) (started : os.Started) (H : Type) (enc : TypeId × Value → H) (F : Stop.Interp) :
    ReturnsInHanded {} Tryd.checked os 7 .any ((OpenSpec.ofChange Rows.backDoesSpec).preRow enc Tryd.prog Tryd.f7 Rows.backDoesRow.domain false Rows.backDoesRow.laid) (((OpenSpec.ofChange Rows.backDoesSpec).at F).post enc Tryd.prog Tryd.f7 false true false false) := by
  obtain ⟨places, hx⟩ := reads os enc
  refine returnsInHanded_of_row (C := Tryd.checked) (s := OpenSpec.ofChange Rows.backDoesSpec) own started (by kernel_rfl) Tryd.func7
    (witness_row_at (enc := enc) (C := Tryd.checked) false (theWorld os) #[.agg #[.slice none 0 0, .slice none 0 0], .int .i64 0, .agg #[.int .i64 0, .string ⟨#[]⟩, .string ⟨#[]⟩]] rfl (by kernel_rfl) (by kernel_rfl) (by kernel_rfl)
      (OpenSpec.preRow_of_cond 8 hx (by kernel_rfl) (fun k hk => by cases hk) (by kernel_rfl) (laid_met os))) ?_
  intro W base args ds gs before hval hW _ _ hz hL hS _
  exact contract H enc W base args ds gs before hval hW hz hL hS

theorem said : Rows.BackDoesSaid :=
  OpenClaim.holds_of_cond 7 Tryd.f7 rfl rfl rfl rfl rfl rfl rfl ⟨rfl, rfl, rfl, rfl, rfl⟩ rfl rfl rfl rfl rfl (by kernel_rfl) Tryd.func7 (by kernel_rfl)
    (of_decide_eq_true (by kernel_rfl)) (by unfold Func.isWrapper; first | (rw [if_pos (by decide +kernel)]; kernel_rfl) | (rw [if_neg (by decide +kernel)]; exact ⟨rfl, rfl⟩))
    (fun os started H enc _ F => by rw [OpenClaim.pre_eq_preRow]; exact lifted os started H enc F)
/-- No parameter wants a stand-in; the program's own looks are off: what the card asks. -/
theorem plain (f : FuncId) (fn : Func) (hf : Tryd.pinned.checked.prog.funcNamed "tillerman/tillermanlaw.BackDoes" = some f) (hfn : Tryd.pinned.checked.prog.funcs[f]? = some fn) :
    false = Tryd.pinned.checked.prog.looks [] ∧ ∀ (j : Nat) t, fn.params[j]? = some t → Tryd.pinned.checked.prog.wantsStandIn t = false := by
  obtain rfl : f = 7 := Option.some.inj ((show Tryd.prog.funcNamed "tillerman/tillermanlaw.BackDoes" = some 7 by kernel_rfl).symm.trans hf) |>.symm
  obtain rfl : fn = Tryd.f7 := (Option.some.inj (Tryd.func7.symm.trans hfn)).symm
  refine ⟨by kernel_rfl, fun j t ht => ?_⟩
  rw [Tryd.params7] at ht
  have hm := Array.mem_of_getElem? ht
  simp only [List.mem_toArray, List.mem_cons, List.not_mem_nil, or_false] at hm
  rcases hm with rfl | rfl | rfl
  · exact (show Tryd.prog.wantsStandIn 31 = false by kernel_rfl)
  · exact (show Tryd.prog.wantsStandIn 3 = false by kernel_rfl)
  · exact (show Tryd.prog.wantsStandIn 23 = false by kernel_rfl)
theorem proved : Rows.BackDoesCardSaid :=
  Claim7.holds_tied_plain_at .later [] _ _ _ _ said (fun _ h => by cases h) (by kernel_rfl) (fun _ h => by cases h) backDoes_row_tie rfl ⟨rfl, rfl⟩ (by kernel_rfl) rfl plain (by kernel_rfl)
#print axioms proved
end Go.Proofs.YtjbnfigpflambabDoor.backDoesDone
