/- CommitsShow: for every input the law returns true, and each argument reads afterwards as it read before. Its walk is commitsShow_walk; here the statement is closed. Conditions: none beyond the given statement's. -/
import Derived.Test.YtjbnfigpflambabDoorComW
import Derived.Test.YtjbnfigpflambabDoorCards
import Derived.Test.YtjbnfigpflambabDoorTie
import Derived.SevenTiedAt
import Derived.Test.YtjbnfigpflambabDoorDoor
import Derived.Deep.DeepHandedRow
import Derived.Lib.LaidTab
import Derived.Lib.AppendIntMem
import Derived.Lib.SmallJoins
namespace Go.Proofs.YtjbnfigpflambabDoor.commitsShowDone
open Go.ChangeShapes Go.WideShapes Go.ChangeAt Go.RowKit Go.Proofs.YtjbnfigpflambabDoor
open Go.ChangeMaps (open_string shut_string)

theorem tab_at {W : World} {l : List (String × DataW Unit)} {name : String} {k : IntKind} {zs : List Int} {g : Nat} {t e : TypeId} {n : Nat} (i : Nat)
    (hg : Tryd.prog.globalNamed name = some g) (hty : (Tryd.prog.globals[g]?).map (·.type) = some t) (ht : Tryd.prog.underlying t = some (.array n e)) (he : Tryd.prog.underlying e = some (.int k)) (hce : Tryd.prog.cellsOf e = 1) (hct : Tryd.prog.cellsOf t = n)
    (h : laidMet Tryd.prog l W) (hk : l[i]? = some (name, Lib.tabData k zs)) : Lib.TabIs Tryd.prog W name k zs := by
  obtain ⟨ps, hv, -⟩ := h
  obtain ⟨g', t', cs, fuel, p, hg', ht', hvar, hd⟩ := laid_mem hv hk
  obtain rfl := Option.some.inj (hg.symm.trans hg')
  obtain rfl := Option.some.inj (hty.symm.trans ht')
  unfold Lib.TabIs
  rw [hvar, ← Lib.cells_of_tab ht he hce hct hd]

set_option linter.unusedVariables false in
set_option maxRecDepth 100000 in
theorem contract (H : Type) (enc : TypeId × Value → H) (W : World) (base : Nat) (args : Array Value) (ds gs : List (DataW H)) (before : List MemPlace)
    (hval : ∀ (j : Nat) t v, Tryd.f9.params[j]? = some t → args[j]? = some v → Value.okWide Tryd.prog W .any base t v)
    (hW : DataW.Whole enc Tryd.prog Tryd.f9.params.toList Rows.commitsShowSpec.vars false W args.toList ds gs before)
    (hz : (DataW.weightsEach Tryd.prog (Tryd.f9.params.toList ++ []) (ds ++ gs)).all (· ≤ reachBytes) = true)
    (hL : laidMetH Tryd.prog Rows.commitsShowRow.laid W) (hS : W.ShapedOpen Tryd.prog)
    :
    Calls Tryd.prog 9 args W fun e W' => ∃ v, e = .returned v ∧ Rows.commitsShowSpec.post enc Tryd.prog Tryd.f9 false true false false W args v W' := by
  have hW' := hW
  obtain ⟨p, q, hA0, hV, rfl, hfz, hnd⟩ := hW
  have hA : DataW.TrodAll enc Tryd.prog W 0 (fun _ => true) true Tryd.f9.params.toList args.toList ds p := hA0
  rw [Tryd.params9] at hA hval hz
  obtain ⟨v0, vs0, d0, ds0, p0, q0, hargs, rfl, rfl, k0, r0⟩ := trodAll_cons hA
  obtain ⟨rfl, rfl, rfl⟩ := trodAll_nil r0
  obtain rfl : args = #[v0] := by cases args; simp_all
  obtain ⟨rfl, rfl⟩ := trodVars_none hV
  clear hA0
  have lt0 : ∀ x ∈ p0, x.block < W.heap.size := by obtain ⟨m, hm⟩ := k0; exact DataW.trod_lt m _ _ _ hm
  obtain ⟨a0, ea0, -, -, wa0⟩ := open_int Tryd.underlying3 (hval 0 _ v0 rfl rfl) k0
  subst ea0
  have hT : Tabs W := by
    first
    | exact tabs_of hL hS
    | exact tabs_in (l := Rows.commitsShowRow.laid) 4 hL (by kernel_rfl) hS
    | exact tabs_in (l := Rows.commitsShowRow.laid) 0 hL (by kernel_rfl) hS
    | exact tabs_in (l := Rows.commitsShowRow.laid) 1 hL (by kernel_rfl) hS
    | exact tabs_in (l := Rows.commitsShowRow.laid) 2 hL (by kernel_rfl) hS
    | exact tabs_in (l := Rows.commitsShowRow.laid) 3 hL (by kernel_rfl) hS
    | exact tabs_in (l := Rows.commitsShowRow.laid) 5 hL (by kernel_rfl) hS
    | exact tabs_in (l := Rows.commitsShowRow.laid) 6 hL (by kernel_rfl) hS
    | exact tabs_in (l := Rows.commitsShowRow.laid) 7 hL (by kernel_rfl) hS
  have hP : Lib.TabIs Tryd.prog W "internal/strconv.uint64pow10" .u64 Lib.pow10Tab :=
    tab_at (l := Rows.commitsShowRow.laid) 2 (g := 2) (t := 150) (e := 113) (n := 20) (by kernel_rfl) (by kernel_rfl) (by kernel_rfl) (by kernel_rfl) (by kernel_rfl) (by kernel_rfl) hL (by kernel_rfl)
  refine (commitsShow_walk W hT hP a0 wa0).mono fun e W' ⟨he, bel⟩ => ?_
  subst he
  exact ⟨_, rfl, _, _, _, [], _, [], hW', trodAll_mk1 (shut_bool Tryd.underlying4 _), (trodAll_cons_mk (Below.trod laidOut (by kernel_rfl) (of_decide_eq_true (by kernel_rfl)) k0 bel lt0) trodAll_mk0), rfl, bel.frame _, fun h => by cases h⟩

noncomputable def theWorld (os : Os) : World := listWorld Rows.commitsShowRow.laid os
theorem laid_met (os : Os) : laidMet Tryd.prog Rows.commitsShowRow.laid ((theWorld os).forCall (fun _ _ => 0) ⟨#[], #[.int .i64 0], []⟩).memory :=
  laidMet_of_run' 8 (by kernel_rfl) (by kernel_rfl)
theorem reads (os : Os) {H : Type} (enc : TypeId × Value → H) : ∃ places, DataW.whole enc Tryd.prog ((theWorld os).forCall (fun _ _ => 0) ⟨#[], #[.int .i64 0], []⟩).memory Tryd.f9.params.toList Rows.commitsShowSpec.vars false (#[.int .i64 0] : Array Value).toList 8 = some ([.lit (.int .i64 0)], [], places) :=
  ⟨[], by kernel_rfl⟩

set_option linter.unusedVariables false in
set_option maxRecDepth 100000 in
theorem lifted (os : Os) (started : os.Started) (H : Type) (enc : TypeId × Value → H) (F : Stop.Interp) :
    ReturnsInHanded {} Tryd.checked os 9 .any ((OpenSpec.ofChange Rows.commitsShowSpec).preRow enc Tryd.prog Tryd.f9 Rows.commitsShowRow.domain false Rows.commitsShowRow.laid) (((OpenSpec.ofChange Rows.commitsShowSpec).at F).post enc Tryd.prog Tryd.f9 false true false false) := by
  obtain ⟨places, hx⟩ := reads os enc
  refine returnsInHanded_of_row (C := Tryd.checked) (s := OpenSpec.ofChange Rows.commitsShowSpec) own started (by kernel_rfl) Tryd.func9
    (witness_row_at (enc := enc) (C := Tryd.checked) false (theWorld os) #[.int .i64 0] rfl (by kernel_rfl) (by kernel_rfl) (by kernel_rfl)
      (OpenSpec.preRow_of_cond 8 hx (by kernel_rfl) (fun k hk => by cases hk) (by kernel_rfl) (laid_met os))) ?_
  intro W base args ds gs before hval hW _ _ hz hL hS _
  exact contract H enc W base args ds gs before hval hW hz hL hS

theorem said : Rows.CommitsShowSaid :=
  OpenClaim.holds_of_cond 9 Tryd.f9 rfl rfl rfl rfl rfl rfl rfl ⟨rfl, rfl, rfl, rfl, rfl⟩ rfl rfl rfl rfl rfl (by kernel_rfl) Tryd.func9 (by kernel_rfl)
    (of_decide_eq_true (by kernel_rfl)) (by unfold Func.isWrapper; first | (rw [if_pos (by decide +kernel)]; kernel_rfl) | (rw [if_neg (by decide +kernel)]; exact ⟨rfl, rfl⟩))
    (fun os started H enc _ F => by rw [OpenClaim.pre_eq_preRow]; exact lifted os started H enc F)
/-- No parameter wants a stand-in; the program's own looks are off: what the card asks. -/
theorem plain (f : FuncId) (fn : Func) (hf : Tryd.pinned.checked.prog.funcNamed "tillerman/tillermankeep.CommitsShow" = some f) (hfn : Tryd.pinned.checked.prog.funcs[f]? = some fn) :
    false = Tryd.pinned.checked.prog.looks [] ∧ ∀ (j : Nat) t, fn.params[j]? = some t → Tryd.pinned.checked.prog.wantsStandIn t = false := by
  obtain rfl : f = 9 := Option.some.inj ((show Tryd.prog.funcNamed "tillerman/tillermankeep.CommitsShow" = some 9 by kernel_rfl).symm.trans hf) |>.symm
  obtain rfl : fn = Tryd.f9 := (Option.some.inj (Tryd.func9.symm.trans hfn)).symm
  refine ⟨by kernel_rfl, fun j t ht => ?_⟩
  rw [Tryd.params9] at ht
  have hm := Array.mem_of_getElem? ht
  simp only [List.mem_toArray, List.mem_cons, List.not_mem_nil, or_false] at hm
  rcases hm with rfl
  · exact (show Tryd.prog.wantsStandIn 3 = false by kernel_rfl)
theorem proved : Rows.CommitsShowCardSaid :=
  Claim7.holds_tied_plain_at .later [] _ _ _ _ said (fun _ h => by cases h) (by kernel_rfl) (fun _ h => by cases h) commitsShow_row_tie rfl ⟨rfl, rfl⟩ (by kernel_rfl) rfl plain (by kernel_rfl)
#print axioms proved
end Go.Proofs.YtjbnfigpflambabDoor.commitsShowDone
