/-
  No cell of these rows narrows 'for every input' (looked for: loops, veiled, ifaces, maps, wideKeys, modest, calm, conditions, laid).
  DERIVED. THE GIVEN ROWS OF THIS SEAT. 9 by the template 'for every input the law returns true; each argument reads behind the call as it read before'; 0 by the template 'total and deterministic' (their statements: YtjbnfigpflambaaTotals.lean).
  GIVEN WITH THE SEED: the statements are not yours to turn. If you find one false, say at which input.
  Laid BY PROGRAM, IN A SANDBOX (cutbox-rows.mjs): the forced cells as the released guide's own fill.sh prints them over the translation 1a77c16c3404a42e… (all of the seat's roots in one cut). By AI agents, Wed Nov 11 2026. No macro, syntax, notation, axiom, sorry.
-/
import Derived.Test.YtjbnfigpflambaaChecked
import GoSem.Claim
import GoSem.ClaimJoined
import GoSem.ClaimMapViews
import Derived.JoinedTies
import Derived.KernelRfl
namespace Go.Proofs.Ytjbnfigpflambaa
/- THE CELL 'sum', in the pinned program and in every row, IS THE sha256 OF THE DUMP (.gsa) THAT YtjbnfigpflambaaProg.lean LOADS. Nothing in Lean hashes anything: it is a label: what it is worth is what the hold of that sum in a sandbox is worth. -/
noncomputable def Try.pinned : Pinned := { name := "ytjbnfigpflambaa", sum := "1a77c16c3404a42e0e638eb15519dd910351f33e528812834bc1a76c7f76f259", checked := Try.checked }
namespace Rows
def none {H : Type} : Left H := { results := [], args := [] }

/-- 'tillermanlaw.Names': WHATEVER THE INPUT: true; the input reads as it did. -/
def namesSpec : ChangeSpec := { name := "names", fn := fun _ => fun
  | [] => { results := [.lit (.bool true)], args := [] }
  | _ => none }
def namesRow : OpenClaim := { program := "ytjbnfigpflambaa", sum := "1a77c16c3404a42e0e638eb15519dd910351f33e528812834bc1a76c7f76f259", func := "tillerman/tillermanlaw.Names", spec := "names", apart := false }
def NamesSaid : Prop := namesRow.holds Try.pinned (OpenSpec.ofChange namesSpec)

/-- ITS FALSE NEIGHBOUR: 'it returns false'. Refute it at one input. -/
def namesWrong : ChangeSpec := { name := "names", fn := fun _ => fun
  | [] => { results := [.lit (.bool false)], args := [] }
  | _ => none }
def NamesWrongFalsely : Prop := namesRow.holds Try.pinned (OpenSpec.ofChange namesWrong)

/-- 'tillermanlaw.SayPacks': WHATEVER THE INPUT: true; the input reads as it did. -/
def sayPacksSpec : ChangeSpec := { name := "sayPacks", fn := fun _ => fun
  | [d1, d2] => { results := [.lit (.bool true)], args := [d1, d2] }
  | _ => none }
def sayPacksRow : OpenClaim := { program := "ytjbnfigpflambaa", sum := "1a77c16c3404a42e0e638eb15519dd910351f33e528812834bc1a76c7f76f259", func := "tillerman/tillermanlaw.SayPacks", spec := "sayPacks", apart := false }
def SayPacksSaid : Prop := sayPacksRow.holds Try.pinned (OpenSpec.ofChange sayPacksSpec)

/-- ITS FALSE NEIGHBOUR: 'it returns false'. Refute it at one input. -/
def sayPacksWrong : ChangeSpec := { name := "sayPacks", fn := fun _ => fun
  | [d1, d2] => { results := [.lit (.bool false)], args := [d1, d2] }
  | _ => none }
def SayPacksWrongFalsely : Prop := sayPacksRow.holds Try.pinned (OpenSpec.ofChange sayPacksWrong)

/-- 'tillermanlaw.SayUnpacks': WHATEVER THE INPUT: true; the input reads as it did. -/
def sayUnpacksSpec : ChangeSpec := { name := "sayUnpacks", fn := fun _ => fun
  | [d] => { results := [.lit (.bool true)], args := [d] }
  | _ => none }
def sayUnpacksRow : OpenClaim := { program := "ytjbnfigpflambaa", sum := "1a77c16c3404a42e0e638eb15519dd910351f33e528812834bc1a76c7f76f259", func := "tillerman/tillermanlaw.SayUnpacks", spec := "sayUnpacks", apart := false }
def SayUnpacksSaid : Prop := sayUnpacksRow.holds Try.pinned (OpenSpec.ofChange sayUnpacksSpec)

/-- ITS FALSE NEIGHBOUR: 'it returns false'. Refute it at one input. -/
def sayUnpacksWrong : ChangeSpec := { name := "sayUnpacks", fn := fun _ => fun
  | [d] => { results := [.lit (.bool false)], args := [d] }
  | _ => none }
def SayUnpacksWrongFalsely : Prop := sayUnpacksRow.holds Try.pinned (OpenSpec.ofChange sayUnpacksWrong)

/-- 'tillermanlaw.PoolSetups': WHATEVER THE INPUT: true; the input reads as it did. -/
def poolSetupsSpec : ChangeSpec := { name := "poolSetups", fn := fun _ => fun
  | [d] => { results := [.lit (.bool true)], args := [d] }
  | _ => none }
def poolSetupsRow : OpenClaim := { program := "ytjbnfigpflambaa", sum := "1a77c16c3404a42e0e638eb15519dd910351f33e528812834bc1a76c7f76f259", func := "tillerman/tillermanlaw.PoolSetups", spec := "poolSetups", apart := false }
def PoolSetupsSaid : Prop := poolSetupsRow.holds Try.pinned (OpenSpec.ofChange poolSetupsSpec)

/-- ITS FALSE NEIGHBOUR: 'it returns false'. Refute it at one input. -/
def poolSetupsWrong : ChangeSpec := { name := "poolSetups", fn := fun _ => fun
  | [d] => { results := [.lit (.bool false)], args := [d] }
  | _ => none }
def PoolSetupsWrongFalsely : Prop := poolSetupsRow.holds Try.pinned (OpenSpec.ofChange poolSetupsWrong)

/-- 'tillermanlaw.SayTells': WHATEVER THE INPUT: true; the input reads as it did. -/
def sayTellsSpec : ChangeSpec := { name := "sayTells", fn := fun _ => fun
  | [d] => { results := [.lit (.bool true)], args := [d] }
  | _ => none }
def sayTellsRow : OpenClaim := { program := "ytjbnfigpflambaa", sum := "1a77c16c3404a42e0e638eb15519dd910351f33e528812834bc1a76c7f76f259", func := "tillerman/tillermanlaw.SayTells", spec := "sayTells", apart := false }
def SayTellsSaid : Prop := sayTellsRow.holds Try.pinned (OpenSpec.ofChange sayTellsSpec)

/-- ITS FALSE NEIGHBOUR: 'it returns false'. Refute it at one input. -/
def sayTellsWrong : ChangeSpec := { name := "sayTells", fn := fun _ => fun
  | [d] => { results := [.lit (.bool false)], args := [d] }
  | _ => none }
def SayTellsWrongFalsely : Prop := sayTellsRow.holds Try.pinned (OpenSpec.ofChange sayTellsWrong)

/-- 'tillermankeep.TellsApart': WHATEVER THE INPUT: true; the input reads as it did. -/
def tellsApartSpec : ChangeSpec := { name := "tellsApart", fn := fun _ => fun
  | [d1, d2, d3, d4, d5, d6] => { results := [.lit (.bool true)], args := [d1, d2, d3, d4, d5, d6] }
  | _ => none }
def tellsApartRow : OpenClaim := { program := "ytjbnfigpflambaa", sum := "1a77c16c3404a42e0e638eb15519dd910351f33e528812834bc1a76c7f76f259", func := "tillerman/tillermankeep.TellsApart", spec := "tellsApart", apart := false }
def TellsApartSaid : Prop := tellsApartRow.holds Try.pinned (OpenSpec.ofChange tellsApartSpec)

/-- ITS FALSE NEIGHBOUR: 'it returns false'. Refute it at one input. -/
def tellsApartWrong : ChangeSpec := { name := "tellsApart", fn := fun _ => fun
  | [d1, d2, d3, d4, d5, d6] => { results := [.lit (.bool false)], args := [d1, d2, d3, d4, d5, d6] }
  | _ => none }
def TellsApartWrongFalsely : Prop := tellsApartRow.holds Try.pinned (OpenSpec.ofChange tellsApartWrong)

/-- 'tillermankeep.MessagesCut': WHATEVER THE INPUT: true; the input reads as it did. -/
def messagesCutSpec : ChangeSpec := { name := "messagesCut", fn := fun _ => fun
  | [d1, d2, d3, d4] => { results := [.lit (.bool true)], args := [d1, d2, d3, d4] }
  | _ => none }
def messagesCutRow : OpenClaim := { program := "ytjbnfigpflambaa", sum := "1a77c16c3404a42e0e638eb15519dd910351f33e528812834bc1a76c7f76f259", func := "tillerman/tillermankeep.MessagesCut", spec := "messagesCut", apart := false }
def MessagesCutSaid : Prop := messagesCutRow.holds Try.pinned (OpenSpec.ofChange messagesCutSpec)

/-- ITS FALSE NEIGHBOUR: 'it returns false'. Refute it at one input. -/
def messagesCutWrong : ChangeSpec := { name := "messagesCut", fn := fun _ => fun
  | [d1, d2, d3, d4] => { results := [.lit (.bool false)], args := [d1, d2, d3, d4] }
  | _ => none }
def MessagesCutWrongFalsely : Prop := messagesCutRow.holds Try.pinned (OpenSpec.ofChange messagesCutWrong)

/-- 'tillermanlaw.SayNames': WHATEVER THE INPUT: true; the input reads as it did. -/
def sayNamesSpec : ChangeSpec := { name := "sayNames", fn := fun _ => fun
  | [d] => { results := [.lit (.bool true)], args := [d] }
  | _ => none }
def sayNamesRow : OpenClaim := { program := "ytjbnfigpflambaa", sum := "1a77c16c3404a42e0e638eb15519dd910351f33e528812834bc1a76c7f76f259", func := "tillerman/tillermanlaw.SayNames", spec := "sayNames", unfollowed := true, recurses := true, apart := false }
def SayNamesSaid : Prop := sayNamesRow.holds Try.pinned (OpenSpec.ofChange sayNamesSpec)

/-- ITS FALSE NEIGHBOUR: 'it returns false'. Refute it at one input. -/
def sayNamesWrong : ChangeSpec := { name := "sayNames", fn := fun _ => fun
  | [d] => { results := [.lit (.bool false)], args := [d] }
  | _ => none }
def SayNamesWrongFalsely : Prop := sayNamesRow.holds Try.pinned (OpenSpec.ofChange sayNamesWrong)

/-- 'tillermanlaw.BackCopies': WHATEVER THE INPUT: true; the input reads as it did. -/
def backCopiesSpec : ChangeSpec := { name := "backCopies", fn := fun _ => fun
  | [d] => { results := [.lit (.bool true)], args := [d] }
  | _ => none }
def backCopiesRow : OpenClaim := { program := "ytjbnfigpflambaa", sum := "1a77c16c3404a42e0e638eb15519dd910351f33e528812834bc1a76c7f76f259", func := "tillerman/tillermanlaw.BackCopies", spec := "backCopies", apart := false }
def BackCopiesSaid : Prop := backCopiesRow.holds Try.pinned (OpenSpec.ofChange backCopiesSpec)

/-- ITS FALSE NEIGHBOUR: 'it returns false'. Refute it at one input. -/
def backCopiesWrong : ChangeSpec := { name := "backCopies", fn := fun _ => fun
  | [d] => { results := [.lit (.bool false)], args := [d] }
  | _ => none }
def BackCopiesWrongFalsely : Prop := backCopiesRow.holds Try.pinned (OpenSpec.ofChange backCopiesWrong)

/- THE SECOND FORM. 'bulk': how many values and letters a reading holds, each counted each time it is reached (what is shared counts as often as it is met; a slice's spare places count too). A statement '..UptoSaid' is the law's where the arguments, and the package variables that the reading takes, are together of bulk at most 1048576: NARROWER than '..Said'. Prove '..Said' where nothing that the law and all that it calls make is longer than what came in: it says more and counts as full. Else prove '..UptoSaid'. A law counts once. -/
mutual
def uptoBulk {H : Type} : DataW H → Nat
  | .lit (.string bytes) => bytes.length + 1
  | .lit _ => 1
  | .nil => 1
  | .ptr d => uptoBulk d + 1
  | .slice elems spare => uptoBulkAll elems + uptoBulkAll spare + 1
  | .agg parts => uptoBulkAll parts + 1
  | .iface _ d => uptoBulk d + 1
  | .map entries => uptoBulkEntries entries + 1
  | .held _ => 1
def uptoBulkAll {H : Type} : List (DataW H) → Nat
  | [] => 0
  | d :: r => uptoBulk d + uptoBulkAll r
def uptoBulkEntries {H : Type} : List (Lit × DataW H) → Nat
  | [] => 0
  | x :: r => uptoBulkEntry x + uptoBulkEntries r
def uptoBulkEntry {H : Type} : Lit × DataW H → Nat
  | (.string bytes, d) => bytes.length + uptoBulk d + 1
  | (_, d) => uptoBulk d + 1
 end
def uptoSmall : (H : Type) → List (DataW H) → Bool := fun _ ds => decide (uptoBulkAll ds ≤ 1048576)
def OpenSpec.upto (s : _root_.Go.ChangeSpec) : _root_.Go.OpenSpec := { _root_.Go.OpenSpec.ofChange s with cond := some uptoSmall }

/-- 'tillermanlaw.Names', WHERE WHAT IT READS IS OF BULK AT MOST 1048576: true; the input reads as it did. -/
def namesUptoRow : OpenClaim := { program := "ytjbnfigpflambaa", sum := "1a77c16c3404a42e0e638eb15519dd910351f33e528812834bc1a76c7f76f259", func := "tillerman/tillermanlaw.Names", spec := "names", apart := false, narrowed := true }
def NamesUptoSaid : Prop := namesUptoRow.holds Try.pinned (OpenSpec.upto namesSpec)

/-- 'tillermanlaw.SayPacks', WHERE WHAT IT READS IS OF BULK AT MOST 1048576: true; the input reads as it did. -/
def sayPacksUptoRow : OpenClaim := { program := "ytjbnfigpflambaa", sum := "1a77c16c3404a42e0e638eb15519dd910351f33e528812834bc1a76c7f76f259", func := "tillerman/tillermanlaw.SayPacks", spec := "sayPacks", apart := false, narrowed := true }
def SayPacksUptoSaid : Prop := sayPacksUptoRow.holds Try.pinned (OpenSpec.upto sayPacksSpec)

/-- 'tillermanlaw.SayUnpacks', WHERE WHAT IT READS IS OF BULK AT MOST 1048576: true; the input reads as it did. -/
def sayUnpacksUptoRow : OpenClaim := { program := "ytjbnfigpflambaa", sum := "1a77c16c3404a42e0e638eb15519dd910351f33e528812834bc1a76c7f76f259", func := "tillerman/tillermanlaw.SayUnpacks", spec := "sayUnpacks", apart := false, narrowed := true }
def SayUnpacksUptoSaid : Prop := sayUnpacksUptoRow.holds Try.pinned (OpenSpec.upto sayUnpacksSpec)

/-- 'tillermanlaw.PoolSetups', WHERE WHAT IT READS IS OF BULK AT MOST 1048576: true; the input reads as it did. -/
def poolSetupsUptoRow : OpenClaim := { program := "ytjbnfigpflambaa", sum := "1a77c16c3404a42e0e638eb15519dd910351f33e528812834bc1a76c7f76f259", func := "tillerman/tillermanlaw.PoolSetups", spec := "poolSetups", apart := false, narrowed := true }
def PoolSetupsUptoSaid : Prop := poolSetupsUptoRow.holds Try.pinned (OpenSpec.upto poolSetupsSpec)

/-- 'tillermanlaw.SayTells', WHERE WHAT IT READS IS OF BULK AT MOST 1048576: true; the input reads as it did. -/
def sayTellsUptoRow : OpenClaim := { program := "ytjbnfigpflambaa", sum := "1a77c16c3404a42e0e638eb15519dd910351f33e528812834bc1a76c7f76f259", func := "tillerman/tillermanlaw.SayTells", spec := "sayTells", apart := false, narrowed := true }
def SayTellsUptoSaid : Prop := sayTellsUptoRow.holds Try.pinned (OpenSpec.upto sayTellsSpec)

/-- 'tillermankeep.TellsApart', WHERE WHAT IT READS IS OF BULK AT MOST 1048576: true; the input reads as it did. -/
def tellsApartUptoRow : OpenClaim := { program := "ytjbnfigpflambaa", sum := "1a77c16c3404a42e0e638eb15519dd910351f33e528812834bc1a76c7f76f259", func := "tillerman/tillermankeep.TellsApart", spec := "tellsApart", apart := false, narrowed := true }
def TellsApartUptoSaid : Prop := tellsApartUptoRow.holds Try.pinned (OpenSpec.upto tellsApartSpec)

/-- 'tillermankeep.MessagesCut', WHERE WHAT IT READS IS OF BULK AT MOST 1048576: true; the input reads as it did. -/
def messagesCutUptoRow : OpenClaim := { program := "ytjbnfigpflambaa", sum := "1a77c16c3404a42e0e638eb15519dd910351f33e528812834bc1a76c7f76f259", func := "tillerman/tillermankeep.MessagesCut", spec := "messagesCut", apart := false, narrowed := true }
def MessagesCutUptoSaid : Prop := messagesCutUptoRow.holds Try.pinned (OpenSpec.upto messagesCutSpec)

/-- 'tillermanlaw.SayNames', WHERE WHAT IT READS IS OF BULK AT MOST 1048576: true; the input reads as it did. -/
def sayNamesUptoRow : OpenClaim := { program := "ytjbnfigpflambaa", sum := "1a77c16c3404a42e0e638eb15519dd910351f33e528812834bc1a76c7f76f259", func := "tillerman/tillermanlaw.SayNames", spec := "sayNames", unfollowed := true, recurses := true, apart := false, narrowed := true }
def SayNamesUptoSaid : Prop := sayNamesUptoRow.holds Try.pinned (OpenSpec.upto sayNamesSpec)

/-- 'tillermanlaw.BackCopies', WHERE WHAT IT READS IS OF BULK AT MOST 1048576: true; the input reads as it did. -/
def backCopiesUptoRow : OpenClaim := { program := "ytjbnfigpflambaa", sum := "1a77c16c3404a42e0e638eb15519dd910351f33e528812834bc1a76c7f76f259", func := "tillerman/tillermanlaw.BackCopies", spec := "backCopies", apart := false, narrowed := true }
def BackCopiesUptoSaid : Prop := backCopiesUptoRow.holds Try.pinned (OpenSpec.upto backCopiesSpec)

end Rows
end Go.Proofs.Ytjbnfigpflambaa
