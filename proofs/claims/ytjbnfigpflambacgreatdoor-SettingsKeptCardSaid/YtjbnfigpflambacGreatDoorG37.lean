/- More of the texts: Ma, Gn, Shelf, Loo, Kep, KepC, AnyI. -/
import Derived.Test.YtjbnfigpflambacGreatDoorProg
import Derived.Test.YtjbnfigpflambacGreatDoorRows
import Derived.Test.YtjbnfigpflambacGreatDoorG00
import Derived.Test.YtjbnfigpflambacGreatDoorG01
import Derived.Test.YtjbnfigpflambacGreatDoorG02
import Derived.Test.YtjbnfigpflambacGreatDoorG03
import Derived.Test.YtjbnfigpflambacGreatDoorG04
import Derived.Test.YtjbnfigpflambacGreatDoorG05
import Derived.Test.YtjbnfigpflambacGreatDoorG06
import Derived.Test.YtjbnfigpflambacGreatDoorG07
import Derived.Test.YtjbnfigpflambacGreatDoorG08
import Derived.Test.YtjbnfigpflambacGreatDoorG09
import Derived.Test.YtjbnfigpflambacGreatDoorG10
import Derived.Test.YtjbnfigpflambacGreatDoorG11
import Derived.Test.YtjbnfigpflambacGreatDoorG12
import Derived.Test.YtjbnfigpflambacGreatDoorG13
import Derived.Test.YtjbnfigpflambacGreatDoorG14
import Derived.Test.YtjbnfigpflambacGreatDoorG15
import Derived.Test.YtjbnfigpflambacGreatDoorG16
import Derived.Test.YtjbnfigpflambacGreatDoorG17
import Derived.Test.YtjbnfigpflambacGreatDoorG18
import Derived.Test.YtjbnfigpflambacGreatDoorG19
import Derived.Test.YtjbnfigpflambacGreatDoorG20
import Derived.Test.YtjbnfigpflambacGreatDoorG21
import Derived.Test.YtjbnfigpflambacGreatDoorG22
import Derived.Test.YtjbnfigpflambacGreatDoorG23
import Derived.Test.YtjbnfigpflambacGreatDoorG24
import Derived.Test.YtjbnfigpflambacGreatDoorG25
import Derived.Test.YtjbnfigpflambacGreatDoorG26
import Derived.Test.YtjbnfigpflambacGreatDoorG27
import Derived.Test.YtjbnfigpflambacGreatDoorG28
import Derived.Test.YtjbnfigpflambacGreatDoorG29
import Derived.Test.YtjbnfigpflambacGreatDoorG30
import Derived.Test.YtjbnfigpflambacGreatDoorG31
import Derived.Test.YtjbnfigpflambacGreatDoorG32
import Derived.Test.YtjbnfigpflambacGreatDoorG33
import Derived.Test.YtjbnfigpflambacGreatDoorG34
import Derived.Test.YtjbnfigpflambacGreatDoorG35
import Derived.Lib.Split
import Derived.Lib.SplitLaws
import Derived.Lib.SlicesS
import Derived.Lib.IndexBytes
import Derived.Lib.Bytealg
import GoSem.Op.String
import Derived.Shelf.Strings.Builder1
import Derived.Shelf.Small.Strs
import Derived.Shelf.Strings.BuilderF
import Derived.Shelf.Strings.BuilderK
import Derived.Shelf.Strconv.Itoa0
import Derived.Shelf.Strconv.Itoa1
import Derived.Shelf.LaysM
import Derived.Shelf.Strconv.Itoa2
import Derived.Shelf.Strconv.Itoa3
import Derived.Shelf.Strings.Search1
import Derived.Shelf.Strings.Search2
import Derived.Shelf.Strings.Search3
import Derived.Shelf.Strings.Count
import Derived.Shelf.Strings.Shaped
import Derived.Shelf.Strings.Prefix
import Derived.Shelf.Strings.Split
import Derived.Shelf.Strings.SplitShaped
import Derived.Shelf.Bits.Mul64
import Derived.Shelf.Unicode.DecodeSlow
import Derived.Shelf.Strings.BuilderCap
import Derived.Shelf.Slices.Turned
import Derived.Shelf.Slices.Equal
import Derived.Shelf.Slices.Empties2
import Derived.WalkKit
import Derived.ProofKit
import Derived.OpenShut
import Derived.Below
import Derived.Outline
import Derived.Lib.Hide
import Derived.ShutString
import Derived.ChangeOld
import Derived.Lib.SmallJoins
import Derived.Laws.OwnMore
import Derived.Deep.AppendLies
import Derived.Deep.Draws
import Derived.Laws.Rows
import Derived.Maps.AppendAt
import Derived.RegionTactic
import Derived.OwnWalk
import Derived.Deep.QuietTactic
import Derived.BigQuiet
import Derived.WalkSpells
import Derived.WalkLawsBesides
import Derived.Deep.RegionHeld3
import Derived.OrdersHeld
import Derived.Deep.DeepCutAuto
import Derived.Laws.CopyRow
import Derived.Laws.IdiomCopy
import Derived.Laws.AppendOwn
import Derived.Lib.AppendZerosOnto
import Derived.Lib.Overlaps
import Derived.Tactics
import Derived.Laws.Externs
import Derived.Lib.ConvBytes
import Derived.Lib.LaidTab
import Derived.Deep.DeepHandedRow
import Derived.Maps.Own
import Derived.Maps.OwnSet
import Derived.Maps.Views
import Derived.Maps.OwnOps
import Derived.Deep.Slices
import Derived.Deep.Fields
import Derived.ChangeSame
import Derived.SizedLaws
import Derived.Lib.IndexLaws
import Derived.Lib.AppendStr
import Derived.Laws.MakeOwn
import Derived.Deep.CutBlock
import Derived.Lib.Builder
import Derived.Lib.Walk
import Derived.Lib.UnsafeStr
import Derived.Lib.SliceRun
/- Plain laws, no program: the front of a pool (what clients sent, what they wait for, whose the servers are), over any kind of sessions behind it. -/
namespace Go.Proofs.YtjbnfigpflambacGreatDoor
section
variable {β : Type} (B : Bh β)
end
section
variable {β : Type} (B : Bh β)
end
theorem count_set (o : List Int) (s : Nat) (x : Int) : (o.set s x).countP (fun s => decide (s = -1)) ≤ o.countP (fun s => decide (s = -1)) + 1 := by
 induction o generalizing s with
 | nil => simp
 | cons a o ih =>
  rcases s with _ | s
  ·simp only [List.set_cons_zero, List.countP_cons]
   split <;> split <;> omega
  ·simp only [List.set_cons_succ, List.countP_cons]
   have := ih s
   omega
section
variable {β : Type} (B : Bh β)
end
section
variable {β : Type} (B : Bh β)
end
end Go.Proofs.YtjbnfigpflambacGreatDoor
/- Plain laws, no program: TopGone: where every client went, nothing is left of one. -/
namespace Go.Proofs.YtjbnfigpflambacGreatDoor
structure Cleared (i : Nat) (y : Fr × Wo) : Prop where
 pend : (y.1.c i).pend = []
 srv : (y.1.c i).srv = -1
 bytes : (y.1.c i).bytes = ⟨#[]⟩
 se : y.2.se i = Se.new
theorem next_se (y : Fr × Wo) {i j : Nat} (h : j ≠ i) : (nextM houseB y i).2.se j = y.2.se j := by
 rcases ep : (y.1.c i).pend with _ | ⟨⟨x, bad⟩, l⟩
 ·rw [next_nil _ _ _ ep]
 cases bad with
 | true => rw [next_bad _ _ _ ep]
 | false =>
  by_cases hm : y.1.mode = 3 ∧ x.k = 1
  ·rw [next_mode _ _ _ ep hm]
  ·rw [next_act _ _ _ ep hm]
   split
   ·exact (doW_mine y.2 i x).2 j h
   ·exact (doW_mine y.2 i x).2 j h
theorem bind_c (f : Fr) {s j i : Nat} (h : i ≠ j) : (f.bindS s j).c i = f.c i := by
 have e : (f.bindS s j).c i = (f.set j ⟨(f.c j).bytes, (f.c j).pend, (s : Int), (f.c j).sent⟩).c i := rfl
 rw [e]
 rcases c_set_any f j ⟨(f.c j).bytes, (f.c j).pend, (s : Int), (f.c j).sent⟩ i with e | ⟨e, _⟩
 ·exact e
 ·exact absurd e h
theorem close_c (y : Fr × Wo) (i j : Nat) (h : j ≠ i) : (closeM houseB y i).1.c j = y.1.c j := by
 have e : (closeM houseB y i).1.c j = (y.1.set i ⟨⟨#[]⟩, [], -1, (y.1.c i).sent⟩).c j := rfl
 rw [e]
 rcases c_set_any y.1 i ⟨⟨#[]⟩, [], -1, (y.1.c i).sent⟩ j with e | ⟨e, _⟩
 ·exact e
 ·exact absurd e h
theorem close_mine (y : Fr × Wo) {i : Nat} (hi : i < y.1.cl.length) (hw : i < y.2.ses.length) : Cleared i (closeM houseB y i) := by
 have e : (closeM houseB y i).1.c i = ⟨⟨#[]⟩, [], -1, (y.1.c i).sent⟩ := by
  have e : (closeM houseB y i).1.c i = (y.1.set i ⟨⟨#[]⟩, [], -1, (y.1.c i).sent⟩).c i := rfl
  rw [e, c_set _ hi, if_pos rfl]
 refine ⟨by rw [e], by rw [e], by rw [e], ?_⟩
 show (y.2.put i Se.new).se i = _
 rw [se_put _ hw, if_pos rfl]
theorem step_owner {β : Type} (B : Bh β) (z : Fr × β) : (stepM B z).1.1.owner.length = z.1.owner.length := by
 unfold stepM
 split
 ·rename_i i hp
  exact (next_pend B z i (ready_busy (pick_ready hp).1)).2
 ·split
  ·exact List.length_set
  ·rfl
theorem pump_owner {β : Type} (B : Bh β) (z : Fr × β) : (pumpM B z).1.owner.length = z.1.owner.length :=
 pump_keeps B (fun v => v.1.owner.length = z.1.owner.length) (fun v hv => (step_owner B v).trans hv) _ z (Nat.le_refl _) rfl
theorem close_owner {β : Type} (B : Bh β) (z : Fr × β) (i : Nat) : (closeM B z i).1.owner.length = z.1.owner.length := by
 unfold closeM
 simp only
 split
 ·exact List.length_set
 ·rfl
theorem act_owner {β : Type} (B : Bh β) (z : Fr × β) (a : Ac) : (actM B z a).1.owner.length = z.1.owner.length := by
 unfold actM
 split
 ·rw [pump_owner, close_owner]
 ·unfold deliverM
  simp only
  split
  ·rw [pump_owner, close_owner, pump_owner]; rfl
  ·rw [pump_owner]; rfl
theorem st_ext {x : St} {k : Int} {a b : ByteArray} (h1 : x.k = k) (h2 : x.key = a) (h3 : x.val = b) : x = ⟨k, a, b⟩ := by
 cases x
 cases h1
 cases h2
 cases h3
 rfl
end Go.Proofs.YtjbnfigpflambacGreatDoor
/-
 DERIVED: THE SHELF's CONTRACTS AT THIS DUMP, IN PLAIN WORDS (tools/lay-plain.mjs out of 'TryzShelf.lean', which tools/lay-shelf.mjs wrote): THE SAME DECLARATIONS UNDER THE SAME NAMES: 'import', 'namespace', 'open', 'def', 'theorem' AND NOTHING ELSE: no command of the shelf's: FOR A HAND-IN. Each laying: the table of numbers ('.._ren') and one theorem, a field a fact of the dump's own or the kernel's comparison; each contract: ONE APPLICATION.
-/
namespace Go.Proofs
open Go.Shelf
def Tryz.lays171_ren : Go.Shelf.Ren := ⟨fun | 171 => 24 | 243 => 57 | 246 => 86 | 283 => 111 | 284 => 112 | 285 => 113 | 286 => 114 | 129 => 135 | 317 => 134 | 318 => 136 | 319 => 137 | 320 => 138 | 337 => 155 | 338 => 156 | n => n, fun | 3 => 3 | 9 => 9 | 2 => 2 | 4 => 4 | 171 => 179 | 0 => 0 | 53 => 168 | 37 => 94 | 5 => 5 | 173 => 182 | 212 => 201 | 51 => 165 | 20 => 20 | 213 => 202 | 46 => 136 | 232 => 215 | 233 => 216 | n => n, fun | 17 => 2 | 18 => 3 | 19 => 4 | n => n⟩
theorem Tryz.lays171 : Go.Proofs.Lays.n171 Tryz.prog Tryz.lays171_ren := {
 mixed := by kernel_rfl
 f129 := Tryz.func135.trans (congrArg some (by kernel_rfl))
 f171 := Tryz.func24.trans (congrArg some (by kernel_rfl))
 f243 := Tryz.func57.trans (congrArg some (by kernel_rfl))
 f246 := Tryz.func86.trans (congrArg some (by kernel_rfl))
 f283 := Tryz.func111.trans (congrArg some (by kernel_rfl))
 f284 := Tryz.func112.trans (congrArg some (by kernel_rfl))
 f285 := Tryz.func113.trans (congrArg some (by kernel_rfl))
 f286 := Tryz.func114.trans (congrArg some (by kernel_rfl))
 f317 := Tryz.func134.trans (congrArg some (by kernel_rfl))
 f318 := Tryz.func136.trans (congrArg some (by kernel_rfl))
 f319 := Tryz.func137.trans (congrArg some (by kernel_rfl))
 f320 := Tryz.func138.trans (congrArg some (by kernel_rfl))
 f337 := Tryz.func155.trans (congrArg some (by kernel_rfl))
 f338 := Tryz.func156.trans (congrArg some (by kernel_rfl))
 t0 := Tryz.underlying0
 a0 := Tryz.isAgg0
 z0 := Tryz.sizeOf0
 v0 := Tryz.zeroValue0
 t2 := Tryz.underlying2
 a2 := Tryz.isAgg2
 z2 := Tryz.sizeOf2
 v2 := Tryz.zeroValue2
 t3 := Tryz.underlying3
 a3 := Tryz.isAgg3
 z3 := Tryz.sizeOf3
 v3 := Tryz.zeroValue3
 t4 := Tryz.underlying4
 a4 := Tryz.isAgg4
 z4 := Tryz.sizeOf4
 v4 := Tryz.zeroValue4
 t5 := Tryz.underlying5
 a5 := Tryz.isAgg5
 z5 := Tryz.sizeOf5
 v5 := Tryz.zeroValue5
 t9 := Tryz.underlying9
 a9 := Tryz.isAgg9
 z9 := Tryz.sizeOf9
 v9 := Tryz.zeroValue9
 t20 := Tryz.underlying20
 a20 := Tryz.isAgg20
 z20 := Tryz.sizeOf20
 v20 := Tryz.zeroValue20
 t37 := Tryz.underlying94
 a37 := Tryz.isAgg94
 z37 := Tryz.sizeOf94
 v37 := Tryz.zeroValue94
 t46 := Tryz.underlying136
 a46 := Tryz.isAgg136
 z46 := Tryz.sizeOf136
 v46 := Tryz.zeroValue136
 t51 := Tryz.underlying165
 a51 := Tryz.isAgg165
 z51 := Tryz.sizeOf165
 v51 := Tryz.zeroValue165
 t53 := Tryz.underlying168
 a53 := Tryz.isAgg168
 z53 := Tryz.sizeOf168
 v53 := Tryz.zeroValue168
 t171 := Tryz.underlying179
 a171 := Tryz.isAgg179
 z171 := Tryz.sizeOf179
 v171 := Tryz.zeroValue179
 t173 := Tryz.underlying182
 a173 := Tryz.isAgg182
 z173 := Tryz.sizeOf182
 v173 := Tryz.zeroValue182
 t212 := Tryz.underlying201
 a212 := Tryz.isAgg201
 z212 := Tryz.sizeOf201
 v212 := Tryz.zeroValue201
 t213 := Tryz.underlying202
 a213 := Tryz.isAgg202
 z213 := Tryz.sizeOf202
 t232 := Tryz.underlying215
 a232 := Tryz.isAgg215
 z232 := Tryz.sizeOf215
 v232 := Tryz.zeroValue215
 t233 := Tryz.underlying216
 a233 := Tryz.isAgg216
 z233 := Tryz.sizeOf216
 v233 := Tryz.zeroValue216
 g17 := by kernel_rfl
 g18 := by kernel_rfl
 g19 := by kernel_rfl }
open Go.RowKit Go.Sort Go.Lib in
theorem Tryz.strconv_Itoa_small (i : Nat) (hi : i < 100) (w : World) :
  Calls Tryz.prog 24 #[.int .i64 i] w fun e w' => e = .returned (.string ⟨(Lib.decDigits i).toArray⟩) ∧ w' = w := Any.strconv_Itoa_small Tryz.lays171 i hi w
end Go.Proofs
/- Plain laws, no program: where a server is kept for a transaction or a statement alone, who is idle has none; SettingsKept's house. -/
namespace Go.Proofs.YtjbnfigpflambacGreatDoor
def Loose (y : Fr × Wo) : Prop := y.1.mode ≠ 1 ∧ ∀ i, (y.1.c i).srv ≠ -1 → (y.2.se i).st ≠ 0 ∨ (busy y.1 i = true ∧ needs y.1 i = true)
theorem doW_stA (W : Wo) {i : Nat} (hi : i < W.ses.length) (x : St) : ((doW W i x).1.se i).st = (doW W i x).2.st := by
 have l : i < (did W i x).1.ses.length := by rw [(did_mine W i x).1]; exact hi
 unfold doW
 rw [se_put _ l, if_pos rfl]
theorem needs_same {f g : Fr} {i : Nat} (hm : g.mode = f.mode) (hp : (g.c i).pend = (f.c i).pend) : busy g i = busy f i ∧ needs g i = needs f i := by
 unfold busy needs
 rw [hp, hm]
 exact ⟨rfl, rfl⟩
theorem loose_next {y : Fr × Wo} {i : Nat} (hi : i < y.2.ses.length) (hb : busy y.1 i = true) (h : Loose y) : Loose (nextM houseB y i) := by
 have hc := busy_lt hb
 obtain ⟨p, l, ep⟩ : ∃ p l, (y.1.c i).pend = p :: l := by
  unfold busy at hb
  rcases e : (y.1.c i).pend with _ | ⟨p, l⟩
  ·rw [e] at hb; simp at hb
  ·exact ⟨p, l, rfl⟩
 have hn := busy_next hc ep
 have hmode : (nextM houseB y i).1.mode = y.1.mode := (hn i).2.2.2.2
 refine ⟨by rw [hmode]; exact h.1, fun j hj => ?_⟩
 by_cases e : j = i
 ·subst e
  left
  obtain ⟨x, bad⟩ := p
  have hrel : ∀ {q : Prop}, (needs y.1 j = true → q) → ((y.1.c j).srv ≠ -1 → (y.2.se j).st ≠ 0 ∨ q) := fun hq hs => (h.2 j hs).imp id fun k => hq k.2
  have hold : (y.1.c j).srv ≠ -1 := by
   rcases (hn j).2.1 with e | e
   ·rw [← e]; exact hj
   ·exact absurd e hj
  cases bad with
  | true =>
   rw [next_bad _ _ _ ep]
   refine (hrel (q := False) (fun hq => ?_) hold).resolve_right id
   unfold needs at hq
   rw [ep] at hq
   simp at hq
  | false =>
   by_cases hm : y.1.mode = 3 ∧ x.k = 1
   ·rw [next_mode _ _ _ ep hm]
    refine (hrel (q := False) (fun hq => ?_) hold).resolve_right id
    unfold needs at hq
    rw [ep] at hq
    simp [hm.1, hm.2] at hq
   ·have hst := doW_stA y.2 hi x
    rw [next_act _ _ _ ep hm] at hj ⊢
    by_cases h0 : y.1.mode ≠ 1 ∧ (houseB.act y.2 j (y.1.c j).srv.toNat x).2.st = 0
    ·exfalso
     rw [if_pos h0] at hj
     refine hj ?_
     have hl : j < (doneF y.1 j x (houseB.act y.2 j (y.1.c j).srv.toNat x).2).cl.length := by rw [len_done]; exact hc
     have hcc : ((doneF y.1 j x (houseB.act y.2 j (y.1.c j).srv.toNat x).2).freeS j).c j = _ := c_set _ hl _ j
     rw [hcc, if_pos rfl]
    ·rw [if_neg h0]
     show ((doW y.2 j x).1.se j).st ≠ 0
     rw [hst]
     exact fun e => h0 ⟨h.1, e⟩
 ·have hp : ((nextM houseB y i).1.c j).pend = (y.1.c j).pend := by rw [(hn j).1, if_neg e]
  obtain ⟨e1, e2⟩ := needs_same hmode hp
  rw [e1, e2, next_se y e]
  refine h.2 j ?_
  rcases (hn j).2.1 with e | e
  ·rw [← e]; exact hj
  ·exact absurd e hj
theorem loose_step {z : Fr × PB} {y : Fr × Wo} (hs : Sim z y) (h : Loose y) : Loose (stepM houseB y).1 := by
 have hfi : FI y.1 := hs.front ▸ hs.fi
 unfold stepM
 split
 ·rename_i j hp
  have hr := pick_ready hp
  exact loose_next (by rw [hs.ses]; exact hr.2) (ready_busy hr.1) h
 ·rename_i hp
  have hq := hfi.queue hp
  split
  ·rename_i j l s hw hi
   obtain ⟨h6, _, hb, hnn⟩ := hq.wait j (by rw [hw]; exact List.mem_cons_self)
   refine ⟨h.1, fun i hne => ?_⟩
   by_cases e : i = j
   ·subst e
    right
    have hl : i < (queueF y.1).unwait.cl.length := by have := hfi.six; show i < y.1.cl.length; omega
    have hc : (((queueF y.1).unwait.bindS s i).c i) = _ := c_set (queueF y.1).unwait hl _ i
    rw [if_pos rfl] at hc
    have hp : (((queueF y.1).unwait.bindS s i).c i).pend = ((queueF y.1).c i).pend := by rw [hc]; rfl
    obtain ⟨e1, e2⟩ := needs_same (f := queueF y.1) (g := (queueF y.1).unwait.bindS s i) rfl hp
    simp only
    rw [e1, e2]
    exact ⟨hb, hnn⟩
   ·have e : ((queueF y.1).unwait.bindS s j).c i = y.1.c i := (bind_c (queueF y.1).unwait e).trans rfl
    simp only at hne ⊢
    rw [e] at hne
    obtain ⟨e1, e2⟩ := needs_same (f := y.1) (g := (queueF y.1).unwait.bindS s j) rfl (by rw [e])
    rw [e1, e2]
    exact h.2 i hne
  ·exact ⟨h.1, h.2⟩
theorem loose_pump {z : Fr × PB} {y : Fr × Wo} (hs : Sim z y) (h : Loose y) : Loose (pumpM houseB y) :=
 (pump_keeps houseB (fun y => (∃ z, Sim z y) ∧ Loose y) (fun _ ⟨⟨_, hz⟩, hc⟩ => ⟨⟨_, (step_sim hz).1⟩, loose_step hz hc⟩) _ y (Nat.le_refl _) ⟨⟨z, hs⟩, h⟩).2
theorem loose_close {z : Fr × PB} {y : Fr × Wo} (hs : Sim z y) {i : Nat} (hi : i < 6) (h : Loose y) : Loose (closeM houseB y i) := by
 have hfi : FI y.1 := hs.front ▸ hs.fi
 refine ⟨h.1, fun j hj => ?_⟩
 by_cases e : j = i
 ·subst e
  exact absurd (close_mine y (by have := hfi.six; omega) (by rw [hs.ses]; exact hi)).srv hj
 ·have e1 := close_c y i j e
  rw [e1] at hj
  have e2 : (closeM houseB y i).2.se j = y.2.se j := by
   show (y.2.put i Se.new).se j = _
   rw [se_put _ (by rw [hs.ses]; exact hi), if_neg e]
  obtain ⟨k1, k2⟩ := needs_same (f := y.1) (g := (closeM houseB y i).1) (i := j) rfl (by rw [e1])
  rw [e2, k1, k2]
  exact h.2 j hj
theorem loose_pour {z : Fr × PB} {y : Fr × Wo} (hs : Sim z y) {i : Nat} (hi : i < 6) (data : ByteArray) (h : Loose y) : Loose (y.1.set i (pourC (y.1.c i) data).1, y.2) := by
 have hfi : FI y.1 := hs.front ▸ hs.fi
 have hl : i < y.1.cl.length := by have := hfi.six; omega
 have hp : pourC (y.1.c i) data = (⟨(feedB ((y.1.c i).bytes ++ data)).2.1, (y.1.c i).pend ++ (feedB ((y.1.c i).bytes ++ data)).1, (y.1.c i).srv, (y.1.c i).sent⟩, (feedB ((y.1.c i).bytes ++ data)).2.2) := feedC_eq _
 rw [hp]
 refine ⟨h.1, fun j hj => ?_⟩
 have hc := c_set y.1 hl ⟨(feedB ((y.1.c i).bytes ++ data)).2.1, (y.1.c i).pend ++ (feedB ((y.1.c i).bytes ++ data)).1, (y.1.c i).srv, (y.1.c i).sent⟩ j
 simp only at hj ⊢
 by_cases e : j = i
 ·subst e
  rw [if_pos rfl] at hc
  rw [hc] at hj
  refine (h.2 j hj).imp id fun ⟨k1, k2⟩ => ?_
  unfold busy needs at *
  rw [hc]
  rcases ep : (y.1.c j).pend with _ | ⟨p, l⟩
  ·rw [ep] at k1; simp at k1
  ·rw [ep] at k2
   simp only [List.cons_append, List.isEmpty_cons, Bool.not_false, true_and]
   exact k2
 ·rw [if_neg e] at hc
  rw [hc] at hj
  obtain ⟨k1, k2⟩ := needs_same (f := y.1) (g := y.1.set i ⟨(feedB ((y.1.c i).bytes ++ data)).2.1, (y.1.c i).pend ++ (feedB ((y.1.c i).bytes ++ data)).1, (y.1.c i).srv, (y.1.c i).sent⟩) (i := j) rfl (by rw [hc])
  rw [k1, k2]
  exact h.2 j hj
theorem loose_act {z : Fr × PB} {y : Fr × Wo} (hs : Sim z y) {a : Ac} (ha : a.c.toNat < 6) (h : Loose y) : Loose (actM houseB y a) := by
 unfold actM
 split
 ·exact loose_pump (hs.close ha) (loose_close hs ha h)
 ·unfold deliverM
  have hp := hs.pour ha a.data
  have h1 := loose_pour hs ha a.data h
  simp only
  split
  ·exact loose_pump (hp.pump.close ha) (loose_close hp.pump ha (loose_pump hp h1))
  ·exact loose_pump hp h1
theorem loose_rest {S T : List Nat} {y : Fr × Wo} (h : Loose y) (k : AtRest S y.1) (h0 : ∀ i, i < 6 → (y.2.se i).st = 0) (hT : T.Nodup) (hl : T.length ≤ y.1.owner.length) : AtRest T y.1 := by
 refine ⟨fun i hi hne => ?_, hl, hT, k.idle, k.wait⟩
 rcases h.2 i hne with e | ⟨e, _⟩
 ·exact absurd (h0 i hi) e
 ·rw [k.idle i] at e; cases e
theorem run_loose : ∀ (l : List Ac) {z : Fr × PB} {y : Fr × Wo} {S : List Nat}, (∀ a ∈ l, a.c.toNat < 6) → Sim z y → Loose y → AtRest S y.1 → (∀ i, i < 6 → (y.2.se i).st = 0) → 1 ≤ y.1.owner.length →
  (∀ k, k ≤ l.length → ∀ i, i < 6 → (((l.take k).foldl (actV y.1.mode) (avOf y)).u.w.se i).st = 0) → avOf (runM houseB y l) = l.foldl (actV y.1.mode) (avOf y)
 | [], _, _, _, _, _, _, _, _, _, _ => rfl
 | a :: l, z, y, S, hl, hs, h, k, h0, ho, hv => by
  obtain ⟨f, w⟩ := y
  have h6 := hl a List.mem_cons_self
  have k1 := loose_rest (T := [a.c.toNat]) h k h0 (by simp) (by simpa using ho)
  obtain ⟨p1, p2, p3⟩ := act_calm hs k1 (List.mem_singleton.2 rfl) h6
  have hw := hv 1 (by simp)
  rw [show (a :: l).take 1 = [a] from rfl, show [a].foldl (actV f.mode) (avOf (f, w)) = actV f.mode (avOf (f, w)) a from rfl, ← p1] at hw
  have ih := run_loose l (fun x hx => hl x (List.mem_cons_of_mem _ hx)) (hs.actM h6) (loose_act hs h6 h) p2 hw (by rw [act_owner]; exact ho) (fun n hn i hi => by
   have := hv (n + 1) (by simp; omega) i hi
   rw [List.take_succ_cons, List.foldl_cons, ← p1] at this
   rw [p3]
   exact this)
  show avOf (runM houseB (actM houseB (f, w) a) l) = _
  rw [ih, p3, p1]
  rfl
end Go.Proofs.YtjbnfigpflambacGreatDoor
/- Plain laws, no program: what two clients of one server are answered; SettingsKept. -/
namespace Go.Proofs.YtjbnfigpflambacGreatDoor
def itK : ByteArray := ⟨#[105, 116]⟩
def getT : ByteArray := ⟨#[103, 101, 116, 32, 97]⟩
def setS (v : ByteArray) : St := ⟨9, aK, v⟩
def prepS : St := ⟨11, itK, getT⟩
def getS : St := ⟨6, aK, ⟨#[]⟩⟩
def runS : St := ⟨8, itK, ⟨#[]⟩⟩
def catQ (ts : List ByteArray) : ByteArray := ts.foldl (fun s t => s ++ msg 81 t) ⟨#[]⟩
theorem catQ_acc : ∀ (ts : List ByteArray) (s : ByteArray), ts.foldl (fun s t => s ++ msg 81 t) s = s ++ catQ ts
 | [], s => (app_none s).symm
 | t :: ts, s => by
  unfold catQ
  rw [List.foldl_cons, List.foldl_cons, catQ_acc ts, catQ_acc ts (⟨#[]⟩ ++ msg 81 t), ← ByteArray.append_assoc, none_app]
theorem catQ_cons (t : ByteArray) (ts : List ByteArray) : catQ (t :: ts) = msg 81 t ++ catQ ts := by
 have e : catQ (t :: ts) = ts.foldl (fun s t => s ++ msg 81 t) (⟨#[]⟩ ++ msg 81 t) := rfl
 rw [e, catQ_acc, none_app]
theorem feed_all : ∀ (ps : List (ByteArray × St)), (∀ p ∈ ps, TextFor p.1 p.2) → feedB (catQ (ps.map (·.1))) = (ps.map fun p => (p.2, false), ⟨#[]⟩, false)
 | [], _ => feed_nil
 | p :: ps, h => by
  rw [List.map_cons, catQ_cons, feed_msg (h p List.mem_cons_self), feed_all ps fun q hq => h q (List.mem_cons_of_mem _ hq)]
  rfl
def StepK (s : Se) (x : St) (s' : Se) (a : An) : Prop := ∀ (W : Wo) (c : Nat), c < W.ses.length → W.se c = s → (doW W c x).1.se c = s' ∧ (doW W c x).2 = a
theorem stepK_of {W : Wo} {c : Nat} (hc : c < W.ses.length) {x : St} {V : Wo} {a : An} (hd : did W c x = (V, a)) (hV : V.ses.length = W.ses.length) (h1 : (V.se c).st ≠ 1) : (doW W c x).1.se c = V.se c ∧ (doW W c x).2 = ⟨a.kind, a.text, (V.se c).st⟩ := by
 unfold doW
 rw [hd]
 have hf : failSe (V.se c) a = V.se c := by unfold failSe; rw [if_neg (fun h => h1 h.2)]
 simp only
 rw [hf]
 refine ⟨?_, rfl⟩
 rw [se_put V (by rw [hV]; exact hc), if_pos rfl]
theorem zero_ne_one' : (0 : Int) ≠ 1 := by decide
theorem stepK_set (P : List Pr) (v : ByteArray) : StepK ⟨0, [], P, [], []⟩ (setS v) ⟨0, [⟨aK, v⟩], P, [], []⟩ okA := fun W c hc h => by
 have hd : did W c (setS v) = (W.put c ⟨0, [⟨aK, v⟩], P, [], []⟩, okA) := by
  unfold did did1 setW keepP setS
  rw [h]
  rfl
 have e : (W.put c ⟨0, [⟨aK, v⟩], P, [], []⟩).se c = ⟨0, [⟨aK, v⟩], P, [], []⟩ := by rw [se_put W hc, if_pos rfl]
 have := stepK_of hc hd (put_length _ _ _) (by rw [e]; exact zero_ne_one')
 rw [e] at this
 exact this
theorem stepK_prep (S : List Pr) : StepK ⟨0, S, [], [], []⟩ prepS ⟨0, S, [⟨itK, getT⟩], [], []⟩ okA := fun W c hc h => by
 have hd : did W c prepS = (W.put c ⟨0, S, [⟨itK, getT⟩], [], []⟩, okA) := by
  unfold did did1 prepW keepP prepS
  rw [h]
  rfl
 have e : (W.put c ⟨0, S, [⟨itK, getT⟩], [], []⟩).se c = ⟨0, S, [⟨itK, getT⟩], [], []⟩ := by rw [se_put W hc, if_pos rfl]
 have := stepK_of hc hd (put_length _ _ _) (by rw [e]; exact zero_ne_one')
 rw [e] at this
 exact this
theorem found_st (o : Option ByteArray) : (⟨(foundA o).kind, (foundA o).text, 0⟩ : An) = foundA o := by cases o <;> rfl
theorem stepK_get (S P : List Pr) : StepK ⟨0, S, P, [], []⟩ getS ⟨0, S, P, [], []⟩ (foundA (atP S aK)) := fun W c hc h => by
 have hd : did W c getS = (W, foundA (atP S aK)) := by
  unfold did did1 getW getS
  rw [h]
  rfl
 have := stepK_of hc hd rfl (by rw [h]; exact zero_ne_one')
 rw [h] at this
 exact ⟨this.1, this.2.trans (found_st _)⟩
theorem stepK_no (S : List Pr) : StepK ⟨0, S, [], [], []⟩ runS ⟨0, S, [], [], []⟩ (noA tNotPrep) := fun W c hc h => by
 have hd : did W c runS = (W, noA tNotPrep) := by
  unfold did execW runS
  rw [h]
  rfl
 have := stepK_of hc hd rfl (by rw [h]; exact zero_ne_one')
 rw [h] at this
 exact this
theorem read_get : readS getT = getS := st_ext (by decide +kernel) (by decide +kernel) (by decide +kernel)
theorem stepK_run (S : List Pr) : StepK ⟨0, S, [⟨itK, getT⟩], [], []⟩ runS ⟨0, S, [⟨itK, getT⟩], [], []⟩ (foundA (atP S aK)) := fun W c hc h => by
 have hd : did W c runS = (W, foundA (atP S aK)) := by
  unfold did execW runS
  rw [h]
  have e : atP [⟨itK, getT⟩] itK = some getT := rfl
  rw [if_pos rfl, if_neg (show ¬ (0 : Int) = 2 by decide)]
  simp only [e]
  rw [read_get]
  unfold did1 getW getS
  rw [h]
  rfl
 have := stepK_of hc hd rfl (by rw [h]; exact zero_ne_one')
 rw [h] at this
 exact ⟨this.1, this.2.trans (found_st _)⟩
structure SeesU (u : Au) (S : Nat → Se) (T : Nat → List ByteArray) : Prop where
 six : u.w.ses.length = 6
 se : ∀ j, u.w.se j = S j
 sent : ∀ j, u.sent j = catM (T j)
structure Sees (v : Av) (S : Nat → Se) (T : Nat → List ByteArray) : Prop where
 u : SeesU v.u S T
 bytes : ∀ j, v.bytes j = ⟨#[]⟩
def upK {α : Type} (f : Nat → α) (c : Nat) (x : α) : Nat → α := fun j => if j = c then x else f j
theorem SeesU.serve {u : Au} {S : Nat → Se} {T : Nat → List ByteArray} (h : SeesU u S T) (mode : Int) {c : Nat} (hc : c < 6) {x : St} (hx : x.k ≠ 1) {s' : Se} {a : An} (hs : StepK (S c) x s' a) :
  SeesU (Go.Proofs.YtjbnfigpflambacGreatDoor.serve mode c u (x, false)) (upK S c s') (upK T c (T c ++ [tellA a])) := by
 obtain ⟨e1, e2⟩ := hs u.w c (by rw [h.six]; exact hc) (h.se c)
 have es : Go.Proofs.YtjbnfigpflambacGreatDoor.serve mode c u (x, false) = (⟨u.deeds ++ [⟨c, x, (doW u.w c x).2⟩], u.sent, (doW u.w c x).1⟩ : Au).tell c (doW u.w c x).2 := by
  unfold Go.Proofs.YtjbnfigpflambacGreatDoor.serve
  rw [if_neg (by simp), if_neg (fun hh => hx hh.2)]
 have m := doW_mine u.w c x
 rw [es]
 refine ⟨m.1.trans h.six, fun j => ?_, fun j => ?_⟩
 ·show (doW u.w c x).1.se j = _
  unfold upK
  split
  ·rename_i e; rw [e, e1]
  ·rename_i e; rw [m.2 j e, h.se]
 ·show (if j = c then u.sent c ++ tellM (doW u.w c x).2 else u.sent j) = _
  unfold upK
  split
  ·rw [h.sent, e2, cat_snoc, tellM_eq]
  ·exact h.sent j
theorem Sees.two {v : Av} {S : Nat → Se} {T : Nat → List ByteArray} (h : Sees v S T) (mode : Int) {c : Nat} (hc : c < 6) {t1 t2 : ByteArray} {x1 x2 : St} (h1 : TextFor t1 x1) (h2 : TextFor t2 x2) (k1 : x1.k ≠ 1) (k2 : x2.k ≠ 1) {s1 s2 : Se} {a1 a2 : An}
  (g1 : StepK (S c) x1 s1 a1) (g2 : StepK s1 x2 s2 a2) : Sees (actV mode v ⟨1, (c : Int), catQ [t1, t2]⟩) (upK (upK S c s1) c s2) (upK (upK T c (T c ++ [tellA a1])) c (T c ++ [tellA a1] ++ [tellA a2])) := by
 have hf : feedB (catQ [t1, t2]) = ([(x1, false), (x2, false)], ⟨#[]⟩, false) := feed_all [(t1, x1), (t2, x2)] (by simp; exact ⟨h1, h2⟩)
 have hb : v.bytes c ++ catQ [t1, t2] = catQ [t1, t2] := by rw [h.bytes, none_app]
 have e : actV mode v ⟨1, (c : Int), catQ [t1, t2]⟩ = ⟨Go.Proofs.YtjbnfigpflambacGreatDoor.serve mode c (Go.Proofs.YtjbnfigpflambacGreatDoor.serve mode c v.u (x1, false)) (x2, false), fun j => if j = c then ⟨#[]⟩ else v.bytes j⟩ := by
  unfold actV
  rw [if_neg (by simp)]
  show (if (feedB (v.bytes c ++ catQ [t1, t2])).2.2 = true then _ else v.fed mode c (catQ [t1, t2])) = _
  rw [hb, hf, if_neg (by simp)]
  unfold Av.fed
  rw [hb, hf]
  rfl
 have u1 := h.u.serve mode hc k1 g1
 have e1 : upK S c s1 c = s1 := if_pos rfl
 have e2 : upK T c (T c ++ [tellA a1]) c = T c ++ [tellA a1] := if_pos rfl
 have u2 := u1.serve mode hc k2 (by rw [e1]; exact g2)
 rw [e2] at u2
 rw [e]
 refine ⟨u2, fun j => ?_⟩
 show (if j = c then _ else v.bytes j) = _
 split
 ·rfl
 ·exact h.bytes j
theorem Sees.three {v : Av} {S : Nat → Se} {T : Nat → List ByteArray} (h : Sees v S T) (mode : Int) {c : Nat} (hc : c < 6) {t1 t2 t3 : ByteArray} {x1 x2 x3 : St} (h1 : TextFor t1 x1) (h2 : TextFor t2 x2) (h3 : TextFor t3 x3) (k1 : x1.k ≠ 1) (k2 : x2.k ≠ 1) (k3 : x3.k ≠ 1) {s1 s2 s3 : Se} {a1 a2 a3 : An}
  (g1 : StepK (S c) x1 s1 a1) (g2 : StepK s1 x2 s2 a2) (g3 : StepK s2 x3 s3 a3) : Sees (actV mode v ⟨1, (c : Int), catQ [t1, t2, t3]⟩) (upK S c s3) (upK T c (T c ++ [tellA a1, tellA a2, tellA a3])) := by
 have hf : feedB (catQ [t1, t2, t3]) = ([(x1, false), (x2, false), (x3, false)], ⟨#[]⟩, false) := feed_all [(t1, x1), (t2, x2), (t3, x3)] (by simp; exact ⟨h1, h2, h3⟩)
 have hb : v.bytes c ++ catQ [t1, t2, t3] = catQ [t1, t2, t3] := by rw [h.bytes, none_app]
 have e : actV mode v ⟨1, (c : Int), catQ [t1, t2, t3]⟩ = ⟨Go.Proofs.YtjbnfigpflambacGreatDoor.serve mode c (Go.Proofs.YtjbnfigpflambacGreatDoor.serve mode c (Go.Proofs.YtjbnfigpflambacGreatDoor.serve mode c v.u (x1, false)) (x2, false)) (x3, false), fun j => if j = c then ⟨#[]⟩ else v.bytes j⟩ := by
  unfold actV
  rw [if_neg (by simp)]
  show (if (feedB (v.bytes c ++ catQ [t1, t2, t3])).2.2 = true then _ else v.fed mode c (catQ [t1, t2, t3])) = _
  rw [hb, hf, if_neg (by simp)]
  unfold Av.fed
  rw [hb, hf]
  rfl
 have ee : ∀ {α : Type} (f : Nat → α) (x : α), upK f c x c = x := fun f x => if_pos rfl
 have eu : ∀ {α : Type} (f : Nat → α) (x y : α), upK (upK f c x) c y = upK f c y := fun f x y => by
  funext j; unfold upK; split <;> rfl
 have u1 := h.u.serve mode hc k1 g1
 have u2 := u1.serve mode hc k2 (by rw [ee]; exact g2)
 rw [ee, eu, eu] at u2
 have u3 := u2.serve mode hc k3 (by rw [ee]; exact g3)
 rw [ee, eu, eu] at u3
 rw [e]
 refine ⟨by simpa using u3, fun j => ?_⟩
 show (if j = c then _ else v.bytes j) = _
 split
 ·rfl
 ·exact h.bytes j
theorem Sees.leave {v : Av} {S : Nat → Se} {T : Nat → List ByteArray} (h : Sees v S T) (mode : Int) {c : Nat} (hc : c < 6) (d : ByteArray) : Sees (actV mode v ⟨2, (c : Int), d⟩) (upK S c Se.new) T := by
 have e : actV mode v ⟨2, (c : Int), d⟩ = v.leave c := by unfold actV; rw [if_pos rfl]; rfl
 rw [e]
 refine ⟨⟨(put_length _ _ _).trans h.u.six, fun j => ?_, h.u.sent⟩, fun j => ?_⟩
 ·show (v.u.w.put c Se.new).se j = _
  rw [se_put _ (by rw [h.u.six]; exact hc)]
  unfold upK
  split
  ·rfl
  ·exact h.u.se j
 ·show (if j = c then _ else v.bytes j) = _
  split
  ·rfl
  ·exact h.bytes j
def keptL (t1 t2 t3 t4 t5 : ByteArray) : List Ac :=
 [⟨1, ((0 : Nat) : Int), catQ [t1, t2]⟩, ⟨1, ((1 : Nat) : Int), catQ [t3, t4, t5]⟩, ⟨1, ((0 : Nat) : Int), catQ [t3, t4]⟩, ⟨1, ((1 : Nat) : Int), catQ [t3, t4]⟩, ⟨2, ((0 : Nat) : Int), ⟨#[]⟩⟩, ⟨1, ((0 : Nat) : Int), catQ [t3, t4]⟩]
theorem kept_law (mode : Int) (hm : mode ≠ 1) (n : Nat) (h1 : 1 ≤ n) (hn : n ≤ 8) {t1 t2 t3 t4 t5 v o : ByteArray} (q1 : TextFor t1 (setS v)) (q2 : TextFor t2 prepS) (q3 : TextFor t3 getS) (q4 : TextFor t4 runS) (q5 : TextFor t5 (setS o)) :
  ((runM houseB (startF mode n, startH) (keptL t1 t2 t3 t4 t5)).1.c 0).sent = catM [tellA okA, tellA okA, tellA ⟨2, v, 0⟩, tellA ⟨2, v, 0⟩, tellA ⟨3, ⟨#[]⟩, 0⟩, tellA (noA tNotPrep)] ∧
  ((runM houseB (startF mode n, startH) (keptL t1 t2 t3 t4 t5)).1.c 1).sent = catM [tellA ⟨3, ⟨#[]⟩, 0⟩, tellA (noA tNotPrep), tellA okA, tellA ⟨2, o, 0⟩, tellA (noA tNotPrep)] := by
 have z0 : Sees av0 (fun _ => Se.new) (fun _ => []) := ⟨⟨rfl, fun j => rep_getD 6 j Se.new, fun j => rfl⟩, fun j => rfl⟩
 have z1 := z0.two mode (c := 0) (by decide) q1 q2 (by simp [setS]) (by simp [prepS]) (stepK_set [] v) (stepK_prep _)
 have z2 := z1.three mode (c := 1) (by decide) q3 q4 q5 (by simp [getS]) (by simp [runS]) (by simp [setS]) (stepK_get [] []) (stepK_no []) (stepK_set [] o)
 have z3 := z2.two mode (c := 0) (by decide) q3 q4 (by simp [getS]) (by simp [runS]) (stepK_get [⟨aK, v⟩] [⟨itK, getT⟩]) (stepK_run _)
 have z4 := z3.two mode (c := 1) (by decide) q3 q4 (by simp [getS]) (by simp [runS]) (stepK_get [⟨aK, o⟩] []) (stepK_no _)
 have z5 := z4.leave mode (c := 0) (by decide) ⟨#[]⟩
 have z6 := z5.two mode (c := 0) (by decide) q3 q4 (by simp [getS]) (by simp [runS]) (stepK_get [] []) (stepK_no _)
 have hr := run_loose (keptL t1 t2 t3 t4 t5) (z := (startF mode n, startP n)) (y := (startF mode n, startH)) (S := [0]) (by intro a ha; simp [keptL] at ha; rcases ha with rfl | rfl | rfl | rfl | rfl | rfl <;> simp) (start_sim mode n hn) ⟨hm, fun i hi => absurd (by rw [start_c]; rfl) hi⟩
  (start_calm mode n (by simp) (by simpa using h1)) (fun i _ => by rw [show startH.se i = Se.new from rep_getD 6 i Se.new]; rfl) (by simpa [startF] using h1) (fun k hk i _ => by
   rw [start_av]
   show ((((keptL t1 t2 t3 t4 t5).take k).foldl (actV mode) av0).u.w.se i).st = 0
   have hk : k ≤ 6 := hk
   have hz : ∀ {u : Av} {S : Nat → Se} {T : Nat → List ByteArray}, Sees u S T → (S i).st = 0 → (u.u.w.se i).st = 0 := fun h h0 => by rw [h.u.se]; exact h0
   have hup : ∀ (S : Nat → Se) (c : Nat) (s : Se), (S i).st = 0 → s.st = 0 → (upK S c s i).st = 0 := fun S c s a b => by unfold upK; split <;> assumption
   have k0 : ((fun _ => Se.new : Nat → Se) i).st = 0 := rfl
   have k1 := hup _ 0 ⟨0, [⟨aK, v⟩], [⟨itK, getT⟩], [], []⟩ (hup (fun _ => Se.new) 0 ⟨0, [⟨aK, v⟩], [], [], []⟩ k0 rfl) rfl
   have k2 := hup _ 1 ⟨0, [⟨aK, o⟩], [], [], []⟩ k1 rfl
   have k3 := hup _ 0 ⟨0, [⟨aK, v⟩], [⟨itK, getT⟩], [], []⟩ (hup _ 0 ⟨0, [⟨aK, v⟩], [⟨itK, getT⟩], [], []⟩ k2 rfl) rfl
   have k4 := hup _ 1 ⟨0, [⟨aK, o⟩], [], [], []⟩ (hup _ 1 ⟨0, [⟨aK, o⟩], [], [], []⟩ k3 rfl) rfl
   have k5 := hup _ 0 Se.new k4 rfl
   have k6 := hup _ 0 ⟨0, [], [], [], []⟩ (hup _ 0 ⟨0, [], [], [], []⟩ k5 rfl) rfl
   obtain rfl | rfl | rfl | rfl | rfl | rfl | rfl : k = 0 ∨ k = 1 ∨ k = 2 ∨ k = 3 ∨ k = 4 ∨ k = 5 ∨ k = 6 := by omega
   ·exact hz z0 k0
   ·exact hz z1 k1
   ·exact hz z2 k2
   ·exact hz z3 k3
   ·exact hz z4 k4
   ·exact hz z5 k5
   ·exact hz z6 k6)
 rw [start_av] at hr
 have s0 := z6.u.sent 0
 have s1 := z6.u.sent 1
 have he : avOf (runM houseB (startF mode n, startH) (keptL t1 t2 t3 t4 t5)) = actV mode (actV mode (actV mode (actV mode (actV mode (actV mode av0 ⟨1, ((0 : Nat) : Int), catQ [t1, t2]⟩) ⟨1, ((1 : Nat) : Int), catQ [t3, t4, t5]⟩) ⟨1, ((0 : Nat) : Int), catQ [t3, t4]⟩) ⟨1, ((1 : Nat) : Int), catQ [t3, t4]⟩) ⟨2, ((0 : Nat) : Int), ⟨#[]⟩⟩) ⟨1, ((0 : Nat) : Int), catQ [t3, t4]⟩ := hr
 rw [← he] at s0 s1
 exact ⟨s0, s1⟩
end Go.Proofs.YtjbnfigpflambacGreatDoor
/- SettingsKept's closure: the act of a client's statements. -/
namespace Go.Proofs.YtjbnfigpflambacGreatDoor
open Go.ChangeShapes Go.WideShapes Go.ChangeAt Go.RowKit
theorem catQ_snoc (ts : List ByteArray) (t : ByteArray) : catQ (ts ++ [t]) = catQ ts ++ msg 81 t := by unfold catQ; rw [List.foldl_append]; rfl
theorem catQ_sz : ∀ (ts : List ByteArray), (∀ t ∈ ts, t.size ≤ 120) → (catQ ts).size ≤ ts.length * 122
 | [], _ => Nat.le_refl _
 | t :: ts, h => by
  have ih := catQ_sz ts fun x hx => h x (List.mem_cons_of_mem _ hx)
  have := h t List.mem_cons_self
  rw [catQ_cons, ByteArray.size_append, msg_size, List.length_cons]
  omega
structure Said (x : St) : Prop where
 c : checkE x = 0
 k : x.key.size ≤ 60
 v : x.val.size ≤ 60
 t : (textOf x).size ≤ 120
set_option maxHeartbeats 4000000 in
set_option maxRecDepth 100000 in
theorem katc_any (w : World) (c : Nat) (xs : List St) (v : Value) (hv : StL w w.heap.size v xs) (hT : Tabs w) (hx : ∀ x ∈ xs, Said x) (hn : xs.length ≤ 10) :
  Calls Tryz.prog 25 #[.int .i64 (c : Nat), v] w fun e w' => e = .returned (.agg #[.int .i64 1, .int .i64 (c : Nat), .string (catQ (xs.map textOf))]) ∧ Below w.heap.size w w' := by
 have HV := Lib.hid hv
 obtain ⟨A, cap, rfl, hc1, _⟩ := hv
 obtain ⟨N, hN⟩ : ∃ N, xs.length = N := ⟨_, rfl⟩
 rw [hN] at hc1 hn ⊢
 have HN := Lib.hid hN
 have HT := Lib.hid hT
 have HX := Lib.hid hx
 obtain ⟨q, hq⟩ : ∃ q, w.heap.size = q := ⟨_, rfl⟩
 have B0 := Lib.hid (boxed w (.cells #[.int .i64 0, .int .i64 0, .string ⟨#[]⟩] 54))
 have X0 := Lib.hid (by have h := Blk.new w 54 #[.int .i64 0, .int .i64 0, .string ⟨#[]⟩]; rw [hq] at h; exact h)
 have HQ := Lib.hid hq
 clear hN hT hx
 go_enter Tryz.func25, Tryz.ntmps25
 go_wp2_with fail
 go_loopw [5, 10] (fun s i wx => ∃ k : Nat, k ≤ N ∧ i = .int .i64 k ∧ s = .string (catQ ((xs.take k).map textOf)) ∧ Below w.heap.size w wx ∧ Blk wx q 54 #[.int .i64 0, .int .i64 0, .string ⟨#[]⟩]) (fun _ i _ => N - (intOf i).toNat)
 case atStart => exact ⟨0, Nat.zero_le _, rfl, rfl, B0.out, X0.out⟩
 case round =>
  obtain ⟨k, hk, rfl, rfl, hb, hx⟩ := hrel
  have HB := Lib.hid hb
  have HX0 := Lib.hid hx
  by_cases hlt : k < N
  ·have hkl : k < xs.length := by rw [HN.out]; exact hlt
   have g1 : (k : Int) < (N : Int) := by omega
   have g2 : (0 : Int) ≤ (k : Int) := by omega
   obtain ⟨_, _, e0, _, hrow⟩ := HV.out
   injection e0 with e1 e2 e3
   subst e3
   obtain ⟨ad, hA, hB, hat⟩ := hrow (by omega)
   rw [hA] at e1
   subst e1
   have hR := (hat k hkl).below (by rw [block_of_add]; exact hB) hb
   have hS := HX.out xs[k] (List.getElem_mem hkl)
   have hsn : catQ ((xs.take (k + 1)).map textOf) = catQ ((xs.take k).map textOf) ++ msgQ xs[k] := by
    rw [List.take_succ_eq_append_getElem hkl, List.map_append]
    exact catQ_snoc _ _
   have hz1 := catQ_sz ((xs.take k).map textOf) (by
    intro t ht
    obtain ⟨x, hx, rfl⟩ := List.mem_map.1 ht
    exact (HX.out x (List.mem_of_mem_take hx)).t)
   rw [List.length_map, List.length_take] at hz1
   obtain ⟨x, hx'⟩ : ∃ x, xs[k] = x := ⟨_, rfl⟩
   rw [hx'] at hR hS hsn
   have HMS := Lib.hid (fun (u : World) (hT : Tabs u) => message_any x u hT hS.c (by have := hS.k; unfold maxLen; omega) (by have := hS.v; unfold maxLen; omega) hS.t)
   have hz2 : (msgQ x).size ≤ 122 := by unfold msgQ; rw [msg_size]; have := hS.t; omega
   obtain ⟨S, hSe⟩ : ∃ S, catQ ((xs.take k).map textOf) = S := ⟨_, rfl⟩
   obtain ⟨M, hMe⟩ : ∃ M, msgQ x = M := ⟨_, rfl⟩
   rw [hSe] at hz1 hsn ⊢
   rw [hMe] at hz2 hsn HMS
   have HSN := Lib.hid hsn
   obtain ⟨c0, c1, c2⟩ := hR
   obtain ⟨yk, ykey, yval⟩ := x
   unfold St.v at HMS
   have hzS : S.size ≤ 1220 := by omega
   clear hS hsn hz1 hSe hMe hx' hat hrow hb hx
   go_upto_region 5 with fail
   have bb := boxed wr (.cells #[.int .i64 yk, .string ykey, .string yval] 41)
   have B1 := Lib.hid (below_step HB.out (Nat.le_refl _) bb)
   have X1 := Lib.hid (HX0.out.keep bb)
   have Y := Blk.new wr 41 #[.int .i64 yk, .string ykey, .string yval]
   have y0 := Y.cell_ 0 _ rfl
   have y1 := Y.cell_ 1 _ rfl
   have y2 := Y.cell_ 2 _ rfl
   clear bb c0 c1 c2 Y HB HX0
   generalize World.alloc _ _ = w2 at B1 X1 y0 y1 y2 ⊢
   go_wp2_with fail
   refine (HMS.out w2 (HT.out.below B1.out)).mono ?_
   rintro e w3 ⟨rfl, b3⟩
   have B3 := Lib.hid (below_step B1.out (Nat.le_refl _) b3)
   have X3 := Lib.hid (X1.out.keep b3)
   clear b3 y0 y1 y2 B1 X1
   go_wp2_with fail
   go_roundw
   case rel => exact ⟨k + 1, by omega, by go_num, by rw [HSN.out], B3.out, X3.out⟩
   case measure => simp [intOf]; omega
  ·have g1 : (N : Int) ≤ (k : Int) := by omega
   have htk : xs.take k = xs := List.take_of_length_le (by rw [HN.out]; omega)
   rw [htk]
   obtain ⟨S, hSe⟩ : ∃ S, catQ (xs.map textOf) = S := ⟨_, rfl⟩
   rw [hSe]
   have x0 := hx.cell_ 0 _ rfl
   have x1 := hx.cell_ 1 _ rfl
   have x2 := hx.cell_ 2 _ rfl
   have fx := hx.frozen
   clear htk hb hx hlt
   go_wp2_with fail
   have X5 := ((HX0.out.set_ 0 (.int .i64 1)).set_ 1 (.int .i64 (c : Nat))).set_ 2 (.string S)
   have q0 := X5.cell_ 0 _ rfl
   have q1 := X5.cell_ 1 _ rfl
   have q2 := X5.cell_ 2 _ rfl
   have FIN := ((HB.out.setCell (p := ⟨q, 0, none⟩) (by show w.heap.size ≤ q; rw [HQ.out]; exact Nat.le_refl _) (.int .i64 1)).setCell (p := ⟨q, 1, none⟩) (by show w.heap.size ≤ q; rw [HQ.out]; exact Nat.le_refl _) (.int .i64 (c : Nat))).setCell (p := ⟨q, 2, none⟩) (by show w.heap.size ≤ q; rw [HQ.out]; exact Nat.le_refl _) (.string S)
   refine bodyPost_ret (v := .agg #[.int .i64 1, .int .i64 (c : Nat), .string S]) ?_ rfl ⟨by rw [hSe], FIN⟩
   simp [results, Tryz.results25, go_sem, q0, q1, q2]
end Go.Proofs.YtjbnfigpflambacGreatDoor
/- A region that draws its order, by what holds whatever is done: for regions with too many orders to write down. -/
namespace Go.Proofs.YtjbnfigpflambacGreatDoor
open Go.RowKit
section
variable {P : Program} {ops : Array Oper} {Q : Exit → Act → World → Prop} {md : Region.Mode} {late : List Nat}
def depsOf (md : Region.Mode) (ops : Array Oper) (j : Nat) : List Nat :=
 match ops[j]? with
 | some q => (q.after.toList.filter fun e => Region.binds md e).map (·.on)
 | none => []
theorem ready_deps {d : Array Bool} {j : Nat} (h : j ∈ Region.ready md ops d) : d.getD j true = false ∧ ∀ k ∈ depsOf md ops j, d.getD k false = true := by
 obtain ⟨h0, q, hq, hall⟩ := mem_ready.1 h
 refine ⟨h0, fun k hk => ?_⟩
 unfold depsOf at hk
 rw [hq] at hk
 obtain ⟨e, he, rfl⟩ := List.mem_map.1 hk
 obtain ⟨he1, he2⟩ := List.mem_filter.1 he
 exact hall e (by simpa using he1) he2
def leftN (d : Array Bool) : Nat := d.toList.count false
theorem left_set {d : Array Bool} {j : Nat} (h : d.getD j true = false) : leftN (d.setIfInBounds j true) + 1 = leftN d := by
 have hj : j < d.toList.length := by
  rw [Array.length_toList]
  rcases Nat.lt_or_ge j d.size with h' | h'
  ·exact h'
  ·rw [Array.getD_eq_getD_getElem?, Array.getElem?_eq_none h'] at h
   cases h
 have hv : d.toList[j] = false := by
  rw [Array.getD_eq_getD_getElem?, ← Array.getElem?_toList, List.getElem?_eq_getElem hj] at h
  exact h
 unfold leftN
 rw [Array.toList_setIfInBounds]
 have hc := List.count_set (a := true) (b := false) (l := d.toList) (i := j) hj
 rw [hv] at hc
 have hp : 0 < d.toList.count false := List.count_pos_iff.2 (by rw [← hv]; exact List.getElem_mem hj)
 rw [if_pos (show (false == false) = true from rfl), if_neg (show ¬ (true == false) = true by decide)] at hc
 rw [hc]
 omega
def backB (md : Region.Mode) (ops : Array Oper) : Bool := (List.range ops.size).all fun j => (depsOf md ops j).all fun k => decide (k < j)
theorem all_done {d : Array Bool} (hb : backB md ops = true) (hz : d.size = ops.size) (h : Region.ready md ops d = []) : ∀ j, j < ops.size → d.getD j false = true := by
 intro j
 induction j using Nat.strongRecOn with
 | ind j ih =>
  intro hj
  cases hv : d.getD j false with
  | true => rfl
  | false =>
   exfalso
   have h0 : d.getD j true = false := by
    rw [Array.getD_eq_getD_getElem?, Array.getElem?_eq_getElem (by omega)] at hv ⊢
    exact hv
   have hm : j ∈ Region.ready md ops d := mem_ready.2 ⟨h0, ops[j], Array.getElem?_eq_getElem hj, fun e he hbn => by
    have hk : e.on ∈ depsOf md ops j := by
     unfold depsOf
     rw [Array.getElem?_eq_getElem hj]
     exact List.mem_map.2 ⟨e, List.mem_filter.2 ⟨by simpa using he, hbn⟩, rfl⟩
    have := List.all_eq_true.1 (List.all_eq_true.1 hb j (List.mem_range.2 hj)) _ hk
    have hlt : e.on < j := by simpa using this
    exact ih _ hlt (by omega)⟩
   rw [h] at hm
   cases hm
theorem anyB_inv (I : Array Bool → Act → World → Prop)
  (stop : ∀ d a w, I d a w → Region.ready md ops d = [] → False)
  (step : ∀ d a w j, I d a w → j ∈ Region.ready md ops d → wpOp P ops Q j (fun b u => (j ∉ late → Below w.heap.size w u) ∧ (I (d.setIfInBounds j true) b u ∨ anyB P md ops Q late (leftN (d.setIfInBounds j true)) (d.setIfInBounds j true) b u)) a w) :
  ∀ (n : Nat) (d : Array Bool) (a : Act) (w : World), leftN d = n → I d a w → anyB P md ops Q late n d a w := by
 intro n
 induction n with
 | zero =>
  intro d a w hn hI
  exfalso
  refine stop d a w hI ?_
  cases h : Region.ready md ops d with
  | nil => rfl
  | cons j l =>
   have := left_set (ready_deps (md := md) (ops := ops) (d := d) (j := j) (by rw [h]; exact List.mem_cons_self)).1
   omega
 | succ n ih =>
  intro d a w hn hI
  refine ⟨fun h => (stop d a w hI h).elim, fun j hj => wpOp_mono (fun b u hb => ⟨hb.1, ?_⟩) (step d a w j hI hj)⟩
  have hl := left_set (ready_deps hj).1
  rcases hb.2 with h | h
  ·exact ih _ b u (by omega) h
  ·have e : leftN (d.setIfInBounds j true) = n := by omega
   rw [e] at h
   exact h
end
end Go.Proofs.YtjbnfigpflambacGreatDoor
