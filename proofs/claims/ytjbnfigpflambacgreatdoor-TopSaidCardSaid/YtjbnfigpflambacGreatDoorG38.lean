/- More of the texts: Shelf, Tx, Ex, Acts, An, EqD, BoxN, Sd, Msg, SaidP. -/
import Derived.Test.YtjbnfigpflambacGreatDoorProg
import Derived.Test.YtjbnfigpflambacGreatDoorRows
import Derived.Test.YtjbnfigpflambacGreatDoorG00
import Derived.Test.YtjbnfigpflambacGreatDoorG01
import Derived.Test.YtjbnfigpflambacGreatDoorG02
import Derived.Test.YtjbnfigpflambacGreatDoorG03
import Derived.Test.YtjbnfigpflambacGreatDoorG04
import Derived.Test.YtjbnfigpflambacGreatDoorG05
import Derived.Test.YtjbnfigpflambacGreatDoorG06
import Derived.Test.YtjbnfigpflambacGreatDoorG07
import Derived.Test.YtjbnfigpflambacGreatDoorG08
import Derived.Test.YtjbnfigpflambacGreatDoorG09
import Derived.Test.YtjbnfigpflambacGreatDoorG10
import Derived.Test.YtjbnfigpflambacGreatDoorG11
import Derived.Test.YtjbnfigpflambacGreatDoorG12
import Derived.Test.YtjbnfigpflambacGreatDoorG13
import Derived.Test.YtjbnfigpflambacGreatDoorG14
import Derived.Test.YtjbnfigpflambacGreatDoorG15
import Derived.Test.YtjbnfigpflambacGreatDoorG16
import Derived.Test.YtjbnfigpflambacGreatDoorG17
import Derived.Test.YtjbnfigpflambacGreatDoorG18
import Derived.Test.YtjbnfigpflambacGreatDoorG19
import Derived.Test.YtjbnfigpflambacGreatDoorG20
import Derived.Test.YtjbnfigpflambacGreatDoorG21
import Derived.Test.YtjbnfigpflambacGreatDoorG22
import Derived.Test.YtjbnfigpflambacGreatDoorG23
import Derived.Test.YtjbnfigpflambacGreatDoorG24
import Derived.Test.YtjbnfigpflambacGreatDoorG25
import Derived.Test.YtjbnfigpflambacGreatDoorG26
import Derived.Test.YtjbnfigpflambacGreatDoorG27
import Derived.Test.YtjbnfigpflambacGreatDoorG28
import Derived.Test.YtjbnfigpflambacGreatDoorG29
import Derived.Test.YtjbnfigpflambacGreatDoorG30
import Derived.Test.YtjbnfigpflambacGreatDoorG31
import Derived.Test.YtjbnfigpflambacGreatDoorG32
import Derived.Test.YtjbnfigpflambacGreatDoorG33
import Derived.Test.YtjbnfigpflambacGreatDoorG34
import Derived.Test.YtjbnfigpflambacGreatDoorG35
import Derived.Test.YtjbnfigpflambacGreatDoorG36
import Derived.Shelf.Strings.Builder1
import Derived.Shelf.Small.Strs
import Derived.Shelf.Strings.BuilderF
import Derived.Shelf.Strings.BuilderK
import Derived.Shelf.Strconv.Itoa0
import Derived.Shelf.Strconv.Itoa1
import Derived.Shelf.LaysM
import Derived.Shelf.Strconv.Itoa2
import Derived.Shelf.Strconv.Itoa3
import Derived.Shelf.Strings.Search1
import Derived.Shelf.Strings.Search2
import Derived.Shelf.Strings.Search3
import Derived.Shelf.Strings.Count
import Derived.Shelf.Strings.Shaped
import Derived.Shelf.Strings.Prefix
import Derived.Shelf.Strings.Split
import Derived.Shelf.Strings.SplitShaped
import Derived.Shelf.Bits.Mul64
import Derived.Shelf.Unicode.DecodeSlow
import Derived.Shelf.Strings.BuilderCap
import Derived.Shelf.Slices.Turned
import Derived.Shelf.Slices.Equal
import Derived.Shelf.Slices.Empties2
import Derived.Lib.Split
import Derived.Lib.SplitLaws
import Derived.Lib.SlicesS
import Derived.Lib.IndexBytes
import Derived.Lib.Bytealg
import GoSem.Op.String
import Derived.WalkKit
import Derived.ProofKit
import Derived.OpenShut
import Derived.Below
import Derived.Outline
import Derived.Lib.Hide
import Derived.ShutString
import Derived.ChangeOld
import Derived.Lib.SmallJoins
import Derived.Laws.OwnMore
import Derived.Deep.AppendLies
import Derived.Deep.Draws
import Derived.Laws.Rows
import Derived.Maps.AppendAt
import Derived.RegionTactic
import Derived.OwnWalk
import Derived.Deep.QuietTactic
import Derived.BigQuiet
import Derived.WalkSpells
import Derived.WalkLawsBesides
import Derived.Deep.RegionHeld3
import Derived.Deep.Slices
import Derived.Deep.Fields
import Derived.ChangeSame
import Derived.SizedLaws
import Derived.Lib.ConvBytes
import Derived.Lib.LaidTab
import Derived.Deep.DeepCutAuto
import Derived.Lib.IndexLaws
import Derived.OrdersHeld
import Derived.Lib.AppendStr
import Derived.Laws.CopyRow
import Derived.Laws.IdiomCopy
import Derived.Laws.AppendOwn
import Derived.Lib.AppendZerosOnto
import Derived.Lib.Overlaps
import Derived.Tactics
import Derived.Laws.Externs
import Derived.Deep.DeepHandedRow
import Derived.Maps.Own
import Derived.Maps.OwnSet
import Derived.Maps.Views
import Derived.Maps.OwnOps
import Derived.Laws.MakeOwn
import Derived.Deep.CutBlock
import Derived.Lib.Builder
import Derived.Lib.Walk
import Derived.Lib.UnsafeStr
import Derived.Lib.SliceRun
/-
 DERIVED: THE SHELF's CONTRACTS AT THIS DUMP, IN PLAIN WORDS (tools/lay-plain.mjs out of 'TryzShelf.lean', which tools/lay-shelf.mjs wrote): THE SAME DECLARATIONS UNDER THE SAME NAMES: 'import', 'namespace', 'open', 'def', 'theorem' AND NOTHING ELSE: no command of the shelf's: FOR A HAND-IN. Each laying: the table of numbers ('.._ren') and one theorem, a field a fact of the dump's own or the kernel's comparison; each contract: ONE APPLICATION.
-/
namespace Go.Proofs
open Go.Shelf
def Tryz.lays144_ren : Go.Shelf.Ren := ⟨fun | 144 => 31 | 143 => 59 | 219 => 87 | 217 => 115 | 225 => 116 | 224 => 117 | 267 => 118 | 266 => 139 | 314 => 140 | n => n, fun | 9 => 9 | 4 => 4 | 3 => 3 | 5 => 5 | 46 => 136 | 146 => 166 | 51 => 165 | n => n, fun | 1 => 1 | n => n⟩
theorem Tryz.lays144 : Go.Proofs.Lays.n144 Tryz.prog Tryz.lays144_ren := {
 mixed := by kernel_rfl
 f143 := Tryz.func59.trans (congrArg some (by kernel_rfl))
 f144 := Tryz.func31.trans (congrArg some (by kernel_rfl))
 f217 := Tryz.func115.trans (congrArg some (by kernel_rfl))
 f219 := Tryz.func87.trans (congrArg some (by kernel_rfl))
 f224 := Tryz.func117.trans (congrArg some (by kernel_rfl))
 f225 := Tryz.func116.trans (congrArg some (by kernel_rfl))
 f266 := Tryz.func139.trans (congrArg some (by kernel_rfl))
 f267 := Tryz.func118.trans (congrArg some (by kernel_rfl))
 f314 := Tryz.func140.trans (congrArg some (by kernel_rfl))
 t3 := Tryz.underlying3
 a3 := Tryz.isAgg3
 z3 := Tryz.sizeOf3
 v3 := Tryz.zeroValue3
 t4 := Tryz.underlying4
 a4 := Tryz.isAgg4
 z4 := Tryz.sizeOf4
 v4 := Tryz.zeroValue4
 t5 := Tryz.underlying5
 a5 := Tryz.isAgg5
 z5 := Tryz.sizeOf5
 v5 := Tryz.zeroValue5
 t9 := Tryz.underlying9
 a9 := Tryz.isAgg9
 z9 := Tryz.sizeOf9
 v9 := Tryz.zeroValue9
 t46 := Tryz.underlying136
 a46 := Tryz.isAgg136
 z46 := Tryz.sizeOf136
 v46 := Tryz.zeroValue136
 t51 := Tryz.underlying165
 a51 := Tryz.isAgg165
 z51 := Tryz.sizeOf165
 v51 := Tryz.zeroValue165
 t146 := Tryz.underlying166
 a146 := Tryz.isAgg166
 z146 := Tryz.sizeOf166
 v146 := Tryz.zeroValue166
 g1 := by kernel_rfl }
open Go.RowKit Go.Lib in
theorem Tryz.strings_Contains (s sub : ByteArray) (m : Int) (w : World) (hs : s.size < 4294967281) (hm : w.cell? ⟨1, 0, none⟩ = some (.int .i64 m)) :
  Calls Tryz.prog 31 #[.string s, .string sub] w fun e w' => e = .returned (.bool (Lib.contains s.data.toList sub.data.toList)) ∧ w' = w := Any.strings_Contains Tryz.lays144 s sub m w hs hm
end Go.Proofs
/- Plain laws, no program: messages and the texts of answers. -/
namespace Go.Proofs.YtjbnfigpflambacGreatDoor
theorem msg_list (k : UInt8) (t : ByteArray) : (msg k t).data.toList = k :: UInt8.ofNat t.size :: t.data.toList := by simp [msg]
theorem msg_at {k : UInt8} {t more : ByteArray} (h0 : 0 < (msg k t ++ more).size) (h1 : 1 < (msg k t ++ more).size) : (msg k t ++ more)[0]'h0 = k ∧ (msg k t ++ more)[1]'h1 = UInt8.ofNat t.size := by
 rw [list_get, list_get]
 have e : (msg k t ++ more).data.toList = k :: UInt8.ofNat t.size :: (t.data.toList ++ more.data.toList) := by simp [msg_list]
 exact ⟨by simp only [e]; rfl, by simp only [e]; rfl⟩
theorem msg_text (k : UInt8) (t more : ByteArray) : (msg k t ++ more).extract 2 (2 + t.size) = t := by
 refine arr_eq ?_
 rw [extract_list]
 have e : (msg k t ++ more).data.toList = k :: UInt8.ofNat t.size :: (t.data.toList ++ more.data.toList) := by simp [msg_list]
 rw [e]
 simp
end Go.Proofs.YtjbnfigpflambacGreatDoor
/- Plain laws, no program: what was sent and done stays; what is true of a house whatever is said. -/
namespace Go.Proofs.YtjbnfigpflambacGreatDoor
section
variable {β : Type} (B : Bh β)
end
theorem RB.goodH {o : List Int} {sv : Nat → Int} {b : PB} {h : Wo} (r : RB o sv b h) (c : FO o sv) : Good h := by
 refine ⟨by rw [← r.rows]; exact r.good.rows, by rw [r.ses6]; decide, fun i hi => ?_, fun i j hi hj hne k hk => ?_, by rw [← r.keys c]; exact r.good.room⟩
 ·rw [r.ses6] at hi
  rcases c.cl i hi with e | ⟨s, _, e, _⟩
  ·obtain ⟨h1, _, h3, h4⟩ := r.loose i hi e
   show GoodSe (h.se i)
   rw [h1]
   exact ⟨by simp, by simp, h3, h4, pairs_nil _ _, pairs_nil _ _, fun _ => rfl, fun _ => rfl⟩
  ·exact r.goodSe c hi e
 ·rw [r.ses6] at hi hj
  rcases c.cl i hi with e | ⟨s, _, e, _⟩
  ·have hk' : hasK (h.se i).wri k = true := hk
   rw [(r.loose i hi e).1, hasK_nil] at hk'
   cases hk'
  ·have h1 := r.held c hi e k
   have g := r.good.notHeld (i := s) (by rw [r.ses]; exact (c.at_ hi e).1) (k := k) (by rw [(r.bound i s hi e).1]; exact hk)
   rw [h1] at g
   cases h2 : hasK (h.ses.getD j Se.new).wri k with
   | false => rfl
   | true =>
    have := (held_iff h.ses i k).2 ⟨j, by rw [r.ses6]; exact hj, hne, h2⟩
    rw [this] at g
    cases g
section
variable {P : List De → Wo → Prop}
end
end Go.Proofs.YtjbnfigpflambacGreatDoor
/- The acts of raw things: tillermankeep.Acts. -/
namespace Go.Proofs.YtjbnfigpflambacGreatDoor
open Go.ChangeShapes Go.WideShapes Go.ChangeAt Go.RowKit
theorem own_acl {w : World} {B : Nat} {v : Value} {l : List Ac} (h : w.ownsRow B 54 3 v l.length (acV l)) : AcL w w.heap.size v l := by
 obtain ⟨A, c, rfl⟩ := own_slice h
 have r := Reads.of_own h
 refine ⟨A, c, rfl, fun hn => ?_⟩
 obtain ⟨ad, e, hb, hc⟩ := r.2 hn
 refine ⟨ad, e, hb, fun i hi => ?_⟩
 obtain ⟨a0, a1, a2⟩ := acV_at l i hi
 have ea : ∀ j, (⟨(ad.add (i * 3)).block, (ad.add (i * 3)).off + (j + 1), none⟩ : Addr) = (ad.add (i * 3)).add (j + 1) := fun j => rfl
 refine ⟨hc _ _ a0, ?_, ?_⟩
 ·rw [ea 0, add_of_add]; exact hc _ _ a1
 ·rw [ea 1, add_of_add]; exact hc _ _ a2
end Go.Proofs.YtjbnfigpflambacGreatDoor
/- Plain laws, no program: what a statement is answered. -/
namespace Go.Proofs.YtjbnfigpflambacGreatDoor
theorem doW_st {W : Wo} (g : Good W) {i : Nat} (hi : i < W.ses.length) {x : St} (hx : checkE x = 0) : 0 ≤ (doW W i x).2.st ∧ (doW W i x).2.st ≤ 2 := by
 have gd := did_good g hi hx
 have hl : i < (did W i x).1.ses.length := by rw [(did_mine W i x).1]; exact hi
 have gs := gd.se hl
 show 0 ≤ (failSe ((did W i x).1.se i) (did W i x).2).st ∧ _
 have e : (failSe ((did W i x).1.se i) (did W i x).2).st = 2 ∨ (failSe ((did W i x).1.se i) (did W i x).2).st = ((did W i x).1.se i).st := by
  unfold failSe
  split
  ·exact .inl rfl
  ·exact .inr rfl
 have e2 : (doW W i x).2.st = (failSe ((did W i x).1.se i) (did W i x).2).st := rfl
 rw [e2]
 rcases e with e | e
 ·rw [e]; decide
 ·rw [e]; exact ⟨gs.st0, gs.st2⟩
end Go.Proofs.YtjbnfigpflambacGreatDoor
/- slices.Equal on deeds, on texts and tillermantop.same, for what is the same. -/
namespace Go.Proofs.YtjbnfigpflambacGreatDoor
open Go.ChangeShapes Go.WideShapes Go.ChangeAt Go.RowKit
def dV (d : De) : List Value := [.int .i64 (d.c : Int), .int .i64 d.x.k, .string d.x.key, .string d.x.val, .int .i64 d.a.kind, .string d.a.text, .int .i64 d.a.st]
theorem deV_at : ∀ (l : List De) (k : Nat) (h : k < l.length) (j : Nat), j < 7 → (deV l)[k * 7 + j]? = (dV l[k])[j]?
 | [], _, h, _, _ => absurd h (by simp)
 | d :: l, 0, _, j, hj => by
  show ((dV d) ++ deV l)[0 * 7 + j]? = _
  rw [List.getElem?_append_left (by simp [dV]; omega)]
  simp
 | d :: l, k + 1, h, j, hj => by
  show ((dV d) ++ deV l)[(k + 1) * 7 + j]? = _
  rw [List.getElem?_append_right (by simp [dV]; omega)]
  have := deV_at l k (by simpa using h) j hj
  rw [show (k + 1) * 7 + j - (dV d).length = k * 7 + j by simp [dV]; omega, this]
  rfl
theorem deed_at {w : World} {B : Nat} {A : Option Addr} {l : List De} (h : Reads w B 7 A l.length (deV l)) {k : Nat} (hk : k < l.length) : ∃ ad : Addr, A = some ad ∧ ad.block < B ∧ DeAt w (ad.add (k * 7)) l[k] := by
 obtain ⟨ad, hA, hB, hcell⟩ := h.2 (by omega)
 have e : ∀ j, j < 7 → ∀ u, (dV l[k])[j]? = some u → w.cell? (ad.add (k * 7 + j)) = some u := fun j hj u hu => hcell _ _ ((deV_at l k hk j hj).trans hu)
 have ea : ∀ j, (⟨(ad.add (k * 7)).block, (ad.add (k * 7)).off + (j + 1), none⟩ : Addr) = ad.add (k * 7 + (j + 1)) := fun j => by rw [← add_of_add]; rfl
 exact ⟨ad, hA, hB, e 0 (by omega) _ rfl, by rw [ea 0]; exact e 1 (by omega) _ rfl, by rw [ea 1]; exact e 2 (by omega) _ rfl, by rw [ea 2]; exact e 3 (by omega) _ rfl, by rw [ea 3]; exact e 4 (by omega) _ rfl, by rw [ea 4]; exact e 5 (by omega) _ rfl, by rw [ea 5]; exact e 6 (by omega) _ rfl⟩
end Go.Proofs.YtjbnfigpflambacGreatDoor
/- Small laws on an outcome in memory that the tops share. -/
namespace Go.Proofs.YtjbnfigpflambacGreatDoor
open Go.ChangeShapes Go.WideShapes Go.ChangeAt Go.RowKit
theorem boxO_new {w w1 : World} {B : Nat} {vs vd vr : Value} {o : Outc} (h : OutR w1 w.heap.size vs vd vr o) (hb : Below w.heap.size w w1) (hB : B ≤ w.heap.size) : BoxO (w1.alloc (.cells #[vs, vd, vr] 29)) B w1.heap.size vs vd vr o :=
 ⟨Nat.le_trans hB hb.size, Blk.new w1 _ _, (h.keep (boxed w1 _)).base hB⟩
theorem str_no {a b : ByteArray} (h : ¬ a = b) : (a.toList == b.toList) = false := by
 cases hh : (a.toList == b.toList) with
 | false => rfl
 | true => exact absurd (str_inj (by simpa using hh)) h
end Go.Proofs.YtjbnfigpflambacGreatDoor
/- Plain laws, no program: what a client was sent: answers to its requests, in order; those of its deeds, and those that no server gave. -/
namespace Go.Proofs.YtjbnfigpflambacGreatDoor
/-! answers of a session -/
theorem size_toList (t : ByteArray) : t.data.toList.length = t.size := by simp
theorem fit_of {a : An} (h : AnsOk a) (h0 : 0 ≤ a.st) (h2 : a.st ≤ 2) : fitA a.kind a.text a.st = true := by
 unfold fitA
 have hst : (decide (0 ≤ a.st) && decide (a.st ≤ 2)) = true := by simp [h0, h2]
 rcases h with ⟨h, e⟩ | ⟨h, e⟩ | ⟨h, e1, e2⟩ | ⟨h, e⟩
 ·have h5 : (⟨#[]⟩ : ByteArray).size ≤ 60 := by decide
  rw [h, e]; simp [h0, h2, h5]
 ·have h5 : (⟨#[]⟩ : ByteArray).size ≤ 60 := by decide
  rw [h, e]; simp [h0, h2, h5]
 ·have hne : a.text.data.toList.isEmpty = false := by
   rcases e : a.text.data.toList with _ | ⟨b, l⟩
   ·have := size_toList a.text
    rw [e] at this
    simp at this
    omega
   ·rfl
  rw [h, hne]
  simp [h0, h2]
  omega
 ·have hall : ∀ t ∈ errL, t.data.toList.isEmpty = false ∧ t.size ≤ 60 := by decide +kernel
  obtain ⟨q1, q2⟩ := hall _ e
  rw [h, q1]
  simp [h0, h2]
  exact q2
/-! texts that no server gives -/
def notL : List ByteArray := [stB 0, stB 1, stB 2].flatMap fun s => [s ++ bodyB 4 tNotUnd, s ++ bodyB 4 tNotMode]
def errB (t : ByteArray) : Bool := notL.any fun x => decide (x = t)
def tellA (a : An) : ByteArray := tellS a.kind a.text a.st
theorem st_three {n : Int} (h0 : 0 ≤ n) (h2 : n ≤ 2) : stB n = stB 0 ∨ stB n = stB 1 ∨ stB n = stB 2 := by
 have : n = 0 ∨ n = 1 ∨ n = 2 := by omega
 rcases this with rfl | rfl | rfl
 ·exact .inl rfl
 ·exact .inr (.inl rfl)
 ·exact .inr (.inr rfl)
theorem tell_und {n : Int} (h0 : 0 ≤ n) (h2 : n ≤ 2) : errB (tellA ⟨4, tNotUnd, n⟩) = true ∧ errB (tellA ⟨4, tNotMode, n⟩) = true := by
 have : n = 0 ∨ n = 1 ∨ n = 2 := by omega
 rcases this with rfl | rfl | rfl <;> decide +kernel
theorem tell_head {a : An} (h : AnsOk a) (h0 : 0 ≤ a.st) (h2 : a.st ≤ 2) : (tellA a).data.toList.getD 1 0 ≠ 33 ∨ ∃ t ∈ errL, tellA a = stB a.st ++ bodyB 4 t := by
 have hf := fit_of h h0 h2
 have e : tellA a = stB a.st ++ bodyB a.kind a.text := by
  unfold tellA tellS
  rw [if_pos hf]
 have hs : ∃ b, stB a.st = ⟨#[b]⟩ := by
  rcases st_three h0 h2 with e | e | e <;> rw [e] <;> exact ⟨_, rfl⟩
 obtain ⟨b, hb⟩ := hs
 rcases h with ⟨h, e2⟩ | ⟨h, e2⟩ | ⟨h, _⟩ | ⟨h, e2⟩
 ·left
  rw [e, h, hb]
  simp [bodyB]
 ·left
  rw [e, h, hb]
  simp [bodyB]
 ·left
  rw [e, h, hb]
  simp [bodyB]
 ·right
  exact ⟨_, e2, by rw [e, h]⟩
theorem not_head : ∀ t ∈ notL, t.data.toList.getD 1 0 = 33 := by decide +kernel
theorem not_err : ∀ n ∈ [(0 : Int), 1, 2], ∀ t ∈ errL, ∀ x ∈ notL, x ≠ stB n ++ bodyB 4 t := by decide +kernel
theorem tell_deed {a : An} (h : AnsOk a) (h0 : 0 ≤ a.st) (h2 : a.st ≤ 2) : errB (tellA a) = false := by
 cases e : errB (tellA a) with
 | false => rfl
 | true =>
  unfold errB at e
  obtain ⟨x, hx, e⟩ := List.any_eq_true.1 e
  have e := of_decide_eq_true e
  rcases tell_head h h0 h2 with h1 | ⟨t, ht, h1⟩
  ·rw [← e, not_head x hx] at h1
   exact absurd rfl h1
  ·rw [h1] at e
   exact absurd e (not_err a.st (by simp; omega) t ht x hx)
theorem body_sz (k : Int) (t : ByteArray) (ht : t.size ≤ 60) : (bodyB k t).size ≤ 61 := by
 unfold bodyB
 split
 ·decide
 split
 ·rw [ByteArray.size_append]; have : (⟨#[61]⟩ : ByteArray).size = 1 := rfl; omega
 split
 ·decide
 ·rw [ByteArray.size_append]; have : (⟨#[33]⟩ : ByteArray).size = 1 := rfl; omega
theorem tell_sz (a : An) : (tellA a).size ≤ 62 := by
 unfold tellA tellS
 split
 ·rename_i h
  unfold fitA at h
  simp only [Bool.and_eq_true, decide_eq_true_eq] at h
  rw [ByteArray.size_append]
  have h1 := body_sz a.kind a.text h.2
  have h3 : (stB a.st).size = 1 := by unfold stB; split; rfl; split <;> rfl
  omega
 ·decide
theorem tellM_eq (a : An) : tellM a = msg 82 (tellA a) := by
 unfold tellM packS
 rw [if_neg (by have := tell_sz a; unfold tellA at this; omega)]
 rfl
/-! what a client was sent -/
def catM (ts : List ByteArray) : ByteArray := ts.foldl (fun s t => s ++ msg 82 t) ⟨#[]⟩
theorem cat_snoc (ts : List ByteArray) (t : ByteArray) : catM (ts ++ [t]) = catM ts ++ msg 82 t := by unfold catM; rw [List.foldl_append]; rfl
theorem cat_acc : ∀ (ts : List ByteArray) (s : ByteArray), ts.foldl (fun s t => s ++ msg 82 t) s = s ++ catM ts
 | [], s => (app_nil s).symm
 | t :: ts, s => by
  unfold catM
  rw [List.foldl_cons, List.foldl_cons, cat_acc ts, cat_acc ts (⟨#[]⟩ ++ msg 82 t), ← ByteArray.append_assoc, show (⟨#[]⟩ : ByteArray) ++ msg 82 t = msg 82 t from arr_eq (by simp)]
theorem cat_cons (t : ByteArray) (ts : List ByteArray) : catM (t :: ts) = msg 82 t ++ catM ts := by
 have e : catM (t :: ts) = ts.foldl (fun s t => s ++ msg 82 t) (⟨#[]⟩ ++ msg 82 t) := rfl
 rw [e, cat_acc]
 have e2 : (⟨#[]⟩ : ByteArray) ++ msg 82 t = msg 82 t := arr_eq (by simp)
 rw [e2]
def ownD (c : Nat) (ds : List De) : List ByteArray := (ds.filter fun d => decide (d.c = c)).map fun d => tellA d.a
theorem own_snoc (c : Nat) (ds : List De) (d : De) : ownD c (ds ++ [d]) = if d.c = c then ownD c ds ++ [tellA d.a] else ownD c ds := by
 unfold ownD
 rw [List.filter_append, List.map_append]
 by_cases h : d.c = c
 ·rw [if_pos h]; simp [h]
 ·rw [if_neg h]; simp [h]
def SentOk (N : Nat) (f : Fr) (c : Nat) : Prop := ∃ ts, (f.c c).sent = catM ts ∧ (∀ t ∈ ts, t.size ≤ 62) ∧ ownD c f.deeds = ts.filter (fun t => !errB t) ∧ ts.length + (f.c c).pend.length + (f.c c).bytes.size ≤ N
def DeedsOk (ds : List De) : Prop := ∀ d ∈ ds, fitA d.a.kind d.a.text d.a.st = true ∧ d.c < 6
theorem SentOk.same {N : Nat} {f g : Fr} {c : Nat} (h : SentOk N f c) (h1 : (g.c c).sent = (f.c c).sent) (h2 : ownD c g.deeds = ownD c f.deeds) (h3 : (g.c c).pend.length + (g.c c).bytes.size ≤ (f.c c).pend.length + (f.c c).bytes.size) : SentOk N g c := by
 obtain ⟨ts, e1, e2, e3, e4⟩ := h
 exact ⟨ts, by rw [h1, e1], e2, by rw [h2, e3], by omega⟩
theorem SentOk.tell {N : Nat} {f g : Fr} {c : Nat} (h : SentOk N f c) {t : ByteArray} (ht : t.size ≤ 62) (h1 : (g.c c).sent = (f.c c).sent ++ msg 82 t) (h2 : ownD c g.deeds = ownD c f.deeds ++ (if errB t = true then [] else [t]))
  (h3 : (g.c c).pend.length + 1 ≤ (f.c c).pend.length) (h4 : (g.c c).bytes = (f.c c).bytes) : SentOk N g c := by
 obtain ⟨ts, e1, e2, e3, e4⟩ := h
 refine ⟨ts ++ [t], by rw [h1, e1, cat_snoc], fun x hx => ?_, ?_, ?_⟩
 ·rcases List.mem_append.1 hx with hx | hx
  ·exact e2 x hx
  ·rw [List.mem_singleton] at hx; subst hx; exact ht
 ·rw [h2, e3, List.filter_append]
  congr 1
  cases he : errB t <;> simp [he]
 ·rw [h4]
  simp only [List.length_append, List.length_cons, List.length_nil]
  omega
def SaidAll (N : Nat → Nat) (y : Fr × Wo) : Prop := (∃ z, Sim z y) ∧ DeedsOk y.1.deeds ∧ ∀ c, c < 6 → SentOk (N c) y.1 c
theorem said_next {N : Nat → Nat} {y : Fr × Wo} {i : Nat} (hi : i < 6) {z : Fr × PB} (hs : Sim z y) (hd : DeedsOk y.1.deeds) (h : ∀ c, c < 6 → SentOk (N c) y.1 c) (hb : busy y.1 i = true) :
  DeedsOk (nextM houseB y i).1.deeds ∧ ∀ c, c < 6 → SentOk (N c) (nextM houseB y i).1 c := by
 have hfi : FI y.1 := hs.front ▸ hs.fi
 have hG : Good y.2 := RB.goodH hs.rb hs.fi.fo
 have hil : i < y.1.cl.length := busy_lt hb
 have hiw : i < y.2.ses.length := by rw [hs.ses]; exact hi
 have gs := hG.se hiw
 obtain ⟨⟨x, bad⟩, l, ep⟩ : ∃ p l, (y.1.c i).pend = p :: l := by
  unfold busy at hb
  rcases e : (y.1.c i).pend with _ | ⟨p, l⟩
  ·rw [e] at hb; simp at hb
  ·exact ⟨p, l, rfl⟩
 have key : ∀ c, ((nextM houseB y i).1.c c).pend = (if c = i then l else (y.1.c c).pend) := fun c => (busy_next hil ep c).1
 have hby := fun c => next_bytes houseB y i c
 have hau := au_next hil ep
 have hsent : ∀ c, ((nextM houseB y i).1.c c).sent = (auOf (nextM houseB y i)).sent c := fun _ => rfl
 have hdeed : (nextM houseB y i).1.deeds = (auOf (nextM houseB y i)).deeds := rfl
 have hpl : ∀ c, c ≠ i → (((nextM houseB y i).1.c c).pend.length + ((nextM houseB y i).1.c c).bytes.size) = (y.1.c c).pend.length + (y.1.c c).bytes.size := fun c hc => by rw [key c, if_neg hc, hby]
 have hpi : ((nextM houseB y i).1.c i).pend.length + 1 ≤ (y.1.c i).pend.length := by rw [key i, if_pos rfl, ep]; simp
 have err : ∀ t, (t = tNotUnd ∨ t = tNotMode) → auOf (nextM houseB y i) = (auOf y).tell i ⟨4, t, (y.2.se i).st⟩ → DeedsOk (nextM houseB y i).1.deeds ∧ ∀ c, c < 6 → SentOk (N c) (nextM houseB y i).1 c := by
  intro t ht e
  have ed : (nextM houseB y i).1.deeds = y.1.deeds := by rw [hdeed, e]; rfl
  refine ⟨by rw [ed]; exact hd, fun c hc => ?_⟩
  have es : ((nextM houseB y i).1.c c).sent = if c = i then (y.1.c i).sent ++ tellM ⟨4, t, (y.2.se i).st⟩ else (y.1.c c).sent := by rw [hsent, e]; rfl
  by_cases hci : c = i
  ·subst hci
   rw [if_pos rfl, tellM_eq] at es
   have he : errB (tellA ⟨4, t, (y.2.se c).st⟩) = true := by
    rcases ht with rfl | rfl
    ·exact (tell_und gs.st0 gs.st2).1
    ·exact (tell_und gs.st0 gs.st2).2
   exact (h c hc).tell (tell_sz _) es (by rw [ed, if_pos he]; simp) hpi (hby c)
  ·rw [if_neg hci] at es
   exact (h c hc).same es (by rw [ed]) (Nat.le_of_eq (hpl c hci))
 unfold serve at hau
 cases bad with
 | true =>
  rw [if_pos rfl] at hau
  exact err _ (.inl rfl) hau
 | false =>
  rw [if_neg (by simp)] at hau
  by_cases hm : y.1.mode = 3 ∧ x.k = 1
  ·rw [if_pos hm] at hau
   exact err _ (.inr rfl) hau
  ·rw [if_neg hm] at hau
   have hx : checkE x = 0 := hfi.pend i hi (x, false) (by rw [ep]; exact List.mem_cons_self) rfl
   have ha := doW_ok hG hiw x
   have hst := doW_st hG hiw hx
   have ed : (nextM houseB y i).1.deeds = y.1.deeds ++ [⟨i, x, (doW y.2 i x).2⟩] := by rw [hdeed, hau]; rfl
   refine ⟨fun d hd' => ?_, fun c hc => ?_⟩
   ·rw [ed] at hd'
    rcases List.mem_append.1 hd' with hd' | hd'
    ·exact hd d hd'
    ·rw [List.mem_singleton] at hd'
     subst hd'
     exact ⟨fit_of ha hst.1 hst.2, hi⟩
   ·have es : ((nextM houseB y i).1.c c).sent = if c = i then (y.1.c i).sent ++ tellM (doW y.2 i x).2 else (y.1.c c).sent := by rw [hsent, hau]; rfl
    have eo := own_snoc c y.1.deeds ⟨i, x, (doW y.2 i x).2⟩
    by_cases hci : c = i
    ·subst hci
     rw [if_pos rfl, tellM_eq] at es
     rw [if_pos rfl] at eo
     have he := tell_deed ha hst.1 hst.2
     exact (h c hc).tell (tell_sz _) es (by rw [ed, eo, he]; rfl) hpi (hby c)
    ·rw [if_neg hci] at es
     rw [if_neg (fun e => hci e.symm)] at eo
     exact (h c hc).same es (by rw [ed, eo]) (Nat.le_of_eq (hpl c hci))
theorem said_step {N : Nat → Nat} {y : Fr × Wo} (h : SaidAll N y) : SaidAll N (stepM houseB y).1 := by
 obtain ⟨⟨z, hs⟩, hd, hc⟩ := h
 refine ⟨⟨_, (step_sim hs).1⟩, ?_⟩
 unfold stepM
 split
 ·rename_i i hp
  obtain ⟨hr, hi⟩ := pick_ready hp
  exact said_next hi hs hd hc (ready_busy hr)
 ·split
  ·rename_i i l s hw hi
   refine ⟨hd, fun c h6 => ?_⟩
   have e : ((queueF y.1).unwait.bindS s i).c c = y.1.c c ∨ ((queueF y.1).unwait.bindS s i).c c = ⟨(y.1.c i).bytes, (y.1.c i).pend, (s : Int), (y.1.c i).sent⟩ ∧ c = i := by
    have e : ((queueF y.1).unwait.bindS s i).c c = (y.1.set i ⟨(y.1.c i).bytes, (y.1.c i).pend, (s : Int), (y.1.c i).sent⟩).c c := rfl
    rw [e]
    exact (c_set_any _ _ _ _).imp id fun h => ⟨h.2, h.1⟩
   rcases e with e | ⟨e, rfl⟩
   ·exact (hc c h6).same (by rw [e]) rfl (by rw [e]; exact Nat.le_refl _)
   ·exact (hc c h6).same (by rw [e]) rfl (by rw [e]; exact Nat.le_refl _)
  ·exact ⟨hd, fun c h6 => (hc c h6).same rfl rfl (Nat.le_refl _)⟩
theorem said_pump {N : Nat → Nat} {y : Fr × Wo} (h : SaidAll N y) : SaidAll N (pumpM houseB y) := pump_keeps houseB (SaidAll N) (fun _ hv => said_step hv) _ y (Nat.le_refl _) h
theorem said_close {N : Nat → Nat} {y : Fr × Wo} (h : SaidAll N y) {i : Nat} (hi : i < 6) : SaidAll N (closeM houseB y i) := by
 obtain ⟨⟨z, hs⟩, hd, hc⟩ := h
 refine ⟨⟨_, hs.close hi⟩, hd, fun c h6 => ?_⟩
 by_cases e : c = i
 ·subst e
  have hl : c < y.1.cl.length := by rw [← hs.front, hs.fi.six]; exact h6
  have e : (closeM houseB y c).1.c c = ⟨⟨#[]⟩, [], -1, (y.1.c c).sent⟩ := by
   have e : (closeM houseB y c).1.c c = (y.1.set c ⟨⟨#[]⟩, [], -1, (y.1.c c).sent⟩).c c := rfl
   rw [e, c_set _ hl, if_pos rfl]
  exact (hc c h6).same (by rw [e]) rfl (by rw [e]; exact Nat.zero_le _)
 ·have e := close_c y i c e
  exact (hc c h6).same (by rw [e]) rfl (by rw [e]; exact Nat.le_refl _)
theorem feed_sz (x : Cl) : (feedC x).1.pend.length + (feedC x).1.bytes.size ≤ x.pend.length + x.bytes.size := by
 induction hn : x.bytes.size using Nat.strongRecOn generalizing x with
 | ind n ih =>
  rw [feedC]
  by_cases hw : wholeB x.bytes = true
  ·have hr := rest_le x.bytes hw
   rw [dif_pos hw]
   by_cases hk : kindAt x.bytes = 88
   ·rw [if_pos hk]; simp only; omega
   ·rw [if_neg hk]
    have := ih (restAt x.bytes).size (by omega) ⟨restAt x.bytes, x.pend ++ [askedOf x.bytes], x.srv, x.sent⟩ rfl
    simp only [List.length_append, List.length_cons, List.length_nil] at this
    omega
  ·rw [dif_neg hw]; simp only; omega
def dataN (l : List Ac) (c : Nat) : Nat := (l.map fun a => if a.c.toNat = c then a.data.size else 0).sum
theorem SentOk.more {N M : Nat} {f : Fr} {c : Nat} (h : SentOk N f c) (hM : N ≤ M) : SentOk M f c := by
 obtain ⟨ts, e1, e2, e3, e4⟩ := h
 exact ⟨ts, e1, e2, e3, by omega⟩
theorem said_pour {N : Nat → Nat} {y : Fr × Wo} (h : SaidAll N y) {i : Nat} (hi : i < 6) (data : ByteArray) : SaidAll (fun c => N c + if i = c then data.size else 0) (y.1.set i (pourC (y.1.c i) data).1, y.2) := by
 obtain ⟨⟨z, hs⟩, hd, hc⟩ := h
 refine ⟨⟨_, hs.pour hi data⟩, hd, fun c h6 => ?_⟩
 have hl : i < y.1.cl.length := by rw [← hs.front, hs.fi.six]; exact hi
 have e := c_set y.1 hl (pourC (y.1.c i) data).1 c
 have hsp := feed_spec ⟨(y.1.c i).bytes ++ data, (y.1.c i).pend, (y.1.c i).srv, (y.1.c i).sent⟩
 have hz := feed_sz ⟨(y.1.c i).bytes ++ data, (y.1.c i).pend, (y.1.c i).srv, (y.1.c i).sent⟩
 by_cases ec : c = i
 ·subst ec
  rw [if_pos rfl] at e
  obtain ⟨ts, e1, e2, e3, e4⟩ := hc c h6
  refine ⟨ts, ?_, e2, e3, ?_⟩
  ·show ((y.1.set c (pourC (y.1.c c) data).1).c c).sent = _
   rw [e]
   exact hsp.2.1.trans e1
  ·show ts.length + ((y.1.set c (pourC (y.1.c c) data).1).c c).pend.length + ((y.1.set c (pourC (y.1.c c) data).1).c c).bytes.size ≤ _
   rw [e]
   show _ ≤ N c + if c = c then data.size else 0
   rw [if_pos rfl]
   simp only [ByteArray.size_append] at hz
   unfold pourC
   omega
 ·rw [if_neg ec] at e
  exact ((hc c h6).same (g := y.1.set i (pourC (y.1.c i) data).1) (by rw [e]) rfl (by rw [e]; exact Nat.le_refl _)).more (Nat.le_add_right _ _)
theorem SaidAll.weak {N M : Nat → Nat} {y : Fr × Wo} (h : SaidAll N y) (hM : ∀ c, N c ≤ M c) : SaidAll M y := ⟨h.1, h.2.1, fun c hc => (h.2.2 c hc).more (hM c)⟩
theorem said_act {N : Nat → Nat} {y : Fr × Wo} (h : SaidAll N y) {a : Ac} (ha : a.c.toNat < 6) : SaidAll (fun c => N c + if a.c.toNat = c then a.data.size else 0) (actM houseB y a) := by
 unfold actM
 split
 ·exact (said_pump (said_close h ha)).weak fun c => by omega
 ·have hp := said_pour h ha a.data
  unfold deliverM
  simp only
  split
  ·exact said_pump (said_close (said_pump hp) ha)
  ·exact said_pump hp
theorem said_run : ∀ (l : List Ac) {N : Nat → Nat} {y : Fr × Wo}, (∀ a ∈ l, a.c.toNat < 6) → SaidAll N y → SaidAll (fun c => N c + dataN l c) (runM houseB y l)
 | [], _, _, _, h => h
 | a :: l, N, y, hl, h => by
  have := said_run l (fun b hb => hl b (List.mem_cons_of_mem _ hb)) (said_act h (hl a List.mem_cons_self))
  refine SaidAll.weak this fun c => ?_
  show N c + (if a.c.toNat = c then a.data.size else 0) + dataN l c ≤ N c + dataN (a :: l) c
  have e : dataN (a :: l) c = (if a.c.toNat = c then a.data.size else 0) + dataN l c := rfl
  omega
theorem said_law (mode : Int) (n : Nat) (hn : n ≤ 8) (l : List Ac) (hl : ∀ a ∈ l, a.c.toNat < 6) : DeedsOk (runM houseB (startF mode n, startH) l).1.deeds ∧ ∀ c, c < 6 → SentOk (dataN l c) (runM houseB (startF mode n, startH) l).1 c := by
 have h0 : SaidAll (fun _ => 0) (startF mode n, startH) := by
  refine ⟨⟨_, start_sim mode n hn⟩, (fun d hd => by cases hd), fun c _ => ⟨[], ?_, (fun t ht => by cases ht), rfl, ?_⟩⟩
  ·rw [start_c]; rfl
  ·rw [start_c]; exact Nat.le_refl 0
 have h := said_run l hl h0
 refine ⟨h.2.1, fun c hc => ?_⟩
 have := h.2.2 c hc
 simpa using this
end Go.Proofs.YtjbnfigpflambacGreatDoor
/- Plain laws on messages: what a packed text holds, and where it is cut. -/
namespace Go.Proofs.YtjbnfigpflambacGreatDoor
open Go.ChangeShapes Go.WideShapes Go.ChangeAt Go.RowKit
theorem unpack_msg (k : UInt8) (t more : ByteArray) (w : World) (ht : t.size ≤ 120) (hm : (msg k t ++ more).size ≤ maxLen) :
  Calls Tryz.prog 30 #[.string (msg k t ++ more)] w fun e w' => e = .returned (.tuple #[.int .u8 (k.toNat : Int), .string t, .int .i64 (2 + (t.size : Int))]) ∧ ∃ n, w' = w.drewN n := by
 have hsz : (msg k t ++ more).size = 2 + t.size + more.size := by rw [ByteArray.size_append, msg_size]
 obtain ⟨e0, e1⟩ := msg_at (k := k) (t := t) (more := more) (by omega) (by omega)
 have hb : (UInt8.ofNat t.size).toNat = t.size := by simp; omega
 have h := unpack_ok (msg k t ++ more) k (UInt8.ofNat t.size) w (by omega) (by omega) e0 e1 (by omega) hm
 rw [hb, msg_text] at h
 exact h
end Go.Proofs.YtjbnfigpflambacGreatDoor
/- Plain part of TopSaid, and its small contracts. -/
namespace Go.Proofs.YtjbnfigpflambacGreatDoor
open Go.RowKit
theorem out_said (mode : Int) (n : Nat) (hn : n ≤ 8) (l : List Ac) (hl : ∀ a ∈ l, a.c.toNat < 6) : DeedsOk (outM mode n l).deeds ∧
  ∀ c, c < 6 → ∃ ts, (outM mode n l).sent.getD c ByteArray.empty = catM ts ∧ (∀ t ∈ ts, t.size ≤ 62) ∧ ownD c (outM mode n l).deeds = ts.filter (fun t => !errB t) ∧ ts.length ≤ dataN l c := by
 obtain ⟨h1, h2⟩ := said_law mode n hn l hl
 rw [out_house mode n hn l hl]
 refine ⟨h1, fun c hc => ?_⟩
 obtain ⟨ts, e1, e2, e3, e4⟩ := h2 c hc
 refine ⟨ts, ?_, e2, e3, by omega⟩
 unfold outH
 rw [List.getD_eq_getElem?_getD, List.getElem?_map, List.getElem?_range hc]
 exact e1
theorem dataN_take {l : List Ac} {k : Nat} (h : k < l.length) (c : Nat) : dataN (l.take (k + 1)) c = dataN (l.take k) c + if l[k].c.toNat = c then l[k].data.size else 0 := by
 unfold dataN
 rw [List.take_succ_eq_append_getElem h, List.map_append, List.sum_append]
 simp
theorem dataN_le (c : Nat) : ∀ (l : List Ac), (∀ a ∈ l, AcOk a) → dataN l c ≤ l.length * 1000
 | [], _ => by simp [dataN]
 | a :: l, h => by
  have ih := dataN_le c l fun x hx => h x (List.mem_cons_of_mem _ hx)
  have := (h a List.mem_cons_self).d
  unfold dataN at ih ⊢
  rw [List.map_cons, List.sum_cons, List.length_cons]
  split <;> omega
theorem ownD_take {ds : List De} {k : Nat} (h : k < ds.length) (c : Nat) : ownD c (ds.take (k + 1)) = if ds[k].c = c then ownD c (ds.take k) ++ [tellA ds[k].a] else ownD c (ds.take k) := by
 rw [List.take_succ_eq_append_getElem h, own_snoc]
theorem own_le (c k : Nat) (ds : List De) : (ownD c (ds.take k)).length ≤ (ownD c ds).length := by
 have e : ds = ds.take k ++ ds.drop k := (List.take_append_drop k ds).symm
 have h : (ownD c ds).length = (ownD c (ds.take k)).length + (ownD c (ds.drop k)).length := by
  conv => lhs; rw [e]
  unfold ownD
  rw [List.filter_append, List.map_append, List.length_append]
 omega
theorem tell_fit (a : An) (w : World) (h : fitA a.kind a.text a.st = true) : Calls Tryz.prog 18 #[.agg #[.int .i64 a.kind, .string a.text, .int .i64 a.st]] w fun e w' => e = .returned (.tuple #[.string (tellA a), .int .i64 0]) ∧ Below w.heap.size w w' := by
 obtain ⟨h1, h2, h3, h4, h5, h6⟩ := (fit_iff a.kind a.text a.st).1 h
 have e : tellA a = stB a.st ++ bodyB a.kind a.text := by unfold tellA tellS; rw [if_pos h]
 rw [e]
 exact tell_ok a.kind a.text a.st w h1 h2 h3 h4 h5 h6
def notU : ByteArray := ⟨#[33, 110, 111, 116, 32, 117, 110, 100, 101, 114, 115, 116, 111, 111, 100]⟩
def notI : ByteArray := ⟨#[33, 110, 111, 116, 32, 105, 110, 32, 116, 104, 105, 115, 32, 109, 111, 100, 101]⟩
theorem err_in {t : ByteArray} (h : errB t = true) : t ∈ notL := by
 unfold errB at h
 obtain ⟨x, hx, e⟩ := List.any_eq_true.1 h
 have e : x = t := by simpa using e
 rw [← e]
 exact hx
theorem not_has : ∀ t ∈ notL, (Lib.contains t.data.toList notU.data.toList = true ∨ Lib.contains t.data.toList notI.data.toList = true) ∧ t.size ≤ 62 := by decide +kernel
theorem catM_sz : ∀ (ts : List ByteArray), (∀ t ∈ ts, t.size ≤ 62) → (catM ts).size ≤ ts.length * 64
 | [], _ => Nat.le_refl _
 | t :: ts, h => by
  have ih := catM_sz ts fun x hx => h x (List.mem_cons_of_mem _ hx)
  have := h t List.mem_cons_self
  rw [cat_cons, ByteArray.size_append, msg_size, List.length_cons]
  omega
theorem cat_rest (t : ByteArray) (ts : List ByteArray) : (catM (t :: ts)).extract (2 + t.size) (catM (t :: ts)).size = catM ts := by
 rw [cat_cons]
 apply arr_eq
 rw [extract_list]
 have hl : (msg 82 t ++ catM ts).data.toList = (msg 82 t).data.toList ++ (catM ts).data.toList := by simp
 have hm : (msg 82 t).data.toList.length = 2 + t.size := by
  have := msg_size (k := 82) (t := t)
  simpa using this
 rw [hl, List.drop_append, hm, Nat.sub_self, List.drop_zero, List.drop_of_length_le (by omega), List.nil_append]
 refine List.take_of_length_le ?_
 rw [ByteArray.size_append, msg_size]
 simp
theorem cat_ne (t : ByteArray) (ts : List ByteArray) : ¬ catM (t :: ts) = ⟨#[]⟩ := by
 intro h
 have := congrArg ByteArray.size h
 rw [cat_cons, ByteArray.size_append, msg_size] at this
 have e : (⟨#[]⟩ : ByteArray).size = 0 := rfl
 omega
end Go.Proofs.YtjbnfigpflambacGreatDoor
