/- More of the texts: KepR, KepV. -/
import Derived.Test.YtjbnfigpflambacGreatDoorRows
import Derived.Test.YtjbnfigpflambacGreatDoorProg
import Derived.Test.YtjbnfigpflambacGreatDoorG00
import Derived.Test.YtjbnfigpflambacGreatDoorG01
import Derived.Test.YtjbnfigpflambacGreatDoorG02
import Derived.Test.YtjbnfigpflambacGreatDoorG03
import Derived.Test.YtjbnfigpflambacGreatDoorG04
import Derived.Test.YtjbnfigpflambacGreatDoorG05
import Derived.Test.YtjbnfigpflambacGreatDoorG06
import Derived.Test.YtjbnfigpflambacGreatDoorG07
import Derived.Test.YtjbnfigpflambacGreatDoorG08
import Derived.Test.YtjbnfigpflambacGreatDoorG09
import Derived.Test.YtjbnfigpflambacGreatDoorG10
import Derived.Test.YtjbnfigpflambacGreatDoorG11
import Derived.Test.YtjbnfigpflambacGreatDoorG12
import Derived.Test.YtjbnfigpflambacGreatDoorG13
import Derived.Test.YtjbnfigpflambacGreatDoorG14
import Derived.Test.YtjbnfigpflambacGreatDoorG15
import Derived.Test.YtjbnfigpflambacGreatDoorG16
import Derived.Test.YtjbnfigpflambacGreatDoorG17
import Derived.Test.YtjbnfigpflambacGreatDoorG18
import Derived.Test.YtjbnfigpflambacGreatDoorG19
import Derived.Test.YtjbnfigpflambacGreatDoorG20
import Derived.Test.YtjbnfigpflambacGreatDoorG21
import Derived.Test.YtjbnfigpflambacGreatDoorG22
import Derived.Test.YtjbnfigpflambacGreatDoorG23
import Derived.Test.YtjbnfigpflambacGreatDoorG24
import Derived.Test.YtjbnfigpflambacGreatDoorG25
import Derived.Test.YtjbnfigpflambacGreatDoorG26
import Derived.Test.YtjbnfigpflambacGreatDoorG27
import Derived.Test.YtjbnfigpflambacGreatDoorG28
import Derived.Test.YtjbnfigpflambacGreatDoorG29
import Derived.Test.YtjbnfigpflambacGreatDoorG30
import Derived.Test.YtjbnfigpflambacGreatDoorG31
import Derived.Test.YtjbnfigpflambacGreatDoorG32
import Derived.Test.YtjbnfigpflambacGreatDoorG33
import Derived.Test.YtjbnfigpflambacGreatDoorG34
import Derived.Test.YtjbnfigpflambacGreatDoorG35
import Derived.Test.YtjbnfigpflambacGreatDoorG37
import Derived.Lib.Split
import Derived.Lib.SplitLaws
import Derived.Lib.SlicesS
import Derived.Lib.IndexBytes
import Derived.Lib.Bytealg
import GoSem.Op.String
import Derived.WalkKit
import Derived.ProofKit
import Derived.OpenShut
import Derived.Below
import Derived.Outline
import Derived.Lib.Hide
import Derived.ShutString
import Derived.ChangeOld
import Derived.Lib.SmallJoins
import Derived.Laws.OwnMore
import Derived.Deep.AppendLies
import Derived.Deep.Draws
import Derived.Laws.Rows
import Derived.Maps.AppendAt
import Derived.RegionTactic
import Derived.OwnWalk
import Derived.Deep.QuietTactic
import Derived.BigQuiet
import Derived.WalkSpells
import Derived.WalkLawsBesides
import Derived.Deep.RegionHeld3
import Derived.OrdersHeld
import Derived.Deep.DeepCutAuto
import Derived.Shelf.Strings.Builder1
import Derived.Shelf.Small.Strs
import Derived.Shelf.Strings.BuilderF
import Derived.Shelf.Strings.BuilderK
import Derived.Shelf.Strconv.Itoa0
import Derived.Shelf.Strconv.Itoa1
import Derived.Shelf.LaysM
import Derived.Shelf.Strconv.Itoa2
import Derived.Shelf.Strconv.Itoa3
import Derived.Shelf.Strings.Search1
import Derived.Shelf.Strings.Search2
import Derived.Shelf.Strings.Search3
import Derived.Shelf.Strings.Count
import Derived.Shelf.Strings.Shaped
import Derived.Shelf.Strings.Prefix
import Derived.Shelf.Strings.Split
import Derived.Shelf.Strings.SplitShaped
import Derived.Shelf.Bits.Mul64
import Derived.Shelf.Unicode.DecodeSlow
import Derived.Shelf.Strings.BuilderCap
import Derived.Shelf.Slices.Turned
import Derived.Shelf.Slices.Equal
import Derived.Shelf.Slices.Empties2
import Derived.Laws.CopyRow
import Derived.Laws.IdiomCopy
import Derived.Laws.AppendOwn
import Derived.Lib.AppendZerosOnto
import Derived.Lib.Overlaps
import Derived.Tactics
import Derived.Laws.Externs
import Derived.Lib.ConvBytes
import Derived.Lib.LaidTab
import Derived.Deep.DeepHandedRow
import Derived.Maps.Own
import Derived.Maps.OwnSet
import Derived.Maps.Views
import Derived.Maps.OwnOps
import Derived.Deep.Slices
import Derived.Deep.Fields
import Derived.ChangeSame
import Derived.SizedLaws
import Derived.Lib.IndexLaws
import Derived.Lib.AppendStr
import Derived.Laws.MakeOwn
import Derived.Deep.CutBlock
import Derived.Lib.Builder
import Derived.Lib.Walk
import Derived.Lib.UnsafeStr
import Derived.Lib.SliceRun
import Derived.Lib.ItoaNum
/- SettingsKept's script in memory: an order of 38 operations that is drawn, by what holds whatever is done. -/
namespace Go.Proofs.YtjbnfigpflambacGreatDoor
open Go.ChangeShapes Go.WideShapes Go.ChangeAt Go.RowKit
def c1K (v : ByteArray) : Array Value := #[.int .i64 9, .string ⟨#[97]⟩, .string v, .int .i64 11, .string ⟨#[105, 116]⟩, .string ⟨#[103, 101, 116, 32, 97]⟩]
def c2K : Array Value := #[.int .i64 6, .string ⟨#[97]⟩, .string ⟨#[]⟩, .int .i64 8, .string ⟨#[105, 116]⟩, .string ⟨#[]⟩]
def c3K (o : ByteArray) : Array Value := #[.int .i64 6, .string ⟨#[97]⟩, .string ⟨#[]⟩, .int .i64 8, .string ⟨#[105, 116]⟩, .string ⟨#[]⟩, .int .i64 9, .string ⟨#[97]⟩, .string o]
def c6K (D0 D1 D2 : ByteArray) : Array Value := #[.int .i64 1, .int .i64 0, .string D0, .int .i64 1, .int .i64 1, .string D1, .int .i64 1, .int .i64 0, .string D2, .int .i64 1, .int .i64 1, .string D2, .int .i64 2, .int .i64 0, .string ⟨#[]⟩, .int .i64 1, .int .i64 0, .string D2]
structure KQ where
 d5 : Bool
 d6 : Bool
 d12 : Bool
 d13 : Bool
 d17 : Bool
 d18 : Bool
 d22 : Bool
 d23 : Bool
 d28 : Bool
 d29 : Bool
 d30 : Bool
 d35 : Bool
 t38 : Value
 t39 : Value
 t45 : Value
 t46 : Value
 t50 : Value
 t51 : Value
 t55 : Value
 t56 : Value
 t61 : Value
 t62 : Value
 t63 : Value
 t13 : Value
def KQ.done (x : KQ) : Array Bool := #[true, true, true, true, true, x.d5, x.d6, true, true, true, true, true, x.d12, x.d13, true, true, true, x.d17, x.d18, true, true, true, x.d22, x.d23, true, true, true, true, x.d28, x.d29, x.d30, false, false, false, false, x.d35, false, false]
def KQ.act (x : KQ) (A : Act) : Act := ((((((((((((A.put (some 38) x.t38).put (some 39) x.t39).put (some 45) x.t45).put (some 46) x.t46).put (some 50) x.t50).put (some 51) x.t51).put (some 55) x.t55).put (some 56) x.t56).put (some 61) x.t61).put (some 62) x.t62).put (some 63) x.t63).put (some 13) x.t13)
structure OkK (W0 w : World) (v o D0 D1 D2 : ByteArray) (x : KQ) : Prop where
 bel : Below W0.heap.size W0 w
 f5 : x.d5 = true → ∃ g, x.t38 = .slice (some ⟨g, 0, none⟩) 2 2 ∧ Blk w g 41 (c1K v)
 f6 : x.d6 = true → x.t39 = .agg #[.int .i64 1, .int .i64 0, .string D0]
 f12 : x.d12 = true → ∃ g, x.t45 = .slice (some ⟨g, 0, none⟩) 3 3 ∧ Blk w g 41 (c3K o)
 f13 : x.d13 = true → x.t46 = .agg #[.int .i64 1, .int .i64 1, .string D1]
 f17 : x.d17 = true → ∃ g, x.t50 = .slice (some ⟨g, 0, none⟩) 2 2 ∧ Blk w g 41 (c2K)
 f18 : x.d18 = true → x.t51 = .agg #[.int .i64 1, .int .i64 0, .string D2]
 f22 : x.d22 = true → ∃ g, x.t55 = .slice (some ⟨g, 0, none⟩) 2 2 ∧ Blk w g 41 (c2K)
 f23 : x.d23 = true → x.t56 = .agg #[.int .i64 1, .int .i64 1, .string D2]
 f28 : x.d28 = true → ∃ g, x.t61 = .slice (some ⟨g, 0, none⟩) 2 2 ∧ Blk w g 41 (c2K)
 f29 : x.d29 = true → x.t62 = .agg #[.int .i64 1, .int .i64 0, .string D2]
 f30 : x.d30 = true → ∃ g, x.t63 = .slice (some ⟨g, 0, none⟩) 6 6 ∧ Blk w g 54 (c6K D0 D1 D2)
 f35 : x.d35 = true → ∃ z, x.t13 = .pointer (some ⟨z, 0, none⟩) ∧ Blk w z 29 #[.slice none 0 0, .slice none 0 0, .slice none 0 0] ∧ W0.heap.size ≤ z
 o6 : x.d6 = true → x.d5 = true
 o13 : x.d13 = true → x.d12 = true ∧ x.d6 = true
 o18 : x.d18 = true → x.d17 = true ∧ x.d13 = true
 o23 : x.d23 = true → x.d22 = true ∧ x.d18 = true
 o29 : x.d29 = true → x.d28 = true ∧ x.d23 = true
 o30 : x.d30 = true → x.d29 = true
section
variable {W0 w w' : World} {v o D0 D1 D2 : ByteArray} {x : KQ}
theorem OkK.keep (h : OkK W0 w v o D0 D1 D2 x) (hb : Below w.heap.size w w') : OkK W0 w' v o D0 D1 D2 x :=
 ⟨below_step h.bel (Nat.le_refl _) hb, fun hd => by obtain ⟨g, e, b⟩ := h.f5 hd; exact ⟨g, e, b.keep hb⟩, h.f6, fun hd => by obtain ⟨g, e, b⟩ := h.f12 hd; exact ⟨g, e, b.keep hb⟩, h.f13, fun hd => by obtain ⟨g, e, b⟩ := h.f17 hd; exact ⟨g, e, b.keep hb⟩, h.f18, fun hd => by obtain ⟨g, e, b⟩ := h.f22 hd; exact ⟨g, e, b.keep hb⟩, h.f23, fun hd => by obtain ⟨g, e, b⟩ := h.f28 hd; exact ⟨g, e, b.keep hb⟩, h.f29, fun hd => by obtain ⟨g, e, b⟩ := h.f30 hd; exact ⟨g, e, b.keep hb⟩, fun hd => by obtain ⟨g, e, b, l⟩ := h.f35 hd; exact ⟨g, e, b.keep hb, l⟩, h.o6, h.o13, h.o18, h.o23, h.o29, h.o30⟩
theorem OkK.set5 (h : OkK W0 w v o D0 D1 D2 x) {t : Value} (hf : ∃ g, t = .slice (some ⟨g, 0, none⟩) 2 2 ∧ Blk w g 41 (c1K v)) : OkK W0 w v o D0 D1 D2 { x with d5 := true, t38 := t } :=
 ⟨h.bel, fun _ => hf, h.f6, h.f12, h.f13, h.f17, h.f18, h.f22, h.f23, h.f28, h.f29, h.f30, h.f35, fun hk => rfl, h.o13, h.o18, h.o23, h.o29, h.o30⟩
theorem OkK.set6 (h : OkK W0 w v o D0 D1 D2 x) (h5 : x.d5 = true) {t : Value} (hf : t = .agg #[.int .i64 1, .int .i64 0, .string D0]) : OkK W0 w v o D0 D1 D2 { x with d6 := true, t39 := t } :=
 ⟨h.bel, h.f5, fun _ => hf, h.f12, h.f13, h.f17, h.f18, h.f22, h.f23, h.f28, h.f29, h.f30, h.f35, fun _ => h5, fun hk => ⟨(h.o13 hk).1, rfl⟩, h.o18, h.o23, h.o29, h.o30⟩
theorem OkK.set12 (h : OkK W0 w v o D0 D1 D2 x) {t : Value} (hf : ∃ g, t = .slice (some ⟨g, 0, none⟩) 3 3 ∧ Blk w g 41 (c3K o)) : OkK W0 w v o D0 D1 D2 { x with d12 := true, t45 := t } :=
 ⟨h.bel, h.f5, h.f6, fun _ => hf, h.f13, h.f17, h.f18, h.f22, h.f23, h.f28, h.f29, h.f30, h.f35, h.o6, fun hk => ⟨rfl, (h.o13 hk).2⟩, h.o18, h.o23, h.o29, h.o30⟩
theorem OkK.set13 (h : OkK W0 w v o D0 D1 D2 x) (h12 : x.d12 = true) (h6 : x.d6 = true) {t : Value} (hf : t = .agg #[.int .i64 1, .int .i64 1, .string D1]) : OkK W0 w v o D0 D1 D2 { x with d13 := true, t46 := t } :=
 ⟨h.bel, h.f5, h.f6, h.f12, fun _ => hf, h.f17, h.f18, h.f22, h.f23, h.f28, h.f29, h.f30, h.f35, h.o6, fun _ => ⟨h12, h6⟩, fun hk => ⟨(h.o18 hk).1, rfl⟩, h.o23, h.o29, h.o30⟩
theorem OkK.set17 (h : OkK W0 w v o D0 D1 D2 x) {t : Value} (hf : ∃ g, t = .slice (some ⟨g, 0, none⟩) 2 2 ∧ Blk w g 41 (c2K)) : OkK W0 w v o D0 D1 D2 { x with d17 := true, t50 := t } :=
 ⟨h.bel, h.f5, h.f6, h.f12, h.f13, fun _ => hf, h.f18, h.f22, h.f23, h.f28, h.f29, h.f30, h.f35, h.o6, h.o13, fun hk => ⟨rfl, (h.o18 hk).2⟩, h.o23, h.o29, h.o30⟩
theorem OkK.set18 (h : OkK W0 w v o D0 D1 D2 x) (h17 : x.d17 = true) (h13 : x.d13 = true) {t : Value} (hf : t = .agg #[.int .i64 1, .int .i64 0, .string D2]) : OkK W0 w v o D0 D1 D2 { x with d18 := true, t51 := t } :=
 ⟨h.bel, h.f5, h.f6, h.f12, h.f13, h.f17, fun _ => hf, h.f22, h.f23, h.f28, h.f29, h.f30, h.f35, h.o6, h.o13, fun _ => ⟨h17, h13⟩, fun hk => ⟨(h.o23 hk).1, rfl⟩, h.o29, h.o30⟩
theorem OkK.set22 (h : OkK W0 w v o D0 D1 D2 x) {t : Value} (hf : ∃ g, t = .slice (some ⟨g, 0, none⟩) 2 2 ∧ Blk w g 41 (c2K)) : OkK W0 w v o D0 D1 D2 { x with d22 := true, t55 := t } :=
 ⟨h.bel, h.f5, h.f6, h.f12, h.f13, h.f17, h.f18, fun _ => hf, h.f23, h.f28, h.f29, h.f30, h.f35, h.o6, h.o13, h.o18, fun hk => ⟨rfl, (h.o23 hk).2⟩, h.o29, h.o30⟩
theorem OkK.set23 (h : OkK W0 w v o D0 D1 D2 x) (h22 : x.d22 = true) (h18 : x.d18 = true) {t : Value} (hf : t = .agg #[.int .i64 1, .int .i64 1, .string D2]) : OkK W0 w v o D0 D1 D2 { x with d23 := true, t56 := t } :=
 ⟨h.bel, h.f5, h.f6, h.f12, h.f13, h.f17, h.f18, h.f22, fun _ => hf, h.f28, h.f29, h.f30, h.f35, h.o6, h.o13, h.o18, fun _ => ⟨h22, h18⟩, fun hk => ⟨(h.o29 hk).1, rfl⟩, h.o30⟩
theorem OkK.set28 (h : OkK W0 w v o D0 D1 D2 x) {t : Value} (hf : ∃ g, t = .slice (some ⟨g, 0, none⟩) 2 2 ∧ Blk w g 41 (c2K)) : OkK W0 w v o D0 D1 D2 { x with d28 := true, t61 := t } :=
 ⟨h.bel, h.f5, h.f6, h.f12, h.f13, h.f17, h.f18, h.f22, h.f23, fun _ => hf, h.f29, h.f30, h.f35, h.o6, h.o13, h.o18, h.o23, fun hk => ⟨rfl, (h.o29 hk).2⟩, h.o30⟩
theorem OkK.set29 (h : OkK W0 w v o D0 D1 D2 x) (h28 : x.d28 = true) (h23 : x.d23 = true) {t : Value} (hf : t = .agg #[.int .i64 1, .int .i64 0, .string D2]) : OkK W0 w v o D0 D1 D2 { x with d29 := true, t62 := t } :=
 ⟨h.bel, h.f5, h.f6, h.f12, h.f13, h.f17, h.f18, h.f22, h.f23, h.f28, fun _ => hf, h.f30, h.f35, h.o6, h.o13, h.o18, h.o23, fun _ => ⟨h28, h23⟩, fun hk => rfl⟩
theorem OkK.set30 (h : OkK W0 w v o D0 D1 D2 x) (h29 : x.d29 = true) {t : Value} (hf : ∃ g, t = .slice (some ⟨g, 0, none⟩) 6 6 ∧ Blk w g 54 (c6K D0 D1 D2)) : OkK W0 w v o D0 D1 D2 { x with d30 := true, t63 := t } :=
 ⟨h.bel, h.f5, h.f6, h.f12, h.f13, h.f17, h.f18, h.f22, h.f23, h.f28, h.f29, fun _ => hf, h.f35, h.o6, h.o13, h.o18, h.o23, h.o29, fun _ => h29⟩
theorem OkK.set35 (h : OkK W0 w v o D0 D1 D2 x) {t : Value} (hf : ∃ z, t = .pointer (some ⟨z, 0, none⟩) ∧ Blk w z 29 #[.slice none 0 0, .slice none 0 0, .slice none 0 0] ∧ W0.heap.size ≤ z) : OkK W0 w v o D0 D1 D2 { x with d35 := true, t13 := t } :=
 ⟨h.bel, h.f5, h.f6, h.f12, h.f13, h.f17, h.f18, h.f22, h.f23, h.f28, h.f29, h.f30, fun _ => hf, h.o6, h.o13, h.o18, h.o23, h.o29, h.o30⟩
end
theorem kep_region {P : Program} {md : Region.Mode} {ops : Array Oper} {Q : Exit → Act → World → Prop} {late : List Nat} (A : Act) (W0 w0 : World) (v o D0 D1 D2 : ByteArray) (hz : ops.size = 38) (hback : backB md ops = true)
  (hdep : ([(6, 5), (13, 12), (13, 6), (18, 17), (18, 13), (23, 22), (23, 18), (29, 28), (29, 23), (30, 6), (30, 13), (30, 18), (30, 23), (30, 29), (31, 30), (32, 31), (33, 32), (34, 32), (36, 31), (37, 31)] : List (Nat × Nat)).all (fun p => (depsOf md ops p.1).contains p.2) = true)
  (s5 : ∀ (x : KQ) (w : World), OkK W0 w v o D0 D1 D2 x → wpOp P ops Q 5 (fun b u => (5 ∉ late → Below w.heap.size w u) ∧ ∃ t, OkK W0 u v o D0 D1 D2 { x with d5 := true, t38 := t } ∧ b = KQ.act { x with d5 := true, t38 := t } A) (x.act A) w)
  (s6 : ∀ (x : KQ) (w : World), OkK W0 w v o D0 D1 D2 x → x.d5 = true → wpOp P ops Q 6 (fun b u => (6 ∉ late → Below w.heap.size w u) ∧ ∃ t, OkK W0 u v o D0 D1 D2 { x with d6 := true, t39 := t } ∧ b = KQ.act { x with d6 := true, t39 := t } A) (x.act A) w)
  (s12 : ∀ (x : KQ) (w : World), OkK W0 w v o D0 D1 D2 x → wpOp P ops Q 12 (fun b u => (12 ∉ late → Below w.heap.size w u) ∧ ∃ t, OkK W0 u v o D0 D1 D2 { x with d12 := true, t45 := t } ∧ b = KQ.act { x with d12 := true, t45 := t } A) (x.act A) w)
  (s13 : ∀ (x : KQ) (w : World), OkK W0 w v o D0 D1 D2 x → x.d12 = true → x.d6 = true → wpOp P ops Q 13 (fun b u => (13 ∉ late → Below w.heap.size w u) ∧ ∃ t, OkK W0 u v o D0 D1 D2 { x with d13 := true, t46 := t } ∧ b = KQ.act { x with d13 := true, t46 := t } A) (x.act A) w)
  (s17 : ∀ (x : KQ) (w : World), OkK W0 w v o D0 D1 D2 x → wpOp P ops Q 17 (fun b u => (17 ∉ late → Below w.heap.size w u) ∧ ∃ t, OkK W0 u v o D0 D1 D2 { x with d17 := true, t50 := t } ∧ b = KQ.act { x with d17 := true, t50 := t } A) (x.act A) w)
  (s18 : ∀ (x : KQ) (w : World), OkK W0 w v o D0 D1 D2 x → x.d17 = true → x.d13 = true → wpOp P ops Q 18 (fun b u => (18 ∉ late → Below w.heap.size w u) ∧ ∃ t, OkK W0 u v o D0 D1 D2 { x with d18 := true, t51 := t } ∧ b = KQ.act { x with d18 := true, t51 := t } A) (x.act A) w)
  (s22 : ∀ (x : KQ) (w : World), OkK W0 w v o D0 D1 D2 x → wpOp P ops Q 22 (fun b u => (22 ∉ late → Below w.heap.size w u) ∧ ∃ t, OkK W0 u v o D0 D1 D2 { x with d22 := true, t55 := t } ∧ b = KQ.act { x with d22 := true, t55 := t } A) (x.act A) w)
  (s23 : ∀ (x : KQ) (w : World), OkK W0 w v o D0 D1 D2 x → x.d22 = true → x.d18 = true → wpOp P ops Q 23 (fun b u => (23 ∉ late → Below w.heap.size w u) ∧ ∃ t, OkK W0 u v o D0 D1 D2 { x with d23 := true, t56 := t } ∧ b = KQ.act { x with d23 := true, t56 := t } A) (x.act A) w)
  (s28 : ∀ (x : KQ) (w : World), OkK W0 w v o D0 D1 D2 x → wpOp P ops Q 28 (fun b u => (28 ∉ late → Below w.heap.size w u) ∧ ∃ t, OkK W0 u v o D0 D1 D2 { x with d28 := true, t61 := t } ∧ b = KQ.act { x with d28 := true, t61 := t } A) (x.act A) w)
  (s29 : ∀ (x : KQ) (w : World), OkK W0 w v o D0 D1 D2 x → x.d28 = true → x.d23 = true → wpOp P ops Q 29 (fun b u => (29 ∉ late → Below w.heap.size w u) ∧ ∃ t, OkK W0 u v o D0 D1 D2 { x with d29 := true, t62 := t } ∧ b = KQ.act { x with d29 := true, t62 := t } A) (x.act A) w)
  (s30 : ∀ (x : KQ) (w : World), OkK W0 w v o D0 D1 D2 x → x.d6 = true → x.d13 = true → x.d18 = true → x.d23 = true → x.d29 = true → wpOp P ops Q 30 (fun b u => (30 ∉ late → Below w.heap.size w u) ∧ ∃ t, OkK W0 u v o D0 D1 D2 { x with d30 := true, t63 := t } ∧ b = KQ.act { x with d30 := true, t63 := t } A) (x.act A) w)
  (s35 : ∀ (x : KQ) (w : World), OkK W0 w v o D0 D1 D2 x → wpOp P ops Q 35 (fun b u => (35 ∉ late → Below w.heap.size w u) ∧ ∃ t, OkK W0 u v o D0 D1 D2 { x with d35 := true, t13 := t } ∧ b = KQ.act { x with d35 := true, t13 := t } A) (x.act A) w)
  (s31 : ∀ (x : KQ) (w : World), OkK W0 w v o D0 D1 D2 x → x.d5 = true → x.d6 = true → x.d12 = true → x.d13 = true → x.d17 = true → x.d18 = true → x.d22 = true → x.d23 = true → x.d28 = true → x.d29 = true → x.d30 = true → wpOp P ops Q 31 (fun b u => (31 ∉ late → Below w.heap.size w u) ∧ anyB P md ops Q late (leftN (x.done.setIfInBounds 31 true)) (x.done.setIfInBounds 31 true) b u) (x.act A) w)
  (x0 : KQ) (ha : x0.act A = A) (h0 : OkK W0 w0 v o D0 D1 D2 x0) : ∀ n d, x0.done = d → leftN d = n → anyB P md ops Q late n d A w0 := by
 intro n d hd hn
 refine anyB_inv (fun d a w => ∃ x : KQ, d = x.done ∧ a = x.act A ∧ OkK W0 w v o D0 D1 D2 x) ?_ ?_ n d A w0 hn ⟨x0, hd.symm, ha.symm, h0⟩
 ·rintro d a w ⟨x, rfl, -, -⟩ hr
  have := all_done hback (by rw [hz]; rfl) hr 31 (by rw [hz]; decide)
  exact Bool.noConfusion (show false = true from this)
 ·rintro d a w j ⟨x, rfl, rfl, hok⟩ hj
  obtain ⟨hu, hds⟩ := ready_deps hj
  have dep : ∀ p ∈ ([(6, 5), (13, 12), (13, 6), (18, 17), (18, 13), (23, 22), (23, 18), (29, 28), (29, 23), (30, 6), (30, 13), (30, 18), (30, 23), (30, 29), (31, 30), (32, 31), (33, 32), (34, 32), (36, 31), (37, 31)] : List (Nat × Nat)), j = p.1 → x.done.getD p.2 false = true := by
   intro p hp e
   have := List.all_eq_true.1 hdep p hp
   rw [List.contains_iff_mem] at this
   exact hds p.2 (by rw [e]; exact this)
  have hlt : j < 38 := by
   obtain ⟨_, q, hq, _⟩ := mem_ready.1 hj
   have := (Array.getElem?_eq_some_iff.1 hq).1
   omega
  match j, hlt with
  | 0, _ => exact Bool.noConfusion (show true = false from hu)
  | 1, _ => exact Bool.noConfusion (show true = false from hu)
  | 2, _ => exact Bool.noConfusion (show true = false from hu)
  | 3, _ => exact Bool.noConfusion (show true = false from hu)
  | 4, _ => exact Bool.noConfusion (show true = false from hu)
  | 5, _ =>
   refine wpOp_mono (fun b u hb => ⟨hb.1, .inl ?_⟩) (s5 x w hok )
   obtain ⟨t, h1, h2⟩ := hb.2
   exact ⟨_, rfl, h2, h1⟩
  | 6, _ =>
   refine wpOp_mono (fun b u hb => ⟨hb.1, .inl ?_⟩) (s6 x w hok (dep (6, 5) (by simp) rfl))
   obtain ⟨t, h1, h2⟩ := hb.2
   exact ⟨_, rfl, h2, h1⟩
  | 7, _ => exact Bool.noConfusion (show true = false from hu)
  | 8, _ => exact Bool.noConfusion (show true = false from hu)
  | 9, _ => exact Bool.noConfusion (show true = false from hu)
  | 10, _ => exact Bool.noConfusion (show true = false from hu)
  | 11, _ => exact Bool.noConfusion (show true = false from hu)
  | 12, _ =>
   refine wpOp_mono (fun b u hb => ⟨hb.1, .inl ?_⟩) (s12 x w hok )
   obtain ⟨t, h1, h2⟩ := hb.2
   exact ⟨_, rfl, h2, h1⟩
  | 13, _ =>
   refine wpOp_mono (fun b u hb => ⟨hb.1, .inl ?_⟩) (s13 x w hok (dep (13, 12) (by simp) rfl) (dep (13, 6) (by simp) rfl))
   obtain ⟨t, h1, h2⟩ := hb.2
   exact ⟨_, rfl, h2, h1⟩
  | 14, _ => exact Bool.noConfusion (show true = false from hu)
  | 15, _ => exact Bool.noConfusion (show true = false from hu)
  | 16, _ => exact Bool.noConfusion (show true = false from hu)
  | 17, _ =>
   refine wpOp_mono (fun b u hb => ⟨hb.1, .inl ?_⟩) (s17 x w hok )
   obtain ⟨t, h1, h2⟩ := hb.2
   exact ⟨_, rfl, h2, h1⟩
  | 18, _ =>
   refine wpOp_mono (fun b u hb => ⟨hb.1, .inl ?_⟩) (s18 x w hok (dep (18, 17) (by simp) rfl) (dep (18, 13) (by simp) rfl))
   obtain ⟨t, h1, h2⟩ := hb.2
   exact ⟨_, rfl, h2, h1⟩
  | 19, _ => exact Bool.noConfusion (show true = false from hu)
  | 20, _ => exact Bool.noConfusion (show true = false from hu)
  | 21, _ => exact Bool.noConfusion (show true = false from hu)
  | 22, _ =>
   refine wpOp_mono (fun b u hb => ⟨hb.1, .inl ?_⟩) (s22 x w hok )
   obtain ⟨t, h1, h2⟩ := hb.2
   exact ⟨_, rfl, h2, h1⟩
  | 23, _ =>
   refine wpOp_mono (fun b u hb => ⟨hb.1, .inl ?_⟩) (s23 x w hok (dep (23, 22) (by simp) rfl) (dep (23, 18) (by simp) rfl))
   obtain ⟨t, h1, h2⟩ := hb.2
   exact ⟨_, rfl, h2, h1⟩
  | 24, _ => exact Bool.noConfusion (show true = false from hu)
  | 25, _ => exact Bool.noConfusion (show true = false from hu)
  | 26, _ => exact Bool.noConfusion (show true = false from hu)
  | 27, _ => exact Bool.noConfusion (show true = false from hu)
  | 28, _ =>
   refine wpOp_mono (fun b u hb => ⟨hb.1, .inl ?_⟩) (s28 x w hok )
   obtain ⟨t, h1, h2⟩ := hb.2
   exact ⟨_, rfl, h2, h1⟩
  | 29, _ =>
   refine wpOp_mono (fun b u hb => ⟨hb.1, .inl ?_⟩) (s29 x w hok (dep (29, 28) (by simp) rfl) (dep (29, 23) (by simp) rfl))
   obtain ⟨t, h1, h2⟩ := hb.2
   exact ⟨_, rfl, h2, h1⟩
  | 30, _ =>
   refine wpOp_mono (fun b u hb => ⟨hb.1, .inl ?_⟩) (s30 x w hok (dep (30, 6) (by simp) rfl) (dep (30, 13) (by simp) rfl) (dep (30, 18) (by simp) rfl) (dep (30, 23) (by simp) rfl) (dep (30, 29) (by simp) rfl))
   obtain ⟨t, h1, h2⟩ := hb.2
   exact ⟨_, rfl, h2, h1⟩
  | 31, _ =>
   have h30 : x.d30 = true := dep (31, 30) (by simp) rfl
   have h29 := hok.o30 h30
   obtain ⟨h28, h23⟩ := hok.o29 h29
   obtain ⟨h22, h18⟩ := hok.o23 h23
   obtain ⟨h17, h13⟩ := hok.o18 h18
   obtain ⟨h12, h6⟩ := hok.o13 h13
   have h5 := hok.o6 h6
   exact wpOp_mono (fun b u hb => ⟨hb.1, .inr hb.2⟩) (s31 x w hok h5 h6 h12 h13 h17 h18 h22 h23 h28 h29 h30)
  | 32, _ => exact Bool.noConfusion (show false = true from dep (32, 31) (by simp) rfl)
  | 33, _ => exact Bool.noConfusion (show false = true from dep (33, 32) (by simp) rfl)
  | 34, _ => exact Bool.noConfusion (show false = true from dep (34, 32) (by simp) rfl)
  | 35, _ =>
   refine wpOp_mono (fun b u hb => ⟨hb.1, .inl ?_⟩) (s35 x w hok )
   obtain ⟨t, h1, h2⟩ := hb.2
   exact ⟨_, rfl, h2, h1⟩
  | 36, _ => exact Bool.noConfusion (show false = true from dep (36, 31) (by simp) rfl)
  | 37, _ => exact Bool.noConfusion (show false = true from dep (37, 31) (by simp) rfl)
end Go.Proofs.YtjbnfigpflambacGreatDoor
/- SettingsKept: its texts, and its statements in memory. -/
namespace Go.Proofs.YtjbnfigpflambacGreatDoor
open Go.ChangeShapes Go.WideShapes Go.ChangeAt Go.RowKit
def digK (i : Nat) : ByteArray := ⟨(Lib.decDigits i).toArray⟩
def valK (i : Nat) : ByteArray := ⟨#[118]⟩ ++ digK i
def okK (i : Nat) : Bool :=
 decide (checkE (setS (valK i)) = 0) && decide ((valK i).size ≤ 20) && decide ((textOf (setS (valK i))).size ≤ 120) && decide (readE (textOf (setS (valK i))) = 0) && decide ((readS (textOf (setS (valK i)))).k = 9) && decide ((readS (textOf (setS (valK i)))).key = aK) && decide ((readS (textOf (setS (valK i)))).val = valK i) && decide ((digK i).size ≤ 3) && decide (tellA ⟨2, valK i, 0⟩ = ⟨#[73, 61]⟩ ++ valK i)
theorem all_okK : (List.range 100).all okK = true := by decide +kernel
structure ValOk (v : ByteArray) : Prop where
 said : Said (setS v)
 text : TextFor (textOf (setS v)) (setS v)
 tell : tellA ⟨2, v, 0⟩ = ⟨#[73, 61]⟩ ++ v
 size : v.size ≤ 20
theorem val_okK {i : Nat} (h : i < 100) : ValOk (valK i) ∧ (digK i).size ≤ 3 := by
 have := List.all_eq_true.1 all_okK i (List.mem_range.2 h)
 unfold okK at this
 simp only [Bool.and_eq_true, decide_eq_true_eq] at this
 obtain ⟨⟨⟨⟨⟨⟨⟨⟨h1, h2⟩, h3⟩, h4⟩, h5⟩, h6⟩, h7⟩, h8⟩, h9⟩ := this
 exact ⟨⟨⟨h1, by show aK.size ≤ 60; decide, by show (valK i).size ≤ 60; omega, h3⟩, ⟨h3, h4, st_ext h5 h6 h7⟩, h9, h2⟩, h8⟩
theorem saidK_prep : Said prepS := ⟨by decide +kernel, by decide, by decide, by decide +kernel⟩
theorem saidK_get : Said getS := ⟨by decide +kernel, by decide, by decide, by decide +kernel⟩
theorem saidK_run : Said runS := ⟨by decide +kernel, by decide, by decide, by decide +kernel⟩
theorem textK_prep : TextFor (textOf prepS) prepS := ⟨by decide +kernel, by decide +kernel, st_ext (by decide +kernel) (by decide +kernel) (by decide +kernel)⟩
theorem textK_get : TextFor (textOf getS) getS := ⟨by decide +kernel, by decide +kernel, st_ext (by decide +kernel) (by decide +kernel) (by decide +kernel)⟩
theorem textK_run : TextFor (textOf runS) runS := ⟨by decide +kernel, by decide +kernel, st_ext (by decide +kernel) (by decide +kernel) (by decide +kernel)⟩
theorem two_stmts {w : World} {g : Nat} {x y : St} {cs : Array Value} (h : Blk w g 41 cs) (e : cs = #[.int .i64 x.k, .string x.key, .string x.val, .int .i64 y.k, .string y.key, .string y.val]) : StL w w.heap.size (.slice (some ⟨g, 0, none⟩) 2 2) [x, y] := by
 subst e
 have add0 : ∀ n, (⟨g, 0, none⟩ : Addr).add n = ⟨g, n, none⟩ := fun n => by unfold Addr.add; split <;> simp_all
 refine ⟨some ⟨g, 0, none⟩, 2, rfl, by simp, fun _ => ⟨_, rfl, h.lt, fun i hi => ?_⟩⟩
 have hi : i < 2 := hi
 rw [add0]
 rcases i with _ | _ | i
 ·exact ⟨h.cell_ 0 _ rfl, h.cell_ 1 _ rfl, h.cell_ 2 _ rfl⟩
 ·exact ⟨h.cell_ 3 _ rfl, h.cell_ 4 _ rfl, h.cell_ 5 _ rfl⟩
 ·omega
theorem three_stmts {w : World} {g : Nat} {x y z : St} {cs : Array Value} (h : Blk w g 41 cs) (e : cs = #[.int .i64 x.k, .string x.key, .string x.val, .int .i64 y.k, .string y.key, .string y.val, .int .i64 z.k, .string z.key, .string z.val]) : StL w w.heap.size (.slice (some ⟨g, 0, none⟩) 3 3) [x, y, z] := by
 subst e
 have add0 : ∀ n, (⟨g, 0, none⟩ : Addr).add n = ⟨g, n, none⟩ := fun n => by unfold Addr.add; split <;> simp_all
 refine ⟨some ⟨g, 0, none⟩, 3, rfl, by simp, fun _ => ⟨_, rfl, h.lt, fun i hi => ?_⟩⟩
 have hi : i < 3 := hi
 rw [add0]
 rcases i with _ | _ | _ | i
 ·exact ⟨h.cell_ 0 _ rfl, h.cell_ 1 _ rfl, h.cell_ 2 _ rfl⟩
 ·exact ⟨h.cell_ 3 _ rfl, h.cell_ 4 _ rfl, h.cell_ 5 _ rfl⟩
 ·exact ⟨h.cell_ 6 _ rfl, h.cell_ 7 _ rfl, h.cell_ 8 _ rfl⟩
 ·omega
theorem six_acts {w : World} {g : Nat} {t1 t2 t3 t4 t5 : ByteArray} (h : Blk w g 54 (c6K (catQ [t1, t2]) (catQ [t3, t4, t5]) (catQ [t3, t4]))) : AcL w w.heap.size (.slice (some ⟨g, 0, none⟩) 6 6) (keptL t1 t2 t3 t4 t5) := by
 have add0 : ∀ n, (⟨g, 0, none⟩ : Addr).add n = ⟨g, n, none⟩ := fun n => by unfold Addr.add; split <;> simp_all
 refine ⟨some ⟨g, 0, none⟩, 6, rfl, fun _ => ⟨_, rfl, h.lt, fun i hi => ?_⟩⟩
 have hi : i < 6 := hi
 rw [add0]
 rcases i with _ | _ | _ | _ | _ | _ | i
 ·exact ⟨h.cell_ 0 _ rfl, h.cell_ 1 _ rfl, h.cell_ 2 _ rfl⟩
 ·exact ⟨h.cell_ 3 _ rfl, h.cell_ 4 _ rfl, h.cell_ 5 _ rfl⟩
 ·exact ⟨h.cell_ 6 _ rfl, h.cell_ 7 _ rfl, h.cell_ 8 _ rfl⟩
 ·exact ⟨h.cell_ 9 _ rfl, h.cell_ 10 _ rfl, h.cell_ 11 _ rfl⟩
 ·exact ⟨h.cell_ 12 _ rfl, h.cell_ 13 _ rfl, h.cell_ 14 _ rfl⟩
 ·exact ⟨h.cell_ 15 _ rfl, h.cell_ 16 _ rfl, h.cell_ 17 _ rfl⟩
 ·omega
theorem zk0 : (0 : Int) ≤ ((0 : Nat) : Int) ∧ ((0 : Nat) : Int) < 6 ∧ ((0 : Nat) : Int).toNat < 6 := by decide
theorem zk1 : (0 : Int) ≤ ((1 : Nat) : Int) ∧ ((1 : Nat) : Int) < 6 ∧ ((1 : Nat) : Int).toNat < 6 := by decide
theorem kept_ok {t1 t2 t3 t4 t5 : ByteArray} (h1 : t1.size ≤ 120) (h2 : t2.size ≤ 120) (h3 : t3.size ≤ 120) (h4 : t4.size ≤ 120) (h5 : t5.size ≤ 120) : ∀ a ∈ keptL t1 t2 t3 t4 t5, AcOk a ∧ a.c.toNat < 6 := by
 have z2 : ∀ {a b : ByteArray}, a.size ≤ 120 → b.size ≤ 120 → (catQ [a, b]).size ≤ 1000 := fun ha hb => Nat.le_trans (catQ_sz _ (by intro t ht; simp at ht; rcases ht with rfl | rfl <;> assumption)) (by simp)
 have z3 : (catQ [t3, t4, t5]).size ≤ 1000 := Nat.le_trans (catQ_sz _ (by intro t ht; simp at ht; rcases ht with rfl | rfl | rfl <;> assumption)) (by simp)
 intro a ha
 simp only [keptL, List.mem_cons, List.not_mem_nil, or_false] at ha
 rcases ha with rfl | rfl | rfl | rfl | rfl | rfl
 ·exact ⟨⟨.inl rfl, zk0.1, zk0.2.1, z2 h1 h2⟩, zk0.2.2⟩
 ·exact ⟨⟨.inl rfl, zk1.1, zk1.2.1, z3⟩, zk1.2.2⟩
 ·exact ⟨⟨.inl rfl, zk0.1, zk0.2.1, z2 h3 h4⟩, zk0.2.2⟩
 ·exact ⟨⟨.inl rfl, zk1.1, zk1.2.1, z2 h3 h4⟩, zk1.2.2⟩
 ·exact ⟨⟨.inr rfl, zk0.1, zk0.2.1, Nat.zero_le _⟩, zk0.2.2⟩
 ·exact ⟨⟨.inl rfl, zk0.1, zk0.2.1, z2 h3 h4⟩, zk0.2.2⟩
def iok : ByteArray := ⟨#[73, 111, 107]⟩
def inone : ByteArray := ⟨#[73, 110, 111, 110, 101]⟩
def inot : ByteArray := ⟨#[73, 33, 110, 111, 116, 32, 112, 114, 101, 112, 97, 114, 101, 100]⟩
theorem out_kept (mode : Int) (hm : mode ≠ 1) {v o : ByteArray} (hv : ValOk v) (ho : ValOk o) :
  (outM mode 1 (keptL (textOf (setS v)) (textOf prepS) (textOf getS) (textOf runS) (textOf (setS o)))).sent.getD 0 ByteArray.empty = catM [iok, iok, ⟨#[73, 61]⟩ ++ v, ⟨#[73, 61]⟩ ++ v, inone, inot] ∧
  (outM mode 1 (keptL (textOf (setS v)) (textOf prepS) (textOf getS) (textOf runS) (textOf (setS o)))).sent.getD 1 ByteArray.empty = catM [inone, inot, iok, ⟨#[73, 61]⟩ ++ o, inot] := by
 have h := kept_law mode hm 1 (by decide) (by decide) hv.text textK_prep textK_get textK_run ho.text
 have e1 : tellA okA = iok := by decide +kernel
 have e2 : tellA ⟨3, ⟨#[]⟩, 0⟩ = inone := by decide +kernel
 have e3 : tellA (noA tNotPrep) = inot := by decide +kernel
 rw [e1, e2, e3, hv.tell, ho.tell] at h
 rw [out_house mode 1 (by decide) _ fun a ha => (kept_ok hv.said.t saidK_prep.t saidK_get.t saidK_run.t ho.said.t a ha).2]
 exact h
theorem tell_sz2 {v : ByteArray} (h : v.size ≤ 20) : ((⟨#[73, 61]⟩ : ByteArray) ++ v).size ≤ 62 := by
 rw [ByteArray.size_append]
 show 2 + v.size ≤ 62
 omega
end Go.Proofs.YtjbnfigpflambacGreatDoor
