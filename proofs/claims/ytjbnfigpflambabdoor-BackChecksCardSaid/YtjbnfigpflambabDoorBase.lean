/- Plain lemmas that every text of this seat uses: a world kept below a block, the end of a walk. -/
import Derived.Test.YtjbnfigpflambabDoorRows
import Derived.WalkKit
import Derived.ProofKit
import Derived.OpenShut
import Derived.Below
import Derived.Outline
import Derived.Lib.Hide
import Derived.ShutString
import Derived.ChangeOld
import Derived.Lib.SmallJoins
namespace Go.Proofs.YtjbnfigpflambabDoor
open Go.ChangeShapes Go.WideShapes Go.ChangeAt Go.RowKit

theorem own : ownKnob Tryd.prog.godebug = none := by kernel_rfl
theorem laidOut : laidOutB Tryd.prog = true := by kernel_rfl

/-- the two results of a function, as one ending -/
theorem ret_two {u v u' v' : Value} (h1 : u = u') (h2 : v = v') : Ending.returned (.tuple #[u, v]) = .returned (.tuple #[u', v']) := by rw [h1, h2]
theorem ret_three {u v x u' v' x' : Value} (h1 : u = u') (h2 : v = v') (h3 : x = x') : Ending.returned (.tuple #[u, v, x]) = .returned (.tuple #[u', v', x']) := by rw [h1, h2, h3]
theorem str_eq {a b : ByteArray} (h : a = b) : Value.string a = .string b := by rw [h]
theorem int_eq {k : IntKind} {a b : Int} (h : a = b) : Value.int k a = .int k b := by rw [h]

theorem wf_u8 {a : Int} (h : (Lit.int .u8 a).wf = true) : ∃ k : UInt8, a = (k.toNat : Int) := by
  have hx : 0 ≤ a ∧ a ≤ 255 := by simpa [Lit.wf, IntKind.min, IntKind.max, IntKind.signed, IntKind.bits] using h
  refine ⟨UInt8.ofNat a.toNat, ?_⟩
  simp
  omega
theorem wf_i64 {a : Int} (h : (Lit.int .i64 a).wf = true) : -9223372036854775808 ≤ a ∧ a ≤ 9223372036854775807 := by
  simpa [Lit.wf, IntKind.min, IntKind.max, IntKind.signed, IntKind.bits] using h
theorem boxed (w : World) (o : Obj) : Below w.heap.size w (w.alloc o) := (Below.refl _ _).alloc (Nat.le_refl _) _
theorem boxed2 (w : World) (o o' : Obj) : Below w.heap.size w ((w.alloc o).alloc o') := (boxed w o).alloc (by simp) _
theorem toList_data (t : ByteArray) : t.toList = t.data.toList := ByteArray.toList_eq ..
theorem size_of_nil {t : ByteArray} (h : t.toList = []) : t.size = 0 := by
  rw [toList_data] at h
  simpa using congrArg List.length h
theorem le_maxLen {n : Nat} (h : n ≤ 140737488351232) : n ≤ maxLen := by unfold maxLen; omega
/-- a boxed value's cells, behind a call that keeps what is below -/
theorem box_cell {W w1 : World} {cs : Array Value} {T : TypeId} (hb : Below (W.alloc (.cells cs T)).heap.size (W.alloc (.cells cs T)) w1) (i : Nat) : w1.cell? ⟨W.heap.size, i, none⟩ = cs[i]? :=
  (hb.cell (by simp)).trans (cell_of_row _ _ i _ _ (0, 0) (heap_alloc_new W _))
theorem box_cell' {W w1 : World} {cs : Array Value} {T : TypeId} (hb : Below (W.heap.size + 1) (W.alloc (.cells cs T)) w1) (i : Nat) : w1.cell? ⟨W.heap.size, i, none⟩ = cs[i]? :=
  (hb.cell (by simp)).trans (cell_of_row _ _ i _ _ (0, 0) (heap_alloc_new W _))
theorem below_of_alloc {W w1 : World} {o : Obj} {B : Nat} (hB : B ≤ W.heap.size) (hb : Below (W.alloc o).heap.size (W.alloc o) w1) : Below B W w1 :=
  ((Below.refl B W).alloc hB o).trans (hb.mono (by simp; omega))
theorem below_step {B : Nat} {a b c : World} (h : Below B a b) (hB : B ≤ a.heap.size) (k : Below b.heap.size b c) : Below B a c :=
  h.trans (k.mono (Nat.le_trans hB h.size))
theorem below_drewN {B : Nat} {a w : World} (h : Below B a w) (n : Nat) : Below B a (w.drewN n) := ⟨h.os, h.tape, h.output, h.size, h.block⟩
/-- a cell that is there stays, behind a call that keeps what is there -/
theorem keep_cell {w w' : World} (hb : Below w.heap.size w w') {a : Addr} {v : Value} (h : w.cell? a = some v) : w'.cell? a = some v :=
  (hb.cell (World.block_lt_of_cell? w a h)).trans h
theorem keep_frozen {w w' : World} (hb : Below w.heap.size w w') {a : Addr} {v : Value} (h : w.cell? a = some v) (hf : w.frozen? a = false) : w'.frozen? a = false :=
  (hb.frozen (World.block_lt_of_cell? w a h)).trans hf
theorem box2_cell {W w1 : World} {cs ds : Array Value} {S T : TypeId} (hb : Below ((W.alloc (.cells cs S)).alloc (.cells ds T)).heap.size ((W.alloc (.cells cs S)).alloc (.cells ds T)) w1) (i : Nat) :
    w1.cell? ⟨W.heap.size, i, none⟩ = cs[i]? ∧ w1.cell? ⟨W.heap.size + 1, i, none⟩ = ds[i]? := by
  refine ⟨(hb.cell (by simp; try omega)).trans ?_, (hb.cell (by simp; try omega)).trans ?_⟩
  · rw [World.cell?_alloc_lt _ _ _ (by simp)]
    exact cell_of_row _ _ i _ _ (0, 0) (heap_alloc_new W _)
  · have h := heap_alloc_new (W.alloc (.cells cs S)) (.cells ds T)
    have e : (W.alloc (.cells cs S)).heap.size = W.heap.size + 1 := by simp
    rw [e] at h
    exact cell_of_row _ _ i _ _ (0, 0) h
theorem bool_ret {b : Bool} (h : b = true) : Ending.returned (.bool b) = .returned (.bool true) := by rw [h]
theorem str_inj {a b : ByteArray} (h : a.toList = b.toList) : a = b := by
  rw [toList_data, toList_data] at h
  exact Go.WideShapes.bytes_inj h
theorem str_ne {a b : ByteArray} (h : a.toList ≠ b.toList) : (!(a.toList == b.toList)) = true := by simpa using h
end Go.Proofs.YtjbnfigpflambabDoor
