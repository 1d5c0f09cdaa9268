/- Plain lemmas that every text of this seat uses: a world kept below a block, the end of a walk. Words for memory, as the guide gives them for copying: a slice that reads as a list (Reads), a block that is known whole (Blk); and small laws beside them. Slices of pairs in memory: what reads as a list of pairs; copies of such slices; the laws' comparison. A region that draws its order, with loads ahead of calls and stores behind both: the loads may be taken first although a store turns what they read, where every such store waits for them. -/
import Derived.Test.YtjbnfigpflambacGreatDoorRows
import Derived.Test.YtjbnfigpflambacGreatDoorG01
import Derived.WalkKit
import Derived.ProofKit
import Derived.OpenShut
import Derived.Below
import Derived.Outline
import Derived.Lib.Hide
import Derived.ShutString
import Derived.ChangeOld
import Derived.Lib.SmallJoins
import Derived.Laws.OwnMore
import Derived.Deep.AppendLies
import Derived.Deep.Draws
import Derived.Laws.Rows
import Derived.Maps.AppendAt
import Derived.RegionTactic
import Derived.OwnWalk
import Derived.Deep.QuietTactic
import Derived.BigQuiet
import Derived.WalkSpells
import Derived.WalkLawsBesides
import Derived.Deep.RegionHeld3
import Derived.OrdersHeld
/- Plain lemmas that every text of this seat uses: a world kept below a block, the end of a walk. -/
namespace Go.Proofs.YtjbnfigpflambacGreatDoor
open Go.ChangeShapes Go.WideShapes Go.ChangeAt Go.RowKit
theorem own : ownKnob Tryz.prog.godebug = none := by kernel_rfl
theorem laidOut : laidOutB Tryz.prog = true := by kernel_rfl
theorem wf_i64 {a : Int} (h : (Lit.int .i64 a).wf = true) : -9223372036854775808 ≤ a ∧ a ≤ 9223372036854775807 := by
 simpa [Lit.wf, IntKind.min, IntKind.max, IntKind.signed, IntKind.bits] using h
theorem boxed (w : World) (o : Obj) : Below w.heap.size w (w.alloc o) := (Below.refl _ _).alloc (Nat.le_refl _) _
theorem boxed2 (w : World) (o o' : Obj) : Below w.heap.size w ((w.alloc o).alloc o') := (boxed w o).alloc (by simp) _
theorem toList_data (t : ByteArray) : t.toList = t.data.toList := ByteArray.toList_eq ..
theorem size_of_nil {t : ByteArray} (h : t.toList = []) : t.size = 0 := by
 rw [toList_data] at h
 simpa using congrArg List.length h
theorem le_maxLen {n : Nat} (h : n ≤ 140737488351232) : n ≤ maxLen := by unfold maxLen; omega
theorem box_cell {W w1 : World} {cs : Array Value} {T : TypeId} (hb : Below (W.alloc (.cells cs T)).heap.size (W.alloc (.cells cs T)) w1) (i : Nat) : w1.cell? ⟨W.heap.size, i, none⟩ = cs[i]? :=
 (hb.cell (by simp)).trans (cell_of_row _ _ i _ _ (0, 0) (heap_alloc_new W _))
theorem below_of_alloc {W w1 : World} {o : Obj} {B : Nat} (hB : B ≤ W.heap.size) (hb : Below (W.alloc o).heap.size (W.alloc o) w1) : Below B W w1 :=
 ((Below.refl B W).alloc hB o).trans (hb.mono (by simp; omega))
theorem below_step {B : Nat} {a b c : World} (h : Below B a b) (hB : B ≤ a.heap.size) (k : Below b.heap.size b c) : Below B a c :=
 h.trans (k.mono (Nat.le_trans hB h.size))
theorem below_drewN {B : Nat} {a w : World} (h : Below B a w) (n : Nat) : Below B a (w.drewN n) := ⟨h.os, h.tape, h.output, h.size, h.block⟩
theorem keep_cell {w w' : World} (hb : Below w.heap.size w w') {a : Addr} {v : Value} (h : w.cell? a = some v) : w'.cell? a = some v :=
 (hb.cell (World.block_lt_of_cell? w a h)).trans h
theorem keep_frozen {w w' : World} (hb : Below w.heap.size w w') {a : Addr} {v : Value} (h : w.cell? a = some v) (hf : w.frozen? a = false) : w'.frozen? a = false :=
 (hb.frozen (World.block_lt_of_cell? w a h)).trans hf
theorem box2_cell {W w1 : World} {cs ds : Array Value} {S T : TypeId} (hb : Below ((W.alloc (.cells cs S)).alloc (.cells ds T)).heap.size ((W.alloc (.cells cs S)).alloc (.cells ds T)) w1) (i : Nat) :
  w1.cell? ⟨W.heap.size, i, none⟩ = cs[i]? ∧ w1.cell? ⟨W.heap.size + 1, i, none⟩ = ds[i]? := by
 refine ⟨(hb.cell (by simp; try omega)).trans ?_, (hb.cell (by simp; try omega)).trans ?_⟩
 ·rw [World.cell?_alloc_lt _ _ _ (by simp)]
  exact cell_of_row _ _ i _ _ (0, 0) (heap_alloc_new W _)
 ·have h := heap_alloc_new (W.alloc (.cells cs S)) (.cells ds T)
  have e : (W.alloc (.cells cs S)).heap.size = W.heap.size + 1 := by simp
  rw [e] at h
  exact cell_of_row _ _ i _ _ (0, 0) h
theorem str_inj {a b : ByteArray} (h : a.toList = b.toList) : a = b := by
 rw [toList_data, toList_data] at h
 exact Go.WideShapes.bytes_inj h
end Go.Proofs.YtjbnfigpflambacGreatDoor
/- Words for memory, as the guide gives them for copying: a slice that reads as a list (Reads), a block that is known whole (Blk); and small laws beside them. -/
namespace Go.Proofs.YtjbnfigpflambacGreatDoor
open Go.RowKit
theorem block_of_add (a : Addr) (n : Nat) : (a.add n).block = a.block := by unfold Addr.add; split <;> rfl
theorem add_of_add (a : Addr) (i j : Nat) : (a.add i).add j = a.add (i + j) := by
 unfold Addr.add
 by_cases hi : i = 0 <;> by_cases hj : j = 0 <;> simp [hi, hj, Nat.add_assoc]
def Reads (w : World) (B size : Nat) (A : Option Addr) (n : Nat) (xs : List Value) : Prop :=
 xs.length = n * size ∧ (0 < n → ∃ ad, A = some ad ∧ ad.block < B ∧ ∀ j u, xs[j]? = some u → w.cell? (ad.add j) = some u)
section
variable {w w' : World} {B B' size n : Nat} {A : Option Addr} {xs : List Value}
theorem Reads.none_ : Reads w B size A 0 [] := ⟨by simp, fun h => absurd h (by omega)⟩
theorem Reads.at_ {k : Nat} (h : Reads w B 1 A n xs) (hk : k < n) : ∃ ad u, A = some ad ∧ ad.block < B ∧ xs[k]? = some u ∧ w.cell? (ad.add k) = some u := by
 obtain ⟨ad, e, hb, hc⟩ := h.2 (by omega)
 have hl : k < xs.length := by have := h.1; omega
 exact ⟨ad, xs[k], e, hb, List.getElem?_eq_getElem hl, hc k _ (List.getElem?_eq_getElem hl)⟩
theorem Reads.keep (h : Reads w B size A n xs) (hk : ∀ p : Addr, p.block < B → w'.cell? p = w.cell? p) : Reads w' B size A n xs :=
 ⟨h.1, fun hn => by
  obtain ⟨ad, e, hb, hc⟩ := h.2 hn
  exact ⟨ad, e, hb, fun j u hu => (hk _ (by rw [block_of_add]; exact hb)).trans (hc j u hu)⟩⟩
theorem Reads.more (h : Reads w B size A n xs) (hB : B ≤ B') : Reads w B' size A n xs :=
 ⟨h.1, fun hn => by
  obtain ⟨ad, e, hb, hc⟩ := h.2 hn
  exact ⟨ad, e, by omega, hc⟩⟩
theorem Reads.below (h : Reads w B size A n xs) (hb : Below B w w') : Reads w' B size A n xs := h.keep fun _ hp => hb.cell hp
theorem Reads.drew (h : Reads w B size A n xs) : Reads w.drew B size A n xs := h
theorem Reads.drewN (h : Reads w B size A n xs) (k : Nat) : Reads (w.drewN k) B size A n xs := h
theorem Reads.alloc (h : Reads w B size A n xs) (hB : B ≤ w.heap.size) (o : Obj) : Reads (w.alloc o) B size A n xs := h.keep fun p hp => World.cell?_alloc_lt w o p (by omega)
theorem Reads.setCell (h : Reads w B size A n xs) {p : Addr} (hB : B ≤ p.block) (u : Value) : Reads (w.setCell p u) B size A n xs :=
 h.keep fun q hq => World.cell?_setCell_other w p q u (fun e => by subst e; omega)
theorem Reads.grown (h : Reads w B size A n xs) {row : Option Nat} (hg : w.grownBy w' row) (hB : B ≤ w.heap.size) (hr : ∀ g, row = some g → B ≤ g) : Reads w' B size A n xs :=
 h.keep fun p hp => World.cell?_of_block (hg.block p.block (by omega) (fun e => by have := hr _ e.symm; omega))
theorem Reads.cut (h : Reads w B size A n xs) {k cap : Nat} (hk : k ≤ n) (hc : n ≤ cap) :
  Reads w B size (if cap = k then A else A.map (·.add (k * size))) (n - k) (xs.drop (k * size)) := by
 refine ⟨by rw [List.length_drop, h.1, Nat.sub_mul], fun hn => ?_⟩
 obtain ⟨ad, rfl, hb, hcell⟩ := h.2 (by omega)
 rw [if_neg (by omega)]
 refine ⟨ad.add (k * size), rfl, by rw [block_of_add]; exact hb, fun j u hu => ?_⟩
 rw [add_of_add]
 exact hcell _ u (by rw [← hu, List.getElem?_drop])
theorem Reads.of_own {base : Nat} {e : TypeId} {c : Nat} (h : w.ownsRow base e size (.slice A n c) n xs) : Reads w w.heap.size size A n xs := by
 refine ⟨h.1, fun hn => ?_⟩
 obtain ⟨g, cap, hv, _, hlt⟩ := h.form hn
 have hA : A = some ⟨g, 0, none⟩ := by injection hv
 subst hA
 exact ⟨_, rfl, hlt, h.cells (g := g) rfl⟩
end
def Blk (w : World) (g : Nat) (t : TypeId) (cs : Array Value) : Prop := w.heap[g]? = some (.cells cs t (0, 0))
section
variable {w w' : World} {g : Nat} {t : TypeId} {cs : Array Value}
theorem Blk.lt (h : Blk w g t cs) : g < w.heap.size := by
 rcases Nat.lt_or_ge g w.heap.size with hlt | hge
 ·exact hlt
 ·unfold Blk at h; rw [Array.getElem?_eq_none hge] at h; cases h
theorem Blk.cell (h : Blk w g t cs) (i : Nat) : w.cell? ⟨g, i, none⟩ = cs[i]? := cell_of_row w g i cs t (0, 0) h
theorem Blk.frozen (h : Blk w g t cs) (i : Nat) : w.frozen? ⟨g, i, none⟩ = false := by
 unfold Blk at h
 simp [World.frozen?, h]
theorem Blk.new (w : World) (t : TypeId) (cs : Array Value) : Blk (w.alloc (.cells cs t)) w.heap.size t cs := heap_alloc_new w _
theorem Blk.drew (h : Blk w g t cs) : Blk w.drew g t cs := h
theorem Blk.drewN (h : Blk w g t cs) (n : Nat) : Blk (w.drewN n) g t cs := h
theorem Blk.alloc (h : Blk w g t cs) (o : Obj) : Blk (w.alloc o) g t cs := (Below.heap_alloc w o g h.lt).trans h
theorem Blk.set_ (h : Blk w g t cs) (i : Nat) (u : Value) : Blk (w.setCell ⟨g, i, none⟩ u) g t (cs.setIfInBounds i u) := by
 unfold Blk at h ⊢
 simp [World.setCell, Array.getElem?_modify, h]
theorem Blk.far (h : Blk w g t cs) {p : Addr} (hp : g ≠ p.block) (u : Value) : Blk (w.setCell p u) g t cs := (Below.heap_setCell w p u g hp).trans h
theorem Blk.below {B : Nat} (h : Blk w g t cs) (hb : Below B w w') (hg : g < B) : Blk w' g t cs := (hb.block g hg).trans h
theorem Blk.grown {row : Option Nat} (h : Blk w g t cs) (hb : w.grownBy w' row) (hg : some g ≠ row) : Blk w' g t cs := (hb.block g h.lt hg).trans h
theorem Blk.ne_ {g' : Nat} {t' : TypeId} {cs' : Array Value} (h : Blk w g t cs) (h' : Blk w g' t' cs') (hne : t ≠ t') : g ≠ g' := by
 rintro rfl
 unfold Blk at h h'
 rw [h] at h'
 injection h' with h'
 injection h' with _ ht
 exact hne ht
theorem own_blk_ne {base : Nat} {e : TypeId} {size n : Nat} {v : Value} {xs : List Value} (h : w.ownsRow base e size v n xs) (hg : Blk w g t cs) (hne : e ≠ t) : v.ownBlock ≠ some g := by
 rcases h.2 with ⟨rfl, _⟩ | ⟨g', cap, cur, rfl, _, hh, _⟩
 ·simp [Value.ownBlock]
 ·intro he
  have : g' = g := by simpa [Value.ownBlock] using he
  subst this
  exact Blk.ne_ (t := e) hh hg hne rfl
end
theorem Blk.cell_ {w : World} {g : Nat} {t : TypeId} {cs : Array Value} (h : Blk w g t cs) (i : Nat) (v : Value) (hv : cs[i]? = some v) : w.cell? ⟨g, i, none⟩ = some v := (h.cell i).trans hv
theorem Blk.keep {w w' : World} {g : Nat} {t : TypeId} {cs : Array Value} (h : Blk w g t cs) (hb : Below w.heap.size w w') : Blk w' g t cs := h.below hb h.lt
section
variable {P : Program} (w : World)
theorem run_append_of_nil (base : Nat) (t ty e : TypeId) (i : TypeInfo) (size : Nat) (ht : P.underlying t = some (.slice e)) (hi : P.info? e = some i)
  (v : Value) (n : Nat) (xs : List Value) (hown : w.ownsRow base e size v n xs) (c : Nat) : (Builtin.append_ #[t, t] ty #[v, .slice none 0 c]).run P w = .ok v w := by
 rcases hown.2 with ⟨rfl, rfl⟩ | ⟨g, cap, cur, rfl, _, _, hnc, _⟩
 ·simp [Builtin.append_, run_underlying ht, sizeOf, typeInfo, hi, Builtin.lenOf, Builtin.firstCells]
 ·simp [Builtin.append_, run_underlying ht, sizeOf, typeInfo, hi, Builtin.lenOf, Builtin.firstCells, hnc, storeCells]
theorem run_append_any (base : Nat) (t ty e : TypeId) (i : TypeInfo) (z : Value) (size bytes : Nat) (ht : P.underlying t = some (.slice e)) (hi : P.info? e = some i) (hz : i.zero = some z)
  (hsize : i.size = size) (hby : i.bytes = bytes) (hzs : z.cells.size = size) (hsz : 0 < size)
  (v : Value) (n : Nat) (xs : List Value) (hown : w.ownsRow base e size v n xs)
  (B : Nat) (A : Option Addr) (m c : Nat) (news : List Value) (hr : Reads w B size A m news) (h1 : ∀ u ∈ news, u.oneCell' = true)
  (h63 : n + m ≤ maxLen) (hbytes : (n + m) * bytes ≤ 140737488355328) (hbase : base ≤ w.heap.size) :
  ∃ v' w', (Builtin.append_ #[t, t] ty #[v, .slice A m c]).run P w = .ok v' w' ∧ w'.ownsRow base e size v' (n + m) (xs ++ news) ∧ w.grownBy w' v.ownBlock ∧
   (v'.ownBlock = v.ownBlock ∨ v'.ownBlock = some w.heap.size) := by
 rcases A with _ | ad
 ·have hm : m = 0 := by
   rcases Nat.eq_zero_or_pos m with h0 | h0
   ·exact h0
   ·obtain ⟨ad, h, _⟩ := hr.2 h0
    cases h
  subst hm
  have hn : news = [] := List.eq_nil_of_length_eq_zero (by simpa using hr.1)
  subst hn
  exact ⟨v, w, run_append_of_nil w base t ty e i size ht hi v n xs hown c, by simpa using hown, World.grownBy.refl w _, .inl rfl⟩
 ·have hcells : ∀ j u, news[j]? = some u → w.cell? (ad.add j) = some u := by
   intro j u hu
   rcases Nat.eq_zero_or_pos m with h0 | h0
   ·subst h0
    have hn : news = [] := List.eq_nil_of_length_eq_zero (by simpa using hr.1)
    subst hn
    simp at hu
   ·obtain ⟨ad', h, _, hc⟩ := hr.2 h0
    injection h with h
    subst h
    exact hc j u hu
  obtain ⟨v', w', hrun, h2, h3, _, h5⟩ := run_append_own_at (P := P) w base t ty e i z size bytes ht hi hz hsize hby hzs hsz v n xs hown ad m c news hr.1 hcells h1 h63 hbytes hbase
  exact ⟨v', w', hrun, h2, h3, h5⟩
theorem wp_append_any {o : Oper} {a : Act} {K : Act → World → Prop} {Q : Exit → Act → World → Prop} (s x : Operand) (t : TypeId)
  (ho : o.op = .call { callee := .builtin .append, args := #[s, x], argTypes := #[t, t] })
  (base : Nat) (e : TypeId) (i : TypeInfo) (z : Value) (size bytes : Nat) (ht : P.underlying t = some (.slice e)) (hi : P.info? e = some i) (hz : i.zero = some z)
  (hsize : i.size = size) (hby : i.bytes = bytes) (hzs : z.cells.size = size) (hsz : 0 < size)
  (v : Value) (n : Nat) (xs : List Value) (hs : a.eval s = v) (hown : w.ownsRow base e size v n xs)
  (B : Nat) (A : Option Addr) (m c : Nat) (news : List Value) (hx : a.eval x = .slice A m c) (hr : Reads w B size A m news) (h1 : ∀ u ∈ news, u.oneCell' = true)
  (h63 : n + m ≤ maxLen) (hbytes : (n + m) * bytes ≤ 140737488355328) (hbase : base ≤ w.heap.size)
  (h : ∀ v' w', w'.ownsRow base e size v' (n + m) (xs ++ news) → w.grownBy w' v.ownBlock → (v'.ownBlock = v.ownBlock ∨ v'.ownBlock = some w.heap.size) → K (a.put o.dst v') w') : o.wp P a w K Q := by
 obtain ⟨v', w', hrun, h2, h3, h4⟩ := run_append_any (P := P) w base t o.type e i z size bytes ht hi hz hsize hby hzs hsz v n xs hown B A m c news hr h1 h63 hbytes hbase
 unfold Oper.wp execOp
 simp only [ho, resolve, invoke, builtin, Sem.run_bind, Sem.run_pure, Result.andThen_ok, List.map_toArray, List.map_cons, List.map_nil, hs, hx, hrun]
 exact h v' w' h2 h3 h4
theorem wpList_append_any {ops : Array Oper} {rest : List Oper} {o : Oper} {a : Act} {Q : Exit → Act → World → Prop} (hgd : o.guard = none) (s x : Operand) (t : TypeId)
  (ho : o.op = .call { callee := .builtin .append, args := #[s, x], argTypes := #[t, t] })
  (base : Nat) (e : TypeId) (i : TypeInfo) (z : Value) (size bytes : Nat) (ht : P.underlying t = some (.slice e)) (hi : P.info? e = some i) (hz : i.zero = some z)
  (hsize : i.size = size) (hby : i.bytes = bytes) (hzs : z.cells.size = size) (hsz : 0 < size)
  (v : Value) (n : Nat) (xs : List Value) (hs : a.eval s = v) (hown : w.ownsRow base e size v n xs)
  (B : Nat) (A : Option Addr) (m c : Nat) (news : List Value) (hx : a.eval x = .slice A m c) (hr : Reads w B size A m news) (h1 : ∀ u ∈ news, u.oneCell' = true)
  (h63 : n + m ≤ maxLen) (hbytes : (n + m) * bytes ≤ 140737488355328) (hbase : base ≤ w.heap.size)
  (h : ∀ v' w', w'.ownsRow base e size v' (n + m) (xs ++ news) → w.grownBy w' v.ownBlock → (v'.ownBlock = v.ownBlock ∨ v'.ownBlock = some w.heap.size) → wpList P ops Q rest (a.put o.dst v') w') : wpList P ops Q (o :: rest) a w :=
 wpList_plain hgd fun _ hK => wp_append_any w s x t ho base e i z size bytes ht hi hz hsize hby hzs hsz v n xs hs hown B A m c news hx hr h1 h63 hbytes hbase fun v' w' h2 h3 h4 => hK _ _ (h v' w' h2 h3 h4)
end
end Go.Proofs.YtjbnfigpflambacGreatDoor
/- Slices of pairs in memory: what reads as a list of pairs; copies of such slices; the laws' comparison. -/
namespace Go.Proofs.YtjbnfigpflambacGreatDoor
open Go.ChangeShapes Go.WideShapes Go.ChangeAt Go.RowKit
def cellsP (l : List Pr) : List Value := l.flatMap fun p => [.string p.k, .string p.v]
theorem cellsP_length (l : List Pr) : (cellsP l).length = l.length * 2 := by
 induction l with
 | nil => rfl
 | cons p l ih => simp only [cellsP, List.flatMap_cons, List.length_append, List.length_cons, List.length_nil] at ih ⊢; omega
theorem cellsP_at (l : List Pr) (i : Nat) (h : i < l.length) : (cellsP l)[i * 2]? = some (.string l[i].k) ∧ (cellsP l)[i * 2 + 1]? = some (.string l[i].v) := by
 induction l generalizing i with
 | nil => simp at h
 | cons p l ih =>
  have e : cellsP (p :: l) = .string p.k :: .string p.v :: cellsP l := rfl
  rw [e]
  rcases i with _ | i
  ·exact ⟨rfl, rfl⟩
  ·have := ih i (by simpa using h)
   have e1 : (i + 1) * 2 = i * 2 + 2 := by omega
   rw [e1]
   simpa using this
theorem cellsP_one (l : List Pr) : ∀ u ∈ cellsP l, u.oneCell' = true := by
 intro u hu
 unfold cellsP at hu
 obtain ⟨p, _, hp⟩ := List.mem_flatMap.1 hu
 simp only [List.mem_cons, List.not_mem_nil, or_false] at hp
 rcases hp with rfl | rfl <;> rfl
def Fits (l : List Pr) : Prop := l.length ≤ 4398046510976 ∧ ∀ p ∈ l, p.k.size ≤ maxLen ∧ p.v.size ≤ maxLen
def PL (w : World) (B : Nat) (v : Value) (l : List Pr) : Prop := ∃ A c, v = .slice A l.length c ∧ l.length ≤ c ∧ Reads w B 2 A l.length (cellsP l) ∧ Fits l
theorem PL.below {w w' : World} {B : Nat} {v : Value} {l : List Pr} (h : PL w B v l) (hb : Below B w w') : PL w' B v l := by
 obtain ⟨A, c, h1, h2, h3, h4⟩ := h
 exact ⟨A, c, h1, h2, h3.below hb, h4⟩
theorem PL.more {w : World} {B B' : Nat} {v : Value} {l : List Pr} (h : PL w B v l) (hB : B ≤ B') : PL w B' v l := by
 obtain ⟨A, c, h1, h2, h3, h4⟩ := h
 exact ⟨A, c, h1, h2, h3.more hB, h4⟩
theorem PL.keep {w w' : World} {v : Value} {l : List Pr} (h : PL w w.heap.size v l) (hb : Below w.heap.size w w') : PL w' w'.heap.size v l := (h.below hb).more hb.size
theorem PL.alloc {w : World} {B : Nat} {v : Value} {l : List Pr} (h : PL w B v l) (hB : B ≤ w.heap.size) (o : Obj) : PL (w.alloc o) B v l := h.below ((Below.refl _ _).alloc hB o)
theorem PL.drewN {w : World} {B : Nat} {v : Value} {l : List Pr} (h : PL w B v l) (n : Nat) : PL (w.drewN n) B v l := h.below (below_drewN (Below.refl _ _) n)
theorem PL.fits {w : World} {B : Nat} {v : Value} {l : List Pr} (h : PL w B v l) : Fits l := by
 obtain ⟨_, _, _, _, _, h⟩ := h
 exact h
theorem PL.form {w : World} {B : Nat} {v : Value} {l : List Pr} (h : PL w B v l) : ∃ A c, v = .slice A l.length c := by
 obtain ⟨A, c, h, _⟩ := h
 exact ⟨A, c, h⟩
theorem PL.nil_ (w : World) (B : Nat) : PL w B (.slice none 0 0) [] := ⟨none, 0, rfl, Nat.le_refl _, .none_, by simp, by simp⟩
theorem pair_info : (Tryz.prog.info? 60).map (fun i => (i.zero, i.size, i.bytes)) = some (some (.agg #[.string ⟨#[]⟩, .string ⟨#[]⟩]), 2, 32) := by kernel_rfl
theorem PL.of_own {w : World} {base : Nat} {v : Value} {l : List Pr} (h : w.ownsRow base 60 2 v l.length (cellsP l)) (hf : Fits l) : PL w w.heap.size v l := by
 rcases h.2 with ⟨rfl, h0⟩ | ⟨g, cap, cur, hv, _, _, hn, _⟩
 ·have : l = [] := List.eq_nil_of_length_eq_zero h0
  subst this
  exact .nil_ _ _
 ·subst hv
  exact ⟨_, cap, rfl, hn, Reads.of_own h, hf⟩
theorem own_empty (w : World) (t : TypeId) (B : Nat) (hB : B ≤ w.heap.size) : (w.alloc (.cells #[] t)).ownsRow B t 2 (.slice (some ⟨w.heap.size, 0, none⟩) 0 0) 0 [] :=
 World.ownsRow_made w #[] 0 hB (Nat.zero_le _) rfl
set_option maxHeartbeats 1000000 in
theorem clone_any (w : World) (v : Value) (l : List Pr) (h : PL w w.heap.size v l) :
  Calls Tryz.prog 46 #[v] w fun e w' => ∃ v', e = .returned v' ∧ w'.ownsRow w.heap.size 60 2 v' l.length (cellsP l) ∧ Below w.heap.size w w' := by
 obtain ⟨i0, hi0, hz0, hz1, hz2⟩ := info_parts pair_info
 have hnil := fun (w : World) (a : Option Addr) (n c n' c' : Nat) => Lib.run_eql_slice_nil (P := Tryz.prog) w 27 60 a n c n' c' Tryz.underlying27
 obtain ⟨A, c, rfl, hc, hr, hf⟩ := h
 rcases A with _ | ad
 ·have h0 : l.length = 0 := by
   rcases Nat.eq_zero_or_pos l.length with h | h
   ·exact h
   ·obtain ⟨ad, e, _⟩ := hr.2 h
    cases e
  have : l = [] := List.eq_nil_of_length_eq_zero h0
  subst this
  clear hr hf
  go_enter Tryz.func46, Tryz.ntmps46
  go_wp2_with fail
  go_ret
  exact ⟨_, rfl, World.ownsRow_nil _ _ _ _, Below.refl _ _⟩
 ·have HR := Lib.hid hr
  have HF := Lib.hid hf
  clear hr hf
  go_enter Tryz.func46, Tryz.ntmps46
  go_wp2_with (at_builtin; refine wpList_append_any _ rfl (.tmp 5) (.tmp 6) 27 rfl w.heap.size 60 i0 _ 2 32 Tryz.underlying27 hi0 hz0 hz1 hz2 rfl (by decide) (.slice (some ⟨w.heap.size, 0, none⟩) 0 0) 0 [] rfl (own_empty w _ _ (Nat.le_refl _)) w.heap.size (some ad) l.length c (cellsP l) rfl (HR.out.alloc (Nat.le_refl _) _) (cellsP_one l) (by have := HF.out.1; unfold maxLen; omega) (by have := HF.out.1; omega) (by simp) ?_; intro v' w1 hown hgr hat)
  have hb : Below w.heap.size w w1 := (boxed w _).grown hgr (by simp) (fun k hk => Nat.le_of_eq (by simpa [Value.ownBlock] using hk))
  have HO := Lib.hid hown
  have HB := Lib.hid hb
  clear hown hgr hat hb
  go_wp2_with fail
  go_ret
  exact ⟨_, rfl, by simpa using HO.out, HB.out⟩
theorem pair_at {w : World} {B : Nat} {A : Option Addr} {l : List Pr} (h : Reads w B 2 A l.length (cellsP l)) {k : Nat} (hk : k < l.length) :
  ∃ ad, A = some ad ∧ ad.block < B ∧ w.cell? (ad.add (k * 2)) = some (.string l[k].k) ∧ w.cell? ⟨(ad.add (k * 2)).block, (ad.add (k * 2)).off + 1, none⟩ = some (.string l[k].v) := by
 obtain ⟨ad, hA, hB, hcell⟩ := h.2 (by omega)
 obtain ⟨p1, p2⟩ := cellsP_at l k hk
 exact ⟨ad, hA, hB, hcell _ _ p1, by have h := hcell _ _ p2; rw [← add_of_add] at h; exact h⟩
/-! sessions and worlds -/
structure SeAt (w : World) (B : Nat) (a : Addr) (s : Se) : Prop where
 st : w.cell? a = some (.int .i64 s.st)
 set : ∃ v, w.cell? ⟨a.block, a.off + 1, none⟩ = some v ∧ PL w B v s.set
 pre : ∃ v, w.cell? ⟨a.block, a.off + 2, none⟩ = some v ∧ PL w B v s.pre
 sav : ∃ v, w.cell? ⟨a.block, a.off + 3, none⟩ = some v ∧ PL w B v s.sav
 wri : ∃ v, w.cell? ⟨a.block, a.off + 4, none⟩ = some v ∧ PL w B v s.wri
 i64 : -9223372036854775808 ≤ s.st ∧ s.st ≤ 9223372036854775807
def SL (w : World) (B : Nat) (v : Value) (ss : List Se) : Prop :=
 ∃ A c, v = .slice A ss.length c ∧ ss.length ≤ c ∧ ss.length ≤ 1353245080300 ∧ (0 < ss.length → ∃ ad, A = some ad ∧ ad.block < B ∧ ∀ i (h : i < ss.length), SeAt w B (ad.add (i * 5)) ss[i])
structure WL (w : World) (B : Nat) (r s : Value) (W : Wo) : Prop where
 rows : PL w B r W.rows
 ses : SL w B s W.ses
section
variable {w w' : World} {B B' : Nat}
theorem SeAt.below {a : Addr} {s : Se} (h : SeAt w B a s) (ha : a.block < B) (hb : Below B w w') : SeAt w' B a s := by
 obtain ⟨h0, ⟨v1, c1, p1⟩, ⟨v2, c2, p2⟩, ⟨v3, c3, p3⟩, ⟨v4, c4, p4⟩, h5⟩ := h
 exact ⟨(hb.cell ha).trans h0, ⟨v1, (hb.cell (by exact ha)).trans c1, p1.below hb⟩, ⟨v2, (hb.cell (by exact ha)).trans c2, p2.below hb⟩, ⟨v3, (hb.cell (by exact ha)).trans c3, p3.below hb⟩, ⟨v4, (hb.cell (by exact ha)).trans c4, p4.below hb⟩, h5⟩
theorem SeAt.more {a : Addr} {s : Se} (h : SeAt w B a s) (hB : B ≤ B') : SeAt w B' a s := by
 obtain ⟨h0, ⟨v1, c1, p1⟩, ⟨v2, c2, p2⟩, ⟨v3, c3, p3⟩, ⟨v4, c4, p4⟩, h5⟩ := h
 exact ⟨h0, ⟨v1, c1, p1.more hB⟩, ⟨v2, c2, p2.more hB⟩, ⟨v3, c3, p3.more hB⟩, ⟨v4, c4, p4.more hB⟩, h5⟩
theorem SL.below {v : Value} {ss : List Se} (h : SL w B v ss) (hb : Below B w w') : SL w' B v ss := by
 obtain ⟨A, c, h1, h2, h3, h4⟩ := h
 refine ⟨A, c, h1, h2, h3, fun hn => ?_⟩
 obtain ⟨ad, e, hB, hs⟩ := h4 hn
 exact ⟨ad, e, hB, fun i hi => (hs i hi).below (by rw [block_of_add]; exact hB) hb⟩
theorem SL.more {v : Value} {ss : List Se} (h : SL w B v ss) (hB : B ≤ B') : SL w B' v ss := by
 obtain ⟨A, c, h1, h2, h3, h4⟩ := h
 refine ⟨A, c, h1, h2, h3, fun hn => ?_⟩
 obtain ⟨ad, e, hb, hs⟩ := h4 hn
 exact ⟨ad, e, Nat.lt_of_lt_of_le hb hB, fun i hi => (hs i hi).more hB⟩
theorem WL.below {r s : Value} {W : Wo} (h : WL w B r s W) (hb : Below B w w') : WL w' B r s W := ⟨h.rows.below hb, h.ses.below hb⟩
theorem WL.more {r s : Value} {W : Wo} (h : WL w B r s W) (hB : B ≤ B') : WL w B' r s W := ⟨h.rows.more hB, h.ses.more hB⟩
theorem WL.keep {r s : Value} {W : Wo} (h : WL w w.heap.size r s W) (hb : Below w.heap.size w w') : WL w' w'.heap.size r s W := (h.below hb).more hb.size
end
end Go.Proofs.YtjbnfigpflambacGreatDoor
/- A region that draws its order, with loads ahead of calls and stores behind both: the loads may be taken first although a store turns what they read, where every such store waits for them. -/
namespace Go.Proofs.YtjbnfigpflambacGreatDoor
open Go.RowKit
section
variable {P : Program} {ops : Array Oper} {Q : Exit → Act → World → Prop} {md : Region.Mode} {S : World → Prop} {late : List Nat}
def anyL (P : Program) (md : Region.Mode) (ops : Array Oper) (Q : Exit → Act → World → Prop) (S : World → Prop) (late : List Nat) : Nat → Array Bool → Act → World → Prop
 | 0, done, a, w => Region.ready md ops done = [] ∧ Q .normal a w
 | n + 1, done, a, w => (Region.ready md ops done = [] → Q .normal a w) ∧
   ∀ j, j ∈ Region.ready md ops done → wpOp P ops Q j (fun b u => (j ∉ late → S u) ∧ anyL P md ops Q S late n (done.setIfInBounds j true) b u) a w
theorem anyL_any (n : Nat) : ∀ (done : Array Bool) (a : Act) (w : World), anyL P md ops Q S late n done a w → wpAny P md ops Q n done a w := by
 induction n with
 | zero => exact fun _ _ _ h => h
 | succ n ih => exact fun done a w h => ⟨h.1, fun j hj => wpOp_mono (fun b u hb => ih _ b u hb.2) (h.2 j hj)⟩
def waits (md : Region.Mode) (ops : Array Oper) (late : List Nat) (i : Nat) : Bool :=
 late.all fun j => match ops[j]? with
  | some o => o.after.any fun e => Region.binds md e && (e.on == i)
  | none => false
theorem waits_edge {i : Nat} (h : waits md ops late i = true) {j : Nat} (hj : j ∈ late) {o : Oper} (ho : ops[j]? = some o) : ∃ e ∈ o.after, Region.binds md e = true ∧ e.on = i := by
 unfold waits at h
 have := List.all_eq_true.1 h j hj
 rw [ho] at this
 simp only [Array.any_eq_true, Bool.and_eq_true, beq_iff_eq] at this
 obtain ⟨k, hk, h1, h2⟩ := this
 exact ⟨_, Array.getElem_mem hk, h1, h2⟩
theorem open_of_ready {i : Nat} {done : Array Bool} (h : i ∈ Region.ready md ops done) : done.getD i false = false := by
 have h0 := (mem_ready.1 h).1
 rcases Nat.lt_or_ge i done.size with hlt | hge
 ·simp [hlt] at h0 ⊢
  exact h0
 ·simp [Array.getElem?_eq_none hge]
theorem not_late {i j : Nat} {done : Array Bool} (hw : waits md ops late i = true) (hi : i ∈ Region.ready md ops done) (hj : j ∈ Region.ready md ops done) : j ∉ late := by
 intro hl
 obtain ⟨_, o, ho, hall⟩ := mem_ready.1 hj
 obtain ⟨e, he, hb, hei⟩ := waits_edge hw hl ho
 have h1 := hall e he hb
 rw [hei, open_of_ready hi] at h1
 cases h1
theorem anyL_first {i : Nat} {o : Oper} {v : Value} (ho : ops[i]? = some o) (hs : ∀ (j : Nat) (q : Oper) cs b, ops[j]? = some q → q.op ≠ .select cs b)
  (hQ : ∀ c a w, Q (.panic c) (a.put o.dst v) w → Q (.panic c) a w) (hw : waits md ops late i = true) (n : Nat) :
  ∀ (done : Array Bool) (a : Act) (w : World),
   (∀ j q, ops[j]? = some q → j ≠ i → done.getD j true = false → (∀ e ∈ q.after, Region.binds md e = true → e.on ≠ i) → o.apart ops q = true) →
   i ∈ Region.ready md ops done → YieldsIf P ops S o v a → S w →
   anyL P md ops Q S late n (done.setIfInBounds i true) (a.put o.dst v) w → anyL P md ops Q S late (n + 1) done a w := by
 induction n with
 | zero =>
  intro done a w _ hi hy hS h
  refine ⟨fun e => (by rw [e] at hi; cases hi), fun j hj => ?_⟩
  rcases Nat.decEq j i with hne | rfl
  ·have hm := ready_mono hj hne
   rw [h.1] at hm
   cases hm
  ·exact hy.wpOp ho hS ⟨fun _ => hS, h⟩
 | succ n ih =>
  intro done a w hf hi hy hS h
  refine ⟨fun e => (by rw [e] at hi; cases hi), fun j hj => ?_⟩
  rcases Nat.decEq j i with hne | rfl
  ·obtain ⟨hun, q, hq, hall⟩ := mem_ready.1 hj
   have hno : ∀ e ∈ q.after, Region.binds md e = true → e.on ≠ i := by
    intro e he hb hei
    have h1 := hall e he hb
    rw [hei, open_of_ready hi] at h1
    cases h1
   have hstep := wpOp_putIf (S := S) hq (hf j q hq hne hun hno) (fun cs b => hs i o cs b ho) (fun cs b => hs j q cs b hq) hQ hy (h.2 j (ready_mono hj hne))
   refine wpOp_mono (fun b u ⟨hy', hSu, hrest⟩ => ⟨hSu, ?_⟩) hstep
   refine ih (done.setIfInBounds j true) b u (fun k r hr hki hk => ?_) (ready_mono hi (Ne.symm hne)) hy' (hSu (not_late hw hi hj)) ?_
   ·refine hf k r hr hki ?_
    rcases Nat.decEq j k with hjk | rfl
    ·rwa [getD_set_ne true hjk] at hk
    ·exact hun
   ·rw [Array.setIfInBounds_comm _ _ hne]
    exact hrest
  ·exact hy.wpOp ho hS ⟨fun _ => hS, h⟩
theorem anyL_free {i : Nat} {o : Oper} {v : Value} (ho : ops[i]? = some o) (hs : ∀ (j : Nat) (q : Oper) cs b, ops[j]? = some q → q.op ≠ .select cs b)
  (hQ : ∀ c a w, Q (.panic c) (a.put o.dst v) w → Q (.panic c) a w) (hl : i ∈ late) (n : Nat) :
  ∀ (done : Array Bool) (a : Act) (w : World),
   (∀ j q, ops[j]? = some q → j ≠ i → done.getD j true = false → (∀ e ∈ q.after, Region.binds md e = true → e.on ≠ i) → o.apart ops q = true) →
   i ∈ Region.ready md ops done → YieldsIf P ops (fun _ => True) o v a →
   anyL P md ops Q S late n (done.setIfInBounds i true) (a.put o.dst v) w → anyL P md ops Q S late (n + 1) done a w := by
 induction n with
 | zero =>
  intro done a w _ hi hy h
  refine ⟨fun e => (by rw [e] at hi; cases hi), fun j hj => ?_⟩
  rcases Nat.decEq j i with hne | rfl
  ·have hm := ready_mono hj hne
   rw [h.1] at hm
   cases hm
  ·exact hy.wpOp ho trivial ⟨fun hn => absurd hl hn, h⟩
 | succ n ih =>
  intro done a w hf hi hy h
  refine ⟨fun e => (by rw [e] at hi; cases hi), fun j hj => ?_⟩
  rcases Nat.decEq j i with hne | rfl
  ·obtain ⟨hun, q, hq, hall⟩ := mem_ready.1 hj
   have hno : ∀ e ∈ q.after, Region.binds md e = true → e.on ≠ i := by
    intro e he hb hei
    have h1 := hall e he hb
    rw [hei, open_of_ready hi] at h1
    cases h1
   have hstep := wpOp_putIf (S := fun _ => True) hq (hf j q hq hne hun hno) (fun cs b => hs i o cs b ho) (fun cs b => hs j q cs b hq) hQ hy (h.2 j (ready_mono hj hne))
   refine wpOp_mono (fun b u ⟨hy', hSu, hrest⟩ => ⟨hSu, ?_⟩) hstep
   refine ih (done.setIfInBounds j true) b u (fun k r hr hki hk => ?_) (ready_mono hi (Ne.symm hne)) hy' ?_
   ·refine hf k r hr hki ?_
    rcases Nat.decEq j k with hjk | rfl
    ·rwa [getD_set_ne true hjk] at hk
    ·exact hun
   ·rw [Array.setIfInBounds_comm _ _ hne]
    exact hrest
  ·exact hy.wpOp ho trivial ⟨fun hn => absurd hl hn, h⟩
def Takes (P : Program) (ops : Array Oper) (S : World → Prop) : List (Nat × Value) → Act → Prop
 | [], _ => True
 | (i, v) :: l, a => (match ops[i]? with | some o => YieldsIf P ops S o v a ∧ Takes P ops S l (a.put o.dst v) | none => False)
def putAll (ops : Array Oper) : List (Nat × Value) → Act → Act
 | [], a => a
 | (i, v) :: l, a => putAll ops l (match ops[i]? with | some o => a.put o.dst v | none => a)
def doneAll : List (Nat × Value) → Array Bool → Array Bool
 | [], d => d
 | (i, _) :: l, d => doneAll l (d.setIfInBounds i true)
def takesB (md : Region.Mode) (ops : Array Oper) (late : List Nat) : List Nat → Array Bool → Bool
 | [], _ => true
 | i :: l, d => Region.free md ops d i && (Region.ready md ops d).contains i && waits md ops late i && takesB md ops late l (d.setIfInBounds i true)
theorem anyL_takes (hs : Region.noSelect ops = true) (hQ : ∀ c a d v w, Q (.panic c) (Act.put a d v) w → Q (.panic c) a w) : ∀ (l : List (Nat × Value)) (n : Nat) (done : Array Bool) (a : Act) (w : World),
  takesB md ops late (l.map (·.1)) done = true → Takes P ops S l a → S w → anyL P md ops Q S late n (doneAll l done) (putAll ops l a) w → anyL P md ops Q S late (n + l.length) done a w
 | [], _, _, _, _, _, _, _, h => h
 | (i, v) :: l, n, done, a, w, hb, ht, hS, h => by
  unfold Takes at ht
  simp only [List.map_cons, takesB, Bool.and_eq_true] at hb
  obtain ⟨⟨⟨h1, h2⟩, h3⟩, h4⟩ := hb
  cases ho : ops[i]? with
  | none => rw [ho] at ht; exact ht.elim
  | some o =>
   rw [ho] at ht
   obtain ⟨hy, ht⟩ := ht
   unfold putAll at h
   rw [ho] at h
   have := anyL_takes hs hQ l n (done.setIfInBounds i true) (a.put o.dst v) w h4 ht hS h
   exact anyL_first ho (Region.noSelect_spec hs) (fun c a w => hQ c a _ _ w) h3 (n + l.length) done a w (Region.free_spec ho h1) (by simpa using h2) hy hS this
theorem anyL_take (hs : Region.noSelect ops = true) (hQ : ∀ c a d v w, Q (.panic c) (Act.put a d v) w → Q (.panic c) a w) (l : List (Nat × Value)) (n : Nat) {N : Nat} {done : Array Bool} {a : Act} {w : World} (hN : N = n + l.length)
  (hb : takesB md ops late (l.map (·.1)) done = true) (ht : Takes P ops S l a) (hS : S w) (h : anyL P md ops Q S late n (doneAll l done) (putAll ops l a) w) : anyL P md ops Q S late N done a w := by
 subst hN
 exact anyL_takes hs hQ l n done a w hb ht hS h
def freeB (md : Region.Mode) (ops : Array Oper) (late : List Nat) : List Nat → Array Bool → Bool
 | [], _ => true
 | i :: l, d => Region.free md ops d i && (Region.ready md ops d).contains i && late.contains i && freeB md ops late l (d.setIfInBounds i true)
theorem anyL_frees (hs : Region.noSelect ops = true) (hQ : ∀ c a d v w, Q (.panic c) (Act.put a d v) w → Q (.panic c) a w) : ∀ (l : List (Nat × Value)) (n : Nat) (done : Array Bool) (a : Act) (w : World),
  freeB md ops late (l.map (·.1)) done = true → Takes P ops (fun _ => True) l a → anyL P md ops Q S late n (doneAll l done) (putAll ops l a) w → anyL P md ops Q S late (n + l.length) done a w
 | [], _, _, _, _, _, _, h => h
 | (i, v) :: l, n, done, a, w, hb, ht, h => by
  unfold Takes at ht
  simp only [List.map_cons, freeB, Bool.and_eq_true] at hb
  obtain ⟨⟨⟨h1, h2⟩, h3⟩, h4⟩ := hb
  cases ho : ops[i]? with
  | none => rw [ho] at ht; exact ht.elim
  | some o =>
   rw [ho] at ht
   obtain ⟨hy, ht⟩ := ht
   unfold putAll at h
   rw [ho] at h
   have := anyL_frees hs hQ l n (done.setIfInBounds i true) (a.put o.dst v) w h4 ht h
   exact anyL_free ho (Region.noSelect_spec hs) (fun c a w => hQ c a _ _ w) (by simpa using h3) (n + l.length) done a w (Region.free_spec ho h1) (by simpa using h2) hy this
theorem anyL_any_ (hs : Region.noSelect ops = true) (hQ : ∀ c a d v w, Q (.panic c) (Act.put a d v) w → Q (.panic c) a w) (l : List (Nat × Value)) (n : Nat) {N : Nat} {done : Array Bool} {a : Act} {w : World} (hN : N = n + l.length)
  (hb : freeB md ops late (l.map (·.1)) done = true) (ht : Takes P ops (fun _ => True) l a) (h : anyL P md ops Q S late n (doneAll l done) (putAll ops l a) w) : anyL P md ops Q S late N done a w := by
 subst hN
 exact anyL_frees hs hQ l n done a w hb ht h
theorem anyL_take1 {i : Nat} {v : Value} {o : Oper} {n : Nat} {done : Array Bool} {a : Act} {w : World} (ho : ops[i]? = some o) (hs : Region.noSelect ops = true) (hb : takesB md ops late [i] done = true)
  (hQ : ∀ c a w, Q (.panic c) (a.put o.dst v) w → Q (.panic c) a w) (hy : YieldsIf P ops S o v a) (hS : S w) (h : anyL P md ops Q S late n (done.setIfInBounds i true) (a.put o.dst v) w) : anyL P md ops Q S late (n + 1) done a w := by
 simp only [takesB, Bool.and_eq_true] at hb
 obtain ⟨⟨⟨h1, h2⟩, h3⟩, _⟩ := hb
 exact anyL_first ho (Region.noSelect_spec hs) hQ h3 n done a w (Region.free_spec ho h1) (by simpa using h2) hy hS h
theorem anyL_one {i : Nat} {o : Oper} {n : Nat} {done : Array Bool} {a : Act} {w : World} (hr : Region.ready md ops done = [i]) (ho : ops[i]? = some o)
  (h : ∀ K : Act → World → Prop, Shut (∀ b u, (i ∉ late → S u) → anyL P md ops Q S late n (done.setIfInBounds i true) b u → K b u) → if Region.wanted o (yielded ops a.tmps) = true then Oper.wp P o a w K Q else K (a.put o.dst undef) w) :
  anyL P md ops Q S late (n + 1) done a w := by
 refine ⟨fun e => (by rw [e] at hr; cases hr), fun j hj => ?_⟩
 rw [hr, List.mem_singleton] at hj
 subst hj
 exact wpOp_step ho fun K hK => h K fun b u h1 h2 => hK b u ⟨h1, h2⟩
theorem anyL_done {done : Array Bool} {a : Act} {w : World} (hr : Region.ready md ops done = []) (h : Q .normal a w) : ∀ n, anyL P md ops Q S late n done a w
 | 0 => ⟨hr, h⟩
 | _ + 1 => ⟨fun _ => h, by rw [hr]; simp⟩
theorem region_late {id : Nat} {a : Act} {w : World} (S : World → Prop) (late : List Nat) (hm : P.follows .mixedOrders = true) (h : anyL P .any ops Q S late ops.size (Array.replicate ops.size false) a w.drew) : (Code.region id ops true).wp P Q a w :=
 wp_region_any hm (anyL_any _ _ _ _ h)
end
end Go.Proofs.YtjbnfigpflambacGreatDoor
