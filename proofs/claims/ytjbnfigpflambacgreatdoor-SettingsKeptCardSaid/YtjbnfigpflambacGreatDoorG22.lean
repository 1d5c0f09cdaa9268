/- Words for memory: a slice of the call's own that may begin anywhere in its block (it was cut at its head), and append onto it. The pool in memory: its own block, what lies in it, and how it reads. -/
import Derived.Test.YtjbnfigpflambacGreatDoorG02
import Derived.Test.YtjbnfigpflambacGreatDoorG05
import Derived.Test.YtjbnfigpflambacGreatDoorG06
import Derived.Lib.AppendStr
/- Words for memory: a slice of the call's own that may begin anywhere in its block (it was cut at its head), and append onto it. -/
namespace Go.Proofs.YtjbnfigpflambacGreatDoor
open Go.RowKit
def OwnO (w : World) (B : Nat) (e : TypeId) (size : Nat) (v : Value) (n : Nat) (xs : List Value) : Prop :=
 xs.length = n * size ∧
 ((v = .slice none 0 0 ∧ n = 0) ∨
  ∃ g off cap cur, v = .slice (some ⟨g, off, none⟩) n cap ∧ B ≤ g ∧ w.heap[g]? = some (.cells cur e (0, 0)) ∧ n ≤ cap ∧ cap ≤ maxLen ∧ off + cap * size ≤ cur.size ∧ (cur.toList.drop off).take (n * size) = xs)
section
variable {w w' : World} {B : Nat} {e : TypeId} {size n : Nat} {v : Value} {xs : List Value}
theorem OwnO.nil (w : World) (B : Nat) (e : TypeId) (size : Nat) : OwnO w B e size (.slice none 0 0) 0 [] := ⟨by simp, .inl ⟨rfl, rfl⟩⟩
theorem OwnO.of_own (h : w.ownsRow B e size v n xs) : OwnO w B e size v n xs := by
 refine ⟨h.1, h.2.imp id ?_⟩
 rintro ⟨g, cap, cur, e1, e2, e3, e4, e5, e6, e7⟩
 exact ⟨g, 0, cap, cur, e1, e2, e3, e4, e5, by omega, by simpa using e7⟩
theorem OwnO.form (h : OwnO w B e size v n xs) : ∃ A c, v = .slice A n c ∧ n ≤ c := by
 rcases h.2 with ⟨rfl, rfl⟩ | ⟨g, off, cap, cur, rfl, _, _, hn, _⟩
 ·exact ⟨_, _, rfl, Nat.le_refl _⟩
 ·exact ⟨_, _, rfl, hn⟩
theorem OwnO.lt (h : OwnO w B e size v n xs) : ∀ k, v.ownBlock = some k → B ≤ k ∧ k < w.heap.size := by
 intro k hk
 rcases h.2 with ⟨rfl, _⟩ | ⟨g, off, cap, cur, rfl, hB, hg, _⟩
 ·simp [Value.ownBlock] at hk
 ·have : g = k := by simpa [Value.ownBlock] using hk
  subst this
  exact ⟨hB, (Array.getElem?_eq_some_iff.1 hg).1⟩
theorem OwnO.row (h : OwnO w B e size v n xs) : ∀ k, v.ownBlock = some k → ∃ cs, Blk w k e cs := by
 intro k hk
 rcases h.2 with ⟨rfl, _⟩ | ⟨g, off, cap, cur, rfl, hB, hg, _⟩
 ·simp [Value.ownBlock] at hk
 ·have : g = k := by simpa [Value.ownBlock] using hk
  subst this
  exact ⟨cur, hg⟩
theorem OwnO.keep (h : OwnO w B e size v n xs) (hk : ∀ k, v.ownBlock = some k → w'.heap[k]? = w.heap[k]?) : OwnO w' B e size v n xs := by
 refine ⟨h.1, h.2.imp id ?_⟩
 rintro ⟨g, off, cap, cur, rfl, e2, e3, r⟩
 exact ⟨g, off, cap, cur, rfl, e2, (hk g (by simp [Value.ownBlock])).trans e3, r⟩
theorem OwnO.below (h : OwnO w B e size v n xs) (hb : Below w.heap.size w w') : OwnO w' B e size v n xs := h.keep fun k hk => hb.block k (h.lt k hk).2
theorem OwnO.reads (h : OwnO w B e size v n xs) : ∃ A c, v = .slice A n c ∧ n ≤ c ∧ Reads w w.heap.size size A n xs := by
 have hl := h.1
 rcases h.2 with ⟨rfl, rfl⟩ | ⟨g, off, cap, cur, rfl, hB, hg, hn, hm, hc, hx⟩
 ·have : xs = [] := List.eq_nil_of_length_eq_zero (by simpa using hl)
  subst this
  exact ⟨_, _, rfl, Nat.le_refl _, Reads.none_⟩
 ·refine ⟨_, _, rfl, hn, hl, fun _ => ⟨_, rfl, (Array.getElem?_eq_some_iff.1 hg).1, fun j u hj => ?_⟩⟩
  have hlt : j < xs.length := by
   rcases Nat.lt_or_ge j xs.length with h | h
   ·exact h
   ·rw [List.getElem?_eq_none h] at hj; cases hj
  rw [Addr.add_lit, cell_of_row w g (off + j) cur e (0, 0) hg, ← hj, ← hx, List.getElem?_take_of_lt (by omega), List.getElem?_drop, Array.getElem?_toList]
theorem OwnO.cut {cap k : Nat} {A : Option Addr} (h : OwnO w B e size (.slice A n cap) n xs) (hk : k ≤ n) : OwnO w B e size (.slice (if cap = k then A else A.map (·.add (k * size))) (n - k) (cap - k)) (n - k) (xs.drop (k * size)) := by
 have hl := h.1
 refine ⟨by rw [List.length_drop, hl, Nat.sub_mul], ?_⟩
 rcases h.2 with ⟨e0, h0⟩ | ⟨g, off, cap', cur, e0, hB, hg, hn, hm, hc, hx⟩
 ·left
  injection e0 with e1 e2 e3
  have : k = 0 := by omega
  subst this e1 e3
  simp
  omega
 ·injection e0 with e1 e2 e3
  subst e1 e3
  right
  by_cases hck : cap = k
  ·rw [if_pos hck]
   have hnk : n = k := by omega
   refine ⟨g, off, cap - k, cur, rfl, hB, hg, by omega, by omega, by rw [hck, Nat.sub_self, Nat.zero_mul]; have := Nat.zero_le (cap * size); omega, ?_⟩
   rw [hnk, Nat.sub_self, Nat.zero_mul, List.take_zero, List.drop_eq_nil_of_le (by rw [hl, hnk]; exact Nat.le_refl _)]
  ·rw [if_neg hck]
   refine ⟨g, off + k * size, cap - k, cur, by simp [Addr.add_lit], hB, hg, by omega, by omega, ?_, ?_⟩
   ·rw [Nat.sub_mul]
    have : k * size ≤ cap * size := Nat.mul_le_mul_right _ (by omega)
    omega
   ·rw [← hx, List.drop_take, List.drop_drop, Nat.sub_mul]
end
section
variable {P : Program} (w : World)
theorem run_append_nilO (B : Nat) (t ty e : TypeId) (i : TypeInfo) (size : Nat) (ht : P.underlying t = some (.slice e)) (hi : P.info? e = some i)
  (v : Value) (n : Nat) (xs : List Value) (hown : OwnO w B e size v n xs) (c : Nat) : (Builtin.append_ #[t, t] ty #[v, .slice none 0 c]).run P w = .ok v w := by
 rcases hown.2 with ⟨rfl, rfl⟩ | ⟨g, off, cap, cur, rfl, _, _, hnc, _⟩
 ·simp [Builtin.append_, run_underlying ht, sizeOf, typeInfo, hi, Builtin.lenOf, Builtin.firstCells]
 ·simp [Builtin.append_, run_underlying ht, sizeOf, typeInfo, hi, Builtin.lenOf, Builtin.firstCells, hnc, storeCells]
theorem run_append_roomO (t ty e : TypeId) (i : TypeInfo) (ht : P.underlying t = some (.slice e)) (hi : P.info? e = some i)
  (g off sLen sCap : Nat) (cur : Array Value) (hg : w.heap[g]? = some (.cells cur e (0, 0)))
  (a : Addr) (m c : Nat) (news : List Value) (hl : news.length = m * i.size) (hnews : ∀ j u, news[j]? = some u → w.cell? (a.add j) = some u) (h1 : ∀ u ∈ news, u.oneCell' = true)
  (hroom : sLen + m ≤ sCap) (hfit : off + sLen * i.size + news.length ≤ cur.size) :
  (Builtin.append_ #[t, t] ty #[.slice (some ⟨g, off, none⟩) sLen sCap, .slice (some a) m c]).run P w =
   .ok (.slice (some ⟨g, off, none⟩) (sLen + m) sCap) (w.setRow g (cur.toList.take (off + sLen * i.size) ++ news ++ cur.toList.drop (off + sLen * i.size + news.length)).toArray) := by
 have hf := run_firstCells_some (P := P) w i.size m a m c news hl hnews
 have hst := run_storeCells_at P g (off + sLen * i.size) e news 0 cur w hg (by simpa using hfit) h1
 simp only [Nat.add_zero] at hst
 simp [Builtin.append_, run_underlying ht, sizeOf, typeInfo, hi, Builtin.lenOf, hroom, hf, Addr.add_lit, hst]
theorem run_append_o (B : Nat) (t ty e : TypeId) (i : TypeInfo) (z : Value) (size bytes : Nat) (ht : P.underlying t = some (.slice e)) (hi : P.info? e = some i) (hz : i.zero = some z)
  (hsize : i.size = size) (hby : i.bytes = bytes) (hzs : z.cells.size = size) (hsz : 0 < size)
  (v : Value) (n : Nat) (xs : List Value) (hown : OwnO w B e size v n xs)
  (D : Nat) (A : Option Addr) (m c : Nat) (news : List Value) (hr : Reads w D size A m news) (h1 : ∀ u ∈ news, u.oneCell' = true)
  (h63 : n + m ≤ maxLen) (hbytes : (n + m) * bytes ≤ 140737488355328) (hbase : B ≤ w.heap.size) :
  ∃ v' w', (Builtin.append_ #[t, t] ty #[v, .slice A m c]).run P w = .ok v' w' ∧ OwnO w' B e size v' (n + m) (xs ++ news) ∧ w.grownBy w' v.ownBlock ∧
   (v'.ownBlock = v.ownBlock ∨ v'.ownBlock = some w.heap.size) := by
 subst hsize
 subst hby
 have hl := hr.1
 have hsmall : n + m ≤ 9223372036854775807 := by simp only [maxLen] at h63; omega
 have hlen : (xs ++ news).length = (n + m) * i.size := by rw [List.length_append, hown.1, hl, Nat.add_mul]
 by_cases hm0 : m = 0
 ·subst hm0
  have hn : news = [] := List.eq_nil_of_length_eq_zero (by simpa using hl)
  subst hn
  rcases A with _ | a
  ·exact ⟨v, w, run_append_nilO w B t ty e i i.size ht hi v n xs hown c, by simpa using hown, World.grownBy.refl w _, .inl rfl⟩
  ·rcases hown.2 with ⟨rfl, rfl⟩ | ⟨g, off, cap, cur, rfl, _, _, hnc, _⟩
   ·refine ⟨.slice none 0 0, w, ?_, by simpa using hown, World.grownBy.refl w _, .inl rfl⟩
    simp [Builtin.append_, run_underlying ht, sizeOf, typeInfo, hi, Builtin.lenOf, Builtin.firstCells, loadCells, loadCellsFrom]
   ·refine ⟨.slice (some ⟨g, off, none⟩) n cap, w, ?_, by simpa using hown, World.grownBy.refl w _, .inl rfl⟩
    simp [Builtin.append_, run_underlying ht, sizeOf, typeInfo, hi, Builtin.lenOf, Builtin.firstCells, loadCells, loadCellsFrom, hnc, storeCells]
 obtain ⟨a, rfl, _, hnews⟩ := hr.2 (by omega)
 have grown : ∀ (old : Nat), old < n + m → ∀ (row : Option Nat),
   OwnO (w.drew.alloc (.cells (xs.toArray ++ news.toArray ++ Builtin.zeroCells z.cells (grownCap w (n + m) old e - (n + m))) e)) B e i.size
    (.slice (some ⟨w.heap.size, 0, none⟩) (n + m) (grownCap w (n + m) old e)) (n + m) (xs ++ news) ∧
   w.grownBy (w.drew.alloc (.cells (xs.toArray ++ news.toArray ++ Builtin.zeroCells z.cells (grownCap w (n + m) old e - (n + m))) e)) row := by
  intro old ho row
  have hge := grownCap_ge w (n + m) old e
  have hcm : grownCap w (n + m) old e ≤ maxLen := grownCap_le_maxLen w (n + m) old e h63
  refine ⟨⟨hlen, .inr ⟨w.heap.size, 0, _, _, rfl, hbase, heap_alloc_new w.drew _, hge, hcm, ?_, ?_⟩⟩, ⟨rfl, rfl, rfl, by simp, fun k hk _ => Below.heap_alloc w.drew _ k hk⟩⟩
  ·simp only [Array.size_append, List.size_toArray, size_zeroCells, hzs, hown.1, hl, ← Nat.add_mul]
   have : n + m + (grownCap w (n + m) old e - (n + m)) = grownCap w (n + m) old e := by omega
   rw [this]
   omega
  ·simp only [Array.toList_append, List.append_assoc, List.drop_zero]
   rw [← List.append_assoc, ← hlen]
   exact List.take_left
 rcases hown.2 with ⟨rfl, rfl⟩ | ⟨g, off, cap, cur, rfl, hbg, hg, hnc, hcm, hcs, htake⟩
 ·have hx : xs = [] := List.eq_nil_of_length_eq_zero (by simpa using hown.1)
  subst hx
  have hr := run_append_nil (P := P) w t ty e i z ht hi hz a m c news hl hnews (by omega) (by omega) (by have hb := hbytes; simp only [Nat.zero_add] at hb; omega)
  have hgr := grown 0 (by omega) (Value.ownBlock (.slice none 0 0))
  simp only [Nat.zero_add, List.nil_append, Array.empty_append] at hgr ⊢
  exact ⟨_, _, hr, hgr.1, hgr.2, Or.inr rfl⟩
 ·by_cases hroom : n + m ≤ cap
  ·have hmul : (n + m) * i.size ≤ cap * i.size := Nat.mul_le_mul_right _ hroom
   rw [Nat.add_mul] at hmul
   have hfit : off + n * i.size + news.length ≤ cur.size := by rw [hl]; omega
   have hr := run_append_roomO (P := P) w t ty e i ht hi g off n cap cur hg a m c news hl hnews h1 hroom hfit
   refine ⟨_, _, hr, ⟨hlen, .inr ⟨g, off, cap, _, rfl, hbg, setRow_heap w g cur _ e _ hg, hroom, hcm, ?_, ?_⟩⟩, ⟨rfl, rfl, rfl, by simp, fun k _ hk => setRow_other w g k _ (fun e => hk (by simp [Value.ownBlock, e]))⟩, Or.inl rfl⟩
   ·simp only [List.size_toArray, List.length_append, List.length_take, List.length_drop, Array.length_toList]
    omega
   ·have hle : off + n * i.size ≤ cur.toList.length := by rw [Array.length_toList]; omega
    have e1 : cur.toList.take (off + n * i.size) = cur.toList.take off ++ xs := by
     rw [← htake, List.take_add]
    have e2 : (cur.toList.take off).length = off := by rw [List.length_take, Array.length_toList]; omega
    rw [e1]
    simp only [List.append_assoc]
    rw [List.drop_left' e2, ← List.append_assoc, ← hlen]
    exact List.take_left
  ·obtain ⟨A', c', e', _, hr0⟩ := hown.reads
   have hn0 : n ≠ 0 ∨ n = 0 := by omega
   have holds : ∀ j u, xs[j]? = some u → w.cell? ((⟨g, off, none⟩ : Addr).add j) = some u := by
    intro j u hj
    injection e' with e1 _ _
    rcases Nat.eq_zero_or_pos n with h0 | h0
    ·have hx : xs = [] := List.eq_nil_of_length_eq_zero (by rw [hown.1, h0, Nat.zero_mul])
     rw [hx] at hj
     cases hj
    ·obtain ⟨ad, e2, _, hc⟩ := hr0.2 h0
     rw [← e1] at e2
     injection e2 with e2
     subst e2
     exact hc j u hj
   have hr := run_append_grow (P := P) w t ty e i z ht hi hz ⟨g, off, none⟩ n cap xs hown.1 holds a m c news hl hnews (by omega) (by omega) (growslice_fits (by omega) hbytes)
   have hgr := grown cap (by omega) (Value.ownBlock (.slice (some ⟨g, off, none⟩) n cap))
   exact ⟨_, _, hr, hgr.1, hgr.2, Or.inr rfl⟩
theorem wp_append_o {o : Oper} {a : Act} {K : Act → World → Prop} {Q : Exit → Act → World → Prop} (s x : Operand) (t : TypeId)
  (ho : o.op = .call { callee := .builtin .append, args := #[s, x], argTypes := #[t, t] })
  (B : Nat) (e : TypeId) (i : TypeInfo) (z : Value) (size bytes : Nat) (ht : P.underlying t = some (.slice e)) (hi : P.info? e = some i) (hz : i.zero = some z)
  (hsize : i.size = size) (hby : i.bytes = bytes) (hzs : z.cells.size = size) (hsz : 0 < size)
  (v : Value) (n : Nat) (xs : List Value) (hs : a.eval s = v) (hown : OwnO w B e size v n xs)
  (D : Nat) (A : Option Addr) (m c : Nat) (news : List Value) (hx : a.eval x = .slice A m c) (hr : Reads w D size A m news) (h1 : ∀ u ∈ news, u.oneCell' = true)
  (h63 : n + m ≤ maxLen) (hbytes : (n + m) * bytes ≤ 140737488355328) (hbase : B ≤ w.heap.size)
  (h : ∀ v' w', OwnO w' B e size v' (n + m) (xs ++ news) → w.grownBy w' v.ownBlock → (v'.ownBlock = v.ownBlock ∨ v'.ownBlock = some w.heap.size) → K (a.put o.dst v') w') : o.wp P a w K Q := by
 obtain ⟨v', w', hrun, h2, h3, h4⟩ := run_append_o (P := P) w B t o.type e i z size bytes ht hi hz hsize hby hzs hsz v n xs hown D A m c news hr h1 h63 hbytes hbase
 unfold Oper.wp execOp
 simp only [ho, resolve, invoke, builtin, Sem.run_bind, Sem.run_pure, Result.andThen_ok, List.map_toArray, List.map_cons, List.map_nil, hs, hx, hrun]
 exact h v' w' h2 h3 h4
end
end Go.Proofs.YtjbnfigpflambacGreatDoor
/- The pool in memory: its own block, what lies in it, and how it reads. -/
namespace Go.Proofs.YtjbnfigpflambacGreatDoor
open Go.ChangeShapes Go.WideShapes Go.ChangeAt Go.RowKit
def up {α : Type} (f : Nat → α) (c : Nat) (x : α) : Nat → α := fun i => if i = c then x else f i
theorem up_at {α : Type} (f : Nat → α) (c : Nat) (x : α) : up f c x c = x := if_pos rfl
theorem up_off {α : Type} (f : Nat → α) {c i : Nat} (x : α) (h : i ≠ c) : up f c x i = f i := if_neg h
structure MV where
 mode : Int
 srvs : Int
 owner : List Int
 bytes : Nat → ByteArray
 pend : Nat → List St
 bad : Nat → List Bool
 srv : Nat → Int
 sent : Nat → ByteArray
 ow : Nat → Ow
 wait : List Nat
 deeds : List De
 w : Wo
 known : List Ow
def MV.of (f : Fr) (b : PB) : MV := ⟨f.mode, f.owner.length, f.owner, fun c => (f.c c).bytes, fun c => (f.c c).pend.map (·.1), fun c => (f.c c).pend.map (·.2), fun c => (f.c c).srv, fun c => (f.c c).sent, b.ow, f.wait, f.deeds, b.w, b.known⟩
structure PV where
 rows : Value
 ses : Value
 owner : Value
 known : Value
 pend : Nat → Value
 bad : Nat → Value
 set : Nat → Value
 pre : Nat → Value
 sav : Nat → Value
 adr : Nat → Value
 buf : Nat → Value
 wait : Value
 deeds : Value
def headV (M : MV) (V : PV) : Nat → Value
 | 0 => .int .i64 M.mode
 | 1 => .int .i64 M.srvs
 | 2 => V.rows
 | 3 => V.ses
 | 4 => V.owner
 | _ => V.known
def clV (M : MV) (V : PV) (c : Nat) : Nat → Value
 | 0 => .string (M.bytes c)
 | 1 => V.pend c
 | 2 => V.bad c
 | 3 => .int .i64 (M.srv c)
 | 4 => V.set c
 | 5 => V.pre c
 | 6 => V.sav c
 | 7 => .int .i64 (M.ow c).st
 | 8 => V.adr c
 | _ => V.buf c
def cellV (M : MV) (V : PV) (j : Nat) : Value :=
 if j < 6 then headV M V j else if j < 66 then clV M V ((j - 6) / 10) ((j - 6) % 10) else if j = 66 then V.wait else V.deeds
structure PoolB (w : World) (p : Nat) (M : MV) (V : PV) : Prop where
 blk : ∃ cs, Blk w p 101 cs ∧ cs.size = 68 ∧ ∀ j, j < 68 → cs[j]? = some (cellV M V j)
section
variable {w w' : World} {p : Nat} {M M' : MV} {V V' : PV}
theorem PoolB.cell (h : PoolB w p M V) {j : Nat} (hj : j < 68) : w.cell? ⟨p, j, none⟩ = some (cellV M V j) := by
 obtain ⟨cs, b, _, hc⟩ := h.blk
 exact b.cell_ j _ (hc j hj)
theorem PoolB.lt (h : PoolB w p M V) : p < w.heap.size := by
 obtain ⟨cs, b, _⟩ := h.blk
 exact b.lt
theorem PoolB.frozen (h : PoolB w p M V) (j : Nat) : w.frozen? ⟨p, j, none⟩ = false := by
 obtain ⟨cs, b, _⟩ := h.blk
 exact b.frozen j
theorem PoolB.keep (h : PoolB w p M V) (hk : w'.heap[p]? = w.heap[p]?) : PoolB w' p M V := by
 obtain ⟨cs, b, r⟩ := h.blk
 exact ⟨cs, hk.trans b, r⟩
theorem PoolB.same (h : PoolB w p M V) (hk : ∀ j, j < 68 → cellV M' V' j = cellV M V j) : PoolB w p M' V' := by
 obtain ⟨cs, b, hs, hc⟩ := h.blk
 exact ⟨cs, b, hs, fun j hj => by rw [hc j hj, hk j hj]⟩
theorem PoolB.store (h : PoolB w p M V) {j : Nat} {v : Value} (hj : j < 68) (h1 : cellV M' V' j = v) (h2 : ∀ i, i < 68 → i ≠ j → cellV M' V' i = cellV M V i) : PoolB (w.setCell ⟨p, j, none⟩ v) p M' V' := by
 obtain ⟨cs, b, hs, hc⟩ := h.blk
 refine ⟨cs.setIfInBounds j v, b.set_ j v, by rw [Array.size_setIfInBounds]; exact hs, fun i hi => ?_⟩
 rw [Array.getElem?_setIfInBounds]
 by_cases e : j = i
 ·subst e
  rw [if_pos rfl, if_pos (by omega), h1]
 ·rw [if_neg e, hc i hi, h2 i hi (fun e' => e e'.symm)]
theorem cell_c (M : MV) (V : PV) {c k : Nat} (hc : c < 6) (hk : k < 10) : cellV M V (6 + c * 10 + k) = clV M V c k := by
 unfold cellV
 rw [if_neg (by omega), if_pos (by omega)]
 have e1 : (6 + c * 10 + k - 6) / 10 = c := by omega
 have e2 : (6 + c * 10 + k - 6) % 10 = k := by omega
 rw [e1, e2]
theorem PoolB.cellC (h : PoolB w p M V) {c k : Nat} (hc : c < 6) (hk : k < 10) : w.cell? ⟨p, 6 + c * 10 + k, none⟩ = some (clV M V c k) := by
 rw [h.cell (by omega), cell_c M V hc hk]
theorem PoolB.storeC (h : PoolB w p M V) {c k : Nat} (hc : c < 6) (hk : k < 10) {v : Value} (h1 : clV M' V' c k = v) (h2 : ∀ i, ¬ (i = c) → clV M' V' i = clV M V i) (h3 : ∀ i, i < 10 → i ≠ k → clV M' V' c i = clV M V c i)
  (h4 : headV M' V' = headV M V) (h5 : V'.wait = V.wait) (h6 : V'.deeds = V.deeds) : PoolB (w.setCell ⟨p, 6 + c * 10 + k, none⟩ v) p M' V' :=
 h.store (by omega) (by rw [cell_c _ _ hc hk]; exact h1) fun i hi hne => by
  unfold cellV
  rw [h4, h5, h6]
  split
  ·rfl
  split
  ·by_cases e : (i - 6) / 10 = c
   ·rw [e]
    exact h3 _ (Nat.mod_lt _ (by decide)) (by omega)
   ·rw [h2 _ e]
  ·rfl
theorem clV_ext {c : Nat} (h : ∀ k, k < 10 → clV M' V' c k = clV M V c k) : clV M' V' c = clV M V c := by
 funext k
 rcases Nat.lt_or_ge k 10 with hk | hk
 ·exact h k hk
 ·have e : ∀ (M : MV) (V : PV), clV M V c k = clV M V c 9 := by
   intro M V
   unfold clV
   match k, hk with
   | k + 10, _ => rfl
  rw [e M' V', e M V]
  exact h 9 (by decide)
theorem PoolB.set_bytes (h : PoolB w p M V) {c : Nat} (hc : c < 6) (x : ByteArray) : PoolB (w.setCell ⟨p, 6 + c * 10 + 0, none⟩ (.string x)) p ({ M with bytes := up M.bytes c x }) (V) :=
 h.storeC hc (by decide) (by simp [clV, up_at]) (fun i hi => clV_ext fun k hk => by match k, hk with | 0, _ | 1, _ | 2, _ | 3, _ | 4, _ | 5, _ | 6, _ | 7, _ | 8, _ | 9, _ => simp [clV, up_off _ _ hi])
  (fun i hi hk => by match i, hi with | 0, _ | 1, _ | 2, _ | 3, _ | 4, _ | 5, _ | 6, _ | 7, _ | 8, _ | 9, _ => first | exact absurd rfl hk | rfl) rfl rfl rfl
theorem PoolB.set_pend (h : PoolB w p M V) {c : Nat} (hc : c < 6) (x : Value) : PoolB (w.setCell ⟨p, 6 + c * 10 + 1, none⟩ (x)) p (M) ({ V with pend := up V.pend c x }) :=
 h.storeC hc (by decide) (by simp [clV, up_at]) (fun i hi => clV_ext fun k hk => by match k, hk with | 0, _ | 1, _ | 2, _ | 3, _ | 4, _ | 5, _ | 6, _ | 7, _ | 8, _ | 9, _ => simp [clV, up_off _ _ hi])
  (fun i hi hk => by match i, hi with | 0, _ | 1, _ | 2, _ | 3, _ | 4, _ | 5, _ | 6, _ | 7, _ | 8, _ | 9, _ => first | exact absurd rfl hk | rfl) rfl rfl rfl
theorem PoolB.set_bad (h : PoolB w p M V) {c : Nat} (hc : c < 6) (x : Value) : PoolB (w.setCell ⟨p, 6 + c * 10 + 2, none⟩ (x)) p (M) ({ V with bad := up V.bad c x }) :=
 h.storeC hc (by decide) (by simp [clV, up_at]) (fun i hi => clV_ext fun k hk => by match k, hk with | 0, _ | 1, _ | 2, _ | 3, _ | 4, _ | 5, _ | 6, _ | 7, _ | 8, _ | 9, _ => simp [clV, up_off _ _ hi])
  (fun i hi hk => by match i, hi with | 0, _ | 1, _ | 2, _ | 3, _ | 4, _ | 5, _ | 6, _ | 7, _ | 8, _ | 9, _ => first | exact absurd rfl hk | rfl) rfl rfl rfl
theorem PoolB.set_srv (h : PoolB w p M V) {c : Nat} (hc : c < 6) (x : Int) : PoolB (w.setCell ⟨p, 6 + c * 10 + 3, none⟩ (.int .i64 x)) p ({ M with srv := up M.srv c x }) (V) :=
 h.storeC hc (by decide) (by simp [clV, up_at]) (fun i hi => clV_ext fun k hk => by match k, hk with | 0, _ | 1, _ | 2, _ | 3, _ | 4, _ | 5, _ | 6, _ | 7, _ | 8, _ | 9, _ => simp [clV, up_off _ _ hi])
  (fun i hi hk => by match i, hi with | 0, _ | 1, _ | 2, _ | 3, _ | 4, _ | 5, _ | 6, _ | 7, _ | 8, _ | 9, _ => first | exact absurd rfl hk | rfl) rfl rfl rfl
theorem PoolB.set_set (h : PoolB w p M V) {c : Nat} (hc : c < 6) (x : Value) : PoolB (w.setCell ⟨p, 6 + c * 10 + 4, none⟩ (x)) p (M) ({ V with set := up V.set c x }) :=
 h.storeC hc (by decide) (by simp [clV, up_at]) (fun i hi => clV_ext fun k hk => by match k, hk with | 0, _ | 1, _ | 2, _ | 3, _ | 4, _ | 5, _ | 6, _ | 7, _ | 8, _ | 9, _ => simp [clV, up_off _ _ hi])
  (fun i hi hk => by match i, hi with | 0, _ | 1, _ | 2, _ | 3, _ | 4, _ | 5, _ | 6, _ | 7, _ | 8, _ | 9, _ => first | exact absurd rfl hk | rfl) rfl rfl rfl
theorem PoolB.set_pre (h : PoolB w p M V) {c : Nat} (hc : c < 6) (x : Value) : PoolB (w.setCell ⟨p, 6 + c * 10 + 5, none⟩ (x)) p (M) ({ V with pre := up V.pre c x }) :=
 h.storeC hc (by decide) (by simp [clV, up_at]) (fun i hi => clV_ext fun k hk => by match k, hk with | 0, _ | 1, _ | 2, _ | 3, _ | 4, _ | 5, _ | 6, _ | 7, _ | 8, _ | 9, _ => simp [clV, up_off _ _ hi])
  (fun i hi hk => by match i, hi with | 0, _ | 1, _ | 2, _ | 3, _ | 4, _ | 5, _ | 6, _ | 7, _ | 8, _ | 9, _ => first | exact absurd rfl hk | rfl) rfl rfl rfl
theorem PoolB.set_sav (h : PoolB w p M V) {c : Nat} (hc : c < 6) (x : Value) : PoolB (w.setCell ⟨p, 6 + c * 10 + 6, none⟩ (x)) p (M) ({ V with sav := up V.sav c x }) :=
 h.storeC hc (by decide) (by simp [clV, up_at]) (fun i hi => clV_ext fun k hk => by match k, hk with | 0, _ | 1, _ | 2, _ | 3, _ | 4, _ | 5, _ | 6, _ | 7, _ | 8, _ | 9, _ => simp [clV, up_off _ _ hi])
  (fun i hi hk => by match i, hi with | 0, _ | 1, _ | 2, _ | 3, _ | 4, _ | 5, _ | 6, _ | 7, _ | 8, _ | 9, _ => first | exact absurd rfl hk | rfl) rfl rfl rfl
theorem PoolB.set_st (h : PoolB w p M V) {c : Nat} (hc : c < 6) (x : Int) : PoolB (w.setCell ⟨p, 6 + c * 10 + 7, none⟩ (.int .i64 x)) p ({ M with ow := up M.ow c ⟨(M.ow c).set, (M.ow c).pre, (M.ow c).sav, x⟩ }) (V) :=
 h.storeC hc (by decide) (by simp [clV, up_at]) (fun i hi => clV_ext fun k hk => by match k, hk with | 0, _ | 1, _ | 2, _ | 3, _ | 4, _ | 5, _ | 6, _ | 7, _ | 8, _ | 9, _ => simp [clV, up_off _ _ hi])
  (fun i hi hk => by match i, hi with | 0, _ | 1, _ | 2, _ | 3, _ | 4, _ | 5, _ | 6, _ | 7, _ | 8, _ | 9, _ => first | exact absurd rfl hk | rfl) rfl rfl rfl
theorem PoolB.set_adr (h : PoolB w p M V) {c : Nat} (hc : c < 6) (x : Value) : PoolB (w.setCell ⟨p, 6 + c * 10 + 8, none⟩ (x)) p (M) ({ V with adr := up V.adr c x }) :=
 h.storeC hc (by decide) (by simp [clV, up_at]) (fun i hi => clV_ext fun k hk => by match k, hk with | 0, _ | 1, _ | 2, _ | 3, _ | 4, _ | 5, _ | 6, _ | 7, _ | 8, _ | 9, _ => simp [clV, up_off _ _ hi])
  (fun i hi hk => by match i, hi with | 0, _ | 1, _ | 2, _ | 3, _ | 4, _ | 5, _ | 6, _ | 7, _ | 8, _ | 9, _ => first | exact absurd rfl hk | rfl) rfl rfl rfl
theorem PoolB.set_buf (h : PoolB w p M V) {c : Nat} (hc : c < 6) (x : Value) : PoolB (w.setCell ⟨p, 6 + c * 10 + 9, none⟩ (x)) p (M) ({ V with buf := up V.buf c x }) :=
 h.storeC hc (by decide) (by simp [clV, up_at]) (fun i hi => clV_ext fun k hk => by match k, hk with | 0, _ | 1, _ | 2, _ | 3, _ | 4, _ | 5, _ | 6, _ | 7, _ | 8, _ | 9, _ => simp [clV, up_off _ _ hi])
  (fun i hi hk => by match i, hi with | 0, _ | 1, _ | 2, _ | 3, _ | 4, _ | 5, _ | 6, _ | 7, _ | 8, _ | 9, _ => first | exact absurd rfl hk | rfl) rfl rfl rfl
theorem PoolB.set_rows (h : PoolB w p M V) (x : Value) : PoolB (w.setCell ⟨p, 2, none⟩ x) p M { V with rows := x } :=
 h.store (by decide) rfl fun i hi hne => by
  unfold cellV
  split
  ·match i with | 0 | 1 | 2 | 3 | 4 | 5 => first | exact absurd rfl hne | rfl
  split
  ·rfl
  ·rfl
theorem PoolB.set_ses (h : PoolB w p M V) (x : Value) : PoolB (w.setCell ⟨p, 3, none⟩ x) p M { V with ses := x } :=
 h.store (by decide) rfl fun i hi hne => by
  unfold cellV
  split
  ·match i with | 0 | 1 | 2 | 3 | 4 | 5 => first | exact absurd rfl hne | rfl
  split
  ·rfl
  ·rfl
theorem PoolB.set_wait (h : PoolB w p M V) (x : Value) : PoolB (w.setCell ⟨p, 66, none⟩ x) p M { V with wait := x } :=
 h.store (by decide) rfl fun i hi hne => by
  unfold cellV
  split
  ·rfl
  split
  ·rfl
  ·first | rfl | (split <;> first | rfl | (exact absurd (by assumption) hne) | (exact absurd (by omega) hne))
theorem PoolB.set_deeds (h : PoolB w p M V) (x : Value) : PoolB (w.setCell ⟨p, 67, none⟩ x) p M { V with deeds := x } :=
 h.store (by decide) rfl fun i hi hne => by
  unfold cellV
  split
  ·rfl
  split
  ·rfl
  ·first | rfl | (split <;> first | rfl | (exact absurd (by assumption) hne) | (exact absurd (by omega) hne))
end
/-! how it reads -/
def stV (l : List St) : List Value := l.flatMap fun x => [.int .i64 x.k, .string x.key, .string x.val]
def badV (l : List Bool) : List Value := l.map .bool
def intV (l : List Int) : List Value := l.map (.int .i64)
def natV (l : List Nat) : List Value := l.map fun (i : Nat) => Value.int .i64 (i : Int)
def deV (l : List De) : List Value := l.flatMap fun d => [.int .i64 (d.c : Int), .int .i64 d.x.k, .string d.x.key, .string d.x.val, .int .i64 d.a.kind, .string d.a.text, .int .i64 d.a.st]
structure KV where
 set : Value
 pre : Value
 sav : Value
 st : Int
def KV.cells (x : KV) : List Value := [x.set, x.pre, x.sav, .int .i64 x.st]
structure OwR (w : World) (B : Nat) (a b c : Value) (o : Ow) : Prop where
 set : OPL w B a o.set
 pre : OPL w B b o.pre
 sav : OPL w B c o.sav
theorem OwR.keeps {w w' : World} {B : Nat} {a b c : Value} {o : Ow} (h : OwR w B a b c o) (kp : Keeps 60 w w') : OwR w' B a b c o := ⟨h.set.keeps kp, h.pre.keeps kp, h.sav.keeps kp⟩
inductive Role where
 | pool | owner | known | wait | deeds
 | pend (c : Nat) | bad (c : Nat) | buf (c : Nat)
def Role.ok : Role → Prop
 | .pend c | .bad c | .buf c => c < 6
 | _ => True
def PV.at (V : PV) (p : Nat) : Role → Option Nat
 | .pool => some p
 | .owner => V.owner.ownBlock
 | .known => V.known.ownBlock
 | .wait => V.wait.ownBlock
 | .deeds => V.deeds.ownBlock
 | .pend c => (V.pend c).ownBlock
 | .bad c => (V.bad c).ownBlock
 | .buf c => (V.buf c).ownBlock
def Role.ty : Role → TypeId
 | .pool => 101
 | .owner | .wait => 3
 | .known => 92
 | .deeds => 71
 | .pend _ => 41
 | .bad _ => 4
 | .buf _ => 5
structure PoolO (w : World) (B p : Nat) (V : PV) (ks : List KV) (M : MV) : Prop where
 blk : ∃ cs, Blk w p 101 cs
 lb : B ≤ p
 rows : OPL w B V.rows M.w.rows
 ses : ∃ cs, OSL w B V.ses M.w.ses cs
 owner : OwnO w B 3 1 V.owner M.owner.length (intV M.owner)
 known : OwnO w B 92 4 V.known ks.length (ks.flatMap KV.cells)
 klen : ks.length = M.known.length
 kn : ∀ s (hs : s < ks.length), OwR w B ks[s].set ks[s].pre ks[s].sav (M.known.getD s Ow.new) ∧ ks[s].st = (M.known.getD s Ow.new).st
 pend : ∀ c, c < 6 → OwnO w B 41 3 (V.pend c) (M.pend c).length (stV (M.pend c))
 bad : ∀ c, c < 6 → OwnO w B 4 1 (V.bad c) (M.bad c).length (badV (M.bad c))
 ow : ∀ c, c < 6 → OwR w B (V.set c) (V.pre c) (V.sav c) (M.ow c)
 adr : ∀ c, c < 6 → V.adr c = .pointer none ∨ V.adr c = .pointer (some ⟨p, 6 + c * 10 + 8, none⟩)
 buf : ∀ c, c < 6 → OwnO w B 5 1 (V.buf c) (M.sent c).size (Lib.strCells (M.sent c))
 wait : OwnO w B 3 1 V.wait M.wait.length (natV M.wait)
 deeds : OwnO w B 71 7 V.deeds M.deeds.length (deV M.deeds)
 apart : ∀ (r r' : Role) (k : Nat), r.ok → r'.ok → V.at p r = some k → V.at p r' = some k → r = r'
def PV.mine (V : PV) (p k : Nat) : Prop := ∃ r : Role, r.ok ∧ V.at p r = some k
structure Turn (p : Nat) (w : World) (V : PV) (w' : World) (V' : PV) : Prop where
 os : w'.os = w.os
 tape : w'.tape = w.tape
 output : w'.output = w.output
 size : w.heap.size ≤ w'.heap.size
 block : ∀ k, k < w.heap.size → ¬ V.mine p k → w'.heap[k]? = w.heap[k]?
 mine : ∀ k, V'.mine p k → V.mine p k ∨ w.heap.size ≤ k
section
variable {p : Nat} {w w' u : World} {V V' V'' : PV}
theorem Turn.refl (p : Nat) (w : World) (V : PV) : Turn p w V w V := ⟨rfl, rfl, rfl, Nat.le_refl _, fun _ _ _ => rfl, fun _ h => .inl h⟩
theorem Turn.trans (h : Turn p w V w' V') (k : Turn p w' V' u V'') : Turn p w V u V'' :=
 ⟨k.os.trans h.os, k.tape.trans h.tape, k.output.trans h.output, Nat.le_trans h.size k.size,
  fun i hi hm => (k.block i (Nat.lt_of_lt_of_le hi h.size) fun hm' => by
   rcases h.mine i hm' with h1 | h1
   ·exact hm h1
   ·omega).trans (h.block i hi hm),
  fun i hm => by
   rcases k.mine i hm with h1 | h1
   ·exact h.mine i h1
   ·exact .inr (Nat.le_trans h.size h1)⟩
theorem Turn.of_below (h : Below w.heap.size w w') : Turn p w V w' V := ⟨h.os, h.tape, h.output, h.size, fun k hk _ => h.block k hk, fun _ h => .inl h⟩
theorem Turn.below (h : Turn p w V w' V') (k : Below w'.heap.size w' u) : Turn p w V u V' := h.trans (.of_below k)
theorem Turn.bel {B : Nat} (h : Turn p w V w' V') (hB : B ≤ w.heap.size) (hm : ∀ k, V.mine p k → B ≤ k) : Below B w w' :=
 ⟨h.os, h.tape, h.output, h.size, fun k hk => h.block k (by omega) fun hm' => by have := hm k hm'; omega⟩
theorem Turn.box {q : Nat} {t : TypeId} {cs : Array Value} (h : Turn p w V w' V') (hb : Blk w q t cs) (hn : ¬ V.mine p q) : Blk w' q t cs := (h.block q hb.lt hn).trans hb
theorem Turn.not {q : Nat} (h : Turn p w V w' V') (hq : q < w.heap.size) (hn : ¬ V.mine p q) : ¬ V'.mine p q := fun hm => by
 rcases h.mine q hm with h1 | h1
 ·exact hn h1
 ·omega
end
section
variable {w w' u : World} {B p : Nat} {V V' : PV} {ks : List KV} {M M' : MV}
theorem PoolO.at_ (h : PoolO w B p V ks M) {r : Role} (hr : r.ok) {k : Nat} (hm : V.at p r = some k) : B ≤ k ∧ k < w.heap.size ∧ ∃ cs, Blk w k r.ty cs := by
 have o : ∀ {e : TypeId} {size n : Nat} {v : Value} {xs : List Value}, OwnO w B e size v n xs → v.ownBlock = some k → B ≤ k ∧ k < w.heap.size ∧ ∃ cs, Blk w k e cs :=
  fun ho hk => ⟨(ho.lt k hk).1, (ho.lt k hk).2, ho.row k hk⟩
 cases r with
 | pool =>
  obtain ⟨cs, hb⟩ := h.blk
  injection hm with hm
  subst hm
  exact ⟨h.lb, hb.lt, cs, hb⟩
 | owner => exact o h.owner hm
 | known => exact o h.known hm
 | wait => exact o h.wait hm
 | deeds => exact o h.deeds hm
 | pend c => exact o (h.pend c hr) hm
 | bad c => exact o (h.bad c hr) hm
 | buf c => exact o (h.buf c hr) hm
theorem PoolO.lt (h : PoolO w B p V ks M) {k : Nat} (hm : V.mine p k) : B ≤ k ∧ k < w.heap.size := by
 obtain ⟨r, hr, e⟩ := hm
 exact ⟨(h.at_ hr e).1, (h.at_ hr e).2.1⟩
theorem PoolO.fresh (h : PoolO w B p V ks M) {k : Nat} (hk : w.heap.size ≤ k) : ¬ V.mine p k := fun hm => by have := (h.lt hm).2; omega
theorem PoolO.notBox (h : PoolO w B p V ks M) {q : Nat} {t : TypeId} {cs : Array Value} (hb : Blk w q t cs) (ht : ∀ r : Role, r.ty ≠ t) : ¬ V.mine p q := by
 rintro ⟨r, hr, e⟩
 obtain ⟨_, _, cs', hb'⟩ := h.at_ hr e
 exact hb'.ne_ hb (ht r) rfl
theorem ty_pair (r : Role) : r.ty ≠ 60 := by cases r <;> simp [Role.ty]
theorem ty_ses (r : Role) : r.ty ≠ 133 := by cases r <;> simp [Role.ty]
theorem ty_ans (r : Role) : r.ty ≠ 46 := by cases r <;> simp [Role.ty]
theorem PoolO.keep (h : PoolO w B p V ks M) (kp : Keeps 60 w w') (ks' : Keeps 133 w w') (hk : ∀ q, V.mine p q → w'.heap[q]? = w.heap[q]?) : PoolO w' B p V ks M := by
 obtain ⟨cs, hs⟩ := h.ses
 obtain ⟨cb, hb⟩ := h.blk
 exact ⟨⟨cb, (hk p ⟨.pool, trivial, rfl⟩).trans hb⟩, h.lb, h.rows.keeps kp, ⟨cs, ks'.own hs.own, hs.ses.keeps kp⟩, h.owner.keep fun q hq => hk q ⟨.owner, trivial, hq⟩, h.known.keep fun q hq => hk q ⟨.known, trivial, hq⟩, h.klen, fun s hs => ⟨(h.kn s hs).1.keeps kp, (h.kn s hs).2⟩,
  fun c hc => (h.pend c hc).keep fun q hq => hk q ⟨.pend c, hc, hq⟩, fun c hc => (h.bad c hc).keep fun q hq => hk q ⟨.bad c, hc, hq⟩, fun c hc => (h.ow c hc).keeps kp, h.adr, fun c hc => (h.buf c hc).keep fun q hq => hk q ⟨.buf c, hc, hq⟩,
  h.wait.keep fun q hq => hk q ⟨.wait, trivial, hq⟩, h.deeds.keep fun q hq => hk q ⟨.deeds, trivial, hq⟩, h.apart⟩
theorem PoolO.below (h : PoolO w B p V ks M) (hb : Below w.heap.size w w') : PoolO w' B p V ks M :=
 h.keep (.of_below hb) (.of_below hb) fun q hq => hb.block q (h.lt hq).2
structure Step (p : Nat) (r0 : Role) (w : World) (V : PV) (w' : World) (V' : PV) : Prop where
 os : w'.os = w.os
 tape : w'.tape = w.tape
 output : w'.output = w.output
 size : w.heap.size ≤ w'.heap.size
 block : ∀ k, k < w.heap.size → k ≠ p → V.at p r0 ≠ some k → w'.heap[k]? = w.heap[k]?
 same : ∀ r : Role, r ≠ r0 → V'.at p r = V.at p r
 new : ∀ k, V'.at p r0 = some k → V.at p r0 = some k ∨ w.heap.size ≤ k
 pool : ∀ cs, Blk w p 101 cs → ∃ cs', Blk w' p 101 cs'
variable {r0 : Role}
theorem Step.turn (s : Step p r0 w V w' V') (hr0 : r0.ok) : Turn p w V w' V' :=
 ⟨s.os, s.tape, s.output, s.size, fun k hk hm => s.block k hk (fun e => hm ⟨.pool, trivial, by rw [e]; rfl⟩) (fun e => hm ⟨r0, hr0, e⟩), by
  rintro k ⟨r, hr, e⟩
  by_cases h : r = r0
  ·subst h
   rcases s.new k e with h1 | h1
   ·exact .inl ⟨r, hr, h1⟩
   ·exact .inr h1
  ·exact .inl ⟨r, hr, by rw [← s.same r h]; exact e⟩⟩
theorem Step.apart (s : Step p r0 w V w' V') (h : PoolO w B p V ks M) (hr0 : r0.ok) : ∀ (r r' : Role) (k : Nat), r.ok → r'.ok → V'.at p r = some k → V'.at p r' = some k → r = r' := by
 intro r r' k hr hr' e e'
 have one : ∀ r1, r1.ok → r1 ≠ r0 → V'.at p r0 = some k → V'.at p r1 = some k → r1 = r0 := by
  intro r1 hr1 hne e0 e1
  rw [s.same r1 hne] at e1
  rcases s.new k e0 with h1 | h1
  ·exact h.apart r1 r0 k hr1 hr0 e1 h1
  ·have := (h.at_ hr1 e1).2.1
   omega
 by_cases h1 : r = r0
 ·by_cases h2 : r' = r0
  ·rw [h1, h2]
  ·subst h1
   exact (one r' hr' h2 e e').symm
 ·by_cases h2 : r' = r0
  ·subst h2
   exact one r hr h1 e' e
  ·rw [s.same r h1] at e
   rw [s.same r' h2] at e'
   exact h.apart r r' k hr hr' e e'
theorem Step.own (s : Step p r0 w V w' V') (h : PoolO w B p V ks M) (hr0 : r0.ok) {r : Role} (hr : r.ok) (hne : r ≠ r0) (hp : r ≠ .pool) {e : TypeId} {size n : Nat} {v : Value} {xs : List Value} (hv : v.ownBlock = V.at p r) (ho : OwnO w B e size v n xs) : OwnO w' B e size v n xs :=
 ho.keep fun k hk => s.block k (ho.lt k hk).2 (fun e => hp (h.apart r .pool k hr trivial (by rw [← hv]; exact hk) (by rw [e]; rfl))) (fun e => hne (h.apart r r0 k hr hr0 (by rw [← hv]; exact hk) e))
theorem Step.pairs (s : Step p r0 w V w' V') (h : PoolO w B p V ks M) (hr0 : r0.ok) {t : TypeId} (ht : ∀ r : Role, r.ty ≠ t) : Keeps t w w' := by
 intro g cs fr hg
 refine (s.block g (heap_lt hg) ?_ ?_).trans hg
 ·rintro rfl
  obtain ⟨_, _, cs', hb⟩ := h.at_ (r := .pool) trivial rfl
  unfold Blk at hb
  rw [hg] at hb
  injection hb with hb
  injection hb with _ h2
  exact ht _ h2.symm
 ·intro e
  obtain ⟨_, _, cs', hb⟩ := h.at_ hr0 e
  unfold Blk at hb
  rw [hg] at hb
  injection hb with hb
  injection hb with _ h2
  exact ht _ h2.symm
theorem Step.store (w : World) (V : PV) (p j : Nat) (x : Value) (r0 : Role) {V' : PV} (same : ∀ r : Role, r ≠ r0 → V'.at p r = V.at p r) (new : ∀ k, V'.at p r0 = some k → V.at p r0 = some k ∨ w.heap.size ≤ k) : Step p r0 w V (w.setCell ⟨p, j, none⟩ x) V' :=
 ⟨rfl, rfl, rfl, by simp [World.setCell], fun k _ hp _ => Below.heap_setCell w ⟨p, j, none⟩ x k hp, same, new, fun _ h => ⟨_, h.set_ j x⟩⟩
theorem Step.below (s : Step p r0 w V w' V') (hb : Below w'.heap.size w' u) : Step p r0 w V u V' :=
 ⟨hb.os.trans s.os, hb.tape.trans s.tape, hb.output.trans s.output, Nat.le_trans s.size hb.size, fun k hk h1 h2 => (hb.block k (Nat.lt_of_lt_of_le hk s.size)).trans (s.block k hk h1 h2), s.same, s.new, fun cs h => by
  obtain ⟨cs', h'⟩ := s.pool cs h
  exact ⟨cs', h'.keep hb⟩⟩
theorem Step.pre (hb : Below w.heap.size w w') (s : Step p r0 w' V u V') : Step p r0 w V u V' :=
 ⟨s.os.trans hb.os, s.tape.trans hb.tape, s.output.trans hb.output, Nat.le_trans hb.size s.size, fun k hk h1 h2 => (s.block k (Nat.lt_of_lt_of_le hk hb.size) h1 h2).trans (hb.block k hk), s.same, fun k hk => (s.new k hk).imp id fun h => Nat.le_trans hb.size h, fun cs h => s.pool cs (h.keep hb)⟩
theorem Step.grown (h : PoolO w B p V ks M) (hr0 : r0.ok) (hp : r0 ≠ .pool) (g : w.grownBy w' (V.at p r0)) {V' : PV} (same : ∀ r : Role, r ≠ r0 → V'.at p r = V.at p r) (new : ∀ k, V'.at p r0 = some k → V.at p r0 = some k ∨ w.heap.size ≤ k) : Step p r0 w V w' V' :=
 ⟨g.os, g.tape, g.output, g.size, fun k hk _ hn => g.block k hk fun e => hn e.symm, same, new, fun cs h' => ⟨cs, (g.block p h'.lt fun e => hp (h.apart r0 .pool p hr0 trivial e.symm rfl)).trans h'⟩⟩
structure PoolR (w : World) (B p : Nat) (V : PV) (ks : List KV) (M : MV) : Prop where
 o : PoolO w B p V ks M
 b : PoolB w p M V
theorem PoolR.below (h : PoolR w B p V ks M) (hb : Below w.heap.size w w') : PoolR w' B p V ks M := ⟨h.o.below hb, h.b.keep (hb.block p h.b.lt)⟩
theorem PoolR.keep (h : PoolR w B p V ks M) (kp : Keeps 60 w w') (ks' : Keeps 133 w w') (hk : ∀ q, V.mine p q → w'.heap[q]? = w.heap[q]?) : PoolR w' B p V ks M :=
 ⟨h.o.keep kp ks' hk, h.b.keep (hk p ⟨.pool, trivial, rfl⟩)⟩
end
end Go.Proofs.YtjbnfigpflambacGreatDoor
