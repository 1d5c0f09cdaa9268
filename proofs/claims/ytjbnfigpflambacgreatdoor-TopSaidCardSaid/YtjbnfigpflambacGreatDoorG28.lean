/- The pool in memory: its own slices are cut, appended to, stored; the state of (pool).next. pool.Run's end: the outcome is gathered. -/
import Derived.Test.YtjbnfigpflambacGreatDoorG25
import Derived.Test.YtjbnfigpflambacGreatDoorG27
/- The pool in memory: its own slices are cut, appended to, stored; the state of (pool).next. -/
namespace Go.Proofs.YtjbnfigpflambacGreatDoor
open Go.ChangeShapes Go.WideShapes Go.ChangeAt Go.RowKit
section
variable {w w2 : World} {B p : Nat} {V : PV} {ks : List KV} {M : MV}
theorem PoolR.put_pend (h : PoolR w B p V ks M) {c : Nat} (hc : c < 6) {v : Value} {l : List St} (ho : OwnO w B 41 3 v l.length (stV l)) (hn : ∀ k, v.ownBlock = some k → (V.pend c).ownBlock = some k ∨ w.heap.size ≤ k) :
  PoolR (w.setCell ⟨p, 6 + c * 10 + 1, none⟩ v) B p { V with pend := up V.pend c v } ks { M with pend := up M.pend c l } ∧ Turn p w V (w.setCell ⟨p, 6 + c * 10 + 1, none⟩ v) { V with pend := up V.pend c v } := by
 have s := Step.store w V p (6 + c * 10 + 1) v (.pend c) (V' := { V with pend := up V.pend c v }) (fun r hr => by cases r <;> first | rfl | (rename_i i; show (up V.pend c v i).ownBlock = _; rw [up_off _ _ (fun e => hr (by rw [e]))]; rfl)) (fun k hk => by
  have hk : (up V.pend c v c).ownBlock = some k := hk
  rw [up_at] at hk
  exact hn k hk)
 have ho' : OwnO (w.setCell ⟨p, 6 + c * 10 + 1, none⟩ v) B 41 3 v l.length (stV l) := ho.keep fun k hk => Below.heap_setCell w ⟨p, 6 + c * 10 + 1, none⟩ v k (fun e => by
  have e : k = p := e
  rcases hn k hk with h1 | h1
  ·exact absurd (h.o.apart (.pend c) .pool k hc trivial h1 (by rw [e]; rfl)) (by simp)
  ·have := (ho.lt k hk).2
   omega)
 exact ⟨⟨h.o.st_pend hc ho' s, (h.b.set_pend hc v).same (fun _ _ => rfl)⟩, s.turn hc⟩
theorem PoolR.app_pend (h : PoolR w B p V ks M) {c : Nat} (hc : c < 6) {v : Value} {l : List St} (ho : OwnO w2 B 41 3 v l.length (stV l)) (g : w.grownBy w2 (V.pend c).ownBlock) (hn : v.ownBlock = (V.pend c).ownBlock ∨ v.ownBlock = some w.heap.size) :
  PoolR (w2.setCell ⟨p, 6 + c * 10 + 1, none⟩ v) B p { V with pend := up V.pend c v } ks { M with pend := up M.pend c l } ∧ Turn p w V (w2.setCell ⟨p, 6 + c * 10 + 1, none⟩ v) { V with pend := up V.pend c v } ∧ w2.cell? ⟨p, 6 + c * 10 + 1, none⟩ = some (V.pend c) ∧ (∀ j, w2.frozen? ⟨p, j, none⟩ = false) ∧ Turn p w V w2 { V with pend := up V.pend c v } := by
 have s1 : Step p (.pend c) w V w2 { V with pend := up V.pend c v } := Step.of_grown (r0 := (.pend c)) (v := (V.pend c)) (v' := v) h.o hc (by simp) rfl g hn (by show (up V.pend c v c).ownBlock = _; rw [up_at]) (fun r hr => by cases r <;> first | rfl | (rename_i i; show (up V.pend c v i).ownBlock = _; rw [up_off _ _ (fun e => hr (by rw [e]))]; rfl))
 have O2 := h.o.st_pend hc (v := v) (l := l) ho s1
 have hbp : w2.heap[p]? = w.heap[p]? := g.block p h.b.lt fun e => absurd (h.o.apart .pool (.pend c) p trivial hc rfl e.symm) (by simp)
 have B2 := h.b.keep hbp
 have s3 := Step.cell (w := w2) (V := { V with pend := up V.pend c v }) (V' := { V with pend := up V.pend c v }) (p := p) v (6 + c * 10 + 1) fun _ => rfl
 exact ⟨⟨O2.st_same s3, (B2.set_pend hc v).same fun _ _ => rfl⟩, (s1.turn hc).trans (s3.turn trivial), B2.cellC (k := 1) hc (by decide), B2.frozen, s1.turn hc⟩
theorem PoolR.put_bad (h : PoolR w B p V ks M) {c : Nat} (hc : c < 6) {v : Value} {l : List Bool} (ho : OwnO w B 4 1 v l.length (badV l)) (hn : ∀ k, v.ownBlock = some k → (V.bad c).ownBlock = some k ∨ w.heap.size ≤ k) :
  PoolR (w.setCell ⟨p, 6 + c * 10 + 2, none⟩ v) B p { V with bad := up V.bad c v } ks { M with bad := up M.bad c l } ∧ Turn p w V (w.setCell ⟨p, 6 + c * 10 + 2, none⟩ v) { V with bad := up V.bad c v } := by
 have s := Step.store w V p (6 + c * 10 + 2) v (.bad c) (V' := { V with bad := up V.bad c v }) (fun r hr => by cases r <;> first | rfl | (rename_i i; show (up V.bad c v i).ownBlock = _; rw [up_off _ _ (fun e => hr (by rw [e]))]; rfl)) (fun k hk => by
  have hk : (up V.bad c v c).ownBlock = some k := hk
  rw [up_at] at hk
  exact hn k hk)
 have ho' : OwnO (w.setCell ⟨p, 6 + c * 10 + 2, none⟩ v) B 4 1 v l.length (badV l) := ho.keep fun k hk => Below.heap_setCell w ⟨p, 6 + c * 10 + 2, none⟩ v k (fun e => by
  have e : k = p := e
  rcases hn k hk with h1 | h1
  ·exact absurd (h.o.apart (.bad c) .pool k hc trivial h1 (by rw [e]; rfl)) (by simp)
  ·have := (ho.lt k hk).2
   omega)
 exact ⟨⟨h.o.st_bad hc ho' s, (h.b.set_bad hc v).same (fun _ _ => rfl)⟩, s.turn hc⟩
theorem PoolR.app_bad (h : PoolR w B p V ks M) {c : Nat} (hc : c < 6) {v : Value} {l : List Bool} (ho : OwnO w2 B 4 1 v l.length (badV l)) (g : w.grownBy w2 (V.bad c).ownBlock) (hn : v.ownBlock = (V.bad c).ownBlock ∨ v.ownBlock = some w.heap.size) :
  PoolR (w2.setCell ⟨p, 6 + c * 10 + 2, none⟩ v) B p { V with bad := up V.bad c v } ks { M with bad := up M.bad c l } ∧ Turn p w V (w2.setCell ⟨p, 6 + c * 10 + 2, none⟩ v) { V with bad := up V.bad c v } ∧ w2.cell? ⟨p, 6 + c * 10 + 2, none⟩ = some (V.bad c) ∧ (∀ j, w2.frozen? ⟨p, j, none⟩ = false) ∧ Turn p w V w2 { V with bad := up V.bad c v } := by
 have s1 : Step p (.bad c) w V w2 { V with bad := up V.bad c v } := Step.of_grown (r0 := (.bad c)) (v := (V.bad c)) (v' := v) h.o hc (by simp) rfl g hn (by show (up V.bad c v c).ownBlock = _; rw [up_at]) (fun r hr => by cases r <;> first | rfl | (rename_i i; show (up V.bad c v i).ownBlock = _; rw [up_off _ _ (fun e => hr (by rw [e]))]; rfl))
 have O2 := h.o.st_bad hc (v := v) (l := l) ho s1
 have hbp : w2.heap[p]? = w.heap[p]? := g.block p h.b.lt fun e => absurd (h.o.apart .pool (.bad c) p trivial hc rfl e.symm) (by simp)
 have B2 := h.b.keep hbp
 have s3 := Step.cell (w := w2) (V := { V with bad := up V.bad c v }) (V' := { V with bad := up V.bad c v }) (p := p) v (6 + c * 10 + 2) fun _ => rfl
 exact ⟨⟨O2.st_same s3, (B2.set_bad hc v).same fun _ _ => rfl⟩, (s1.turn hc).trans (s3.turn trivial), B2.cellC (k := 2) hc (by decide), B2.frozen, s1.turn hc⟩
theorem PoolR.put_wait (h : PoolR w B p V ks M) {v : Value} {l : List Nat} (ho : OwnO w B 3 1 v l.length (natV l)) (hn : ∀ k, v.ownBlock = some k → V.wait.ownBlock = some k ∨ w.heap.size ≤ k) :
  PoolR (w.setCell ⟨p, 66, none⟩ v) B p { V with wait := v } ks { M with wait := l } ∧ Turn p w V (w.setCell ⟨p, 66, none⟩ v) { V with wait := v } := by
 have s := Step.store w V p (66) v .wait (V' := { V with wait := v }) (fun r hr => by cases r <;> first | rfl | exact absurd rfl hr) (fun k hk => by
  have hk : v.ownBlock = some k := hk
  skip
  exact hn k hk)
 have ho' : OwnO (w.setCell ⟨p, 66, none⟩ v) B 3 1 v l.length (natV l) := ho.keep fun k hk => Below.heap_setCell w ⟨p, 66, none⟩ v k (fun e => by
  have e : k = p := e
  rcases hn k hk with h1 | h1
  ·exact absurd (h.o.apart .wait .pool k trivial trivial h1 (by rw [e]; rfl)) (by simp)
  ·have := (ho.lt k hk).2
   omega)
 exact ⟨⟨h.o.st_wait ho' s, (h.b.set_wait v).same (fun _ _ => rfl)⟩, s.turn trivial⟩
theorem PoolR.app_wait (h : PoolR w B p V ks M) {v : Value} {l : List Nat} (ho : OwnO w2 B 3 1 v l.length (natV l)) (g : w.grownBy w2 V.wait.ownBlock) (hn : v.ownBlock = V.wait.ownBlock ∨ v.ownBlock = some w.heap.size) :
  PoolR (w2.setCell ⟨p, 66, none⟩ v) B p { V with wait := v } ks { M with wait := l } ∧ Turn p w V (w2.setCell ⟨p, 66, none⟩ v) { V with wait := v } ∧ w2.cell? ⟨p, 66, none⟩ = some V.wait ∧ (∀ j, w2.frozen? ⟨p, j, none⟩ = false) ∧ Turn p w V w2 { V with wait := v } := by
 have s1 : Step p .wait w V w2 { V with wait := v } := Step.of_grown (r0 := .wait) (v := V.wait) (v' := v) h.o trivial (by simp) rfl g hn (rfl) (fun r hr => by cases r <;> first | rfl | exact absurd rfl hr)
 have O2 := h.o.st_wait (v := v) (l := l) ho s1
 have hbp : w2.heap[p]? = w.heap[p]? := g.block p h.b.lt fun e => absurd (h.o.apart .pool .wait p trivial trivial rfl e.symm) (by simp)
 have B2 := h.b.keep hbp
 have s3 := Step.cell (w := w2) (V := { V with wait := v }) (V' := { V with wait := v }) (p := p) v (66) fun _ => rfl
 exact ⟨⟨O2.st_same s3, (B2.set_wait v).same fun _ _ => rfl⟩, (s1.turn trivial).trans (s3.turn trivial), B2.cell (j := 66) (by decide), B2.frozen, s1.turn trivial⟩
theorem PoolR.app_deeds (h : PoolR w B p V ks M) {v : Value} {l : List De} (ho : OwnO w2 B 71 7 v l.length (deV l)) (g : w.grownBy w2 V.deeds.ownBlock) (hn : v.ownBlock = V.deeds.ownBlock ∨ v.ownBlock = some w.heap.size) :
  PoolR (w2.setCell ⟨p, 67, none⟩ v) B p { V with deeds := v } ks { M with deeds := l } ∧ Turn p w V (w2.setCell ⟨p, 67, none⟩ v) { V with deeds := v } ∧ w2.cell? ⟨p, 67, none⟩ = some V.deeds ∧ (∀ j, w2.frozen? ⟨p, j, none⟩ = false) ∧ Turn p w V w2 { V with deeds := v } := by
 have s1 : Step p .deeds w V w2 { V with deeds := v } := Step.of_grown (r0 := .deeds) (v := V.deeds) (v' := v) h.o trivial (by simp) rfl g hn (rfl) (fun r hr => by cases r <;> first | rfl | exact absurd rfl hr)
 have O2 := h.o.st_deeds (v := v) (l := l) ho s1
 have hbp : w2.heap[p]? = w.heap[p]? := g.block p h.b.lt fun e => absurd (h.o.apart .pool .deeds p trivial trivial rfl e.symm) (by simp)
 have B2 := h.b.keep hbp
 have s3 := Step.cell (w := w2) (V := { V with deeds := v }) (V' := { V with deeds := v }) (p := p) v (67) fun _ => rfl
 exact ⟨⟨O2.st_same s3, (B2.set_deeds v).same fun _ _ => rfl⟩, (s1.turn trivial).trans (s3.turn trivial), B2.cell (j := 67) (by decide), B2.frozen, s1.turn trivial⟩
theorem PoolR.drop (h : PoolR w B p V ks M) {c : Nat} (hc : c < 6) {x : St} {xs : List St} {y : Bool} {ys : List Bool} (hX : M.pend c = x :: xs) (hY : M.bad c = y :: ys) {A A' : Option Addr} {n k n' k' : Nat} (e1 : V.pend c = .slice A n k) (e2 : V.bad c = .slice A' n' k') :
  ∃ V', PoolR ((w.setCell ⟨p, 6 + c * 10 + 1, none⟩ (.slice (if k = 1 then A else A.map (·.add 3)) (n - 1) (k - 1))).setCell ⟨p, 6 + c * 10 + 2, none⟩ (.slice (if k' = 1 then A' else A'.map (·.add 1)) (n' - 1) (k' - 1))) B p V' ks (M.drop c xs ys) ∧
   Turn p w V ((w.setCell ⟨p, 6 + c * 10 + 1, none⟩ (.slice (if k = 1 then A else A.map (·.add 3)) (n - 1) (k - 1))).setCell ⟨p, 6 + c * 10 + 2, none⟩ (.slice (if k' = 1 then A' else A'.map (·.add 1)) (n' - 1) (k' - 1))) V' := by
 have own : ∀ {A : Option Addr} {n k m q : Nat} (j : Nat), (Value.slice (if k = 1 then A else A.map (·.add j)) m q).ownBlock = (Value.slice A n k).ownBlock := fun {A n k m q} j => by
  split
  ·cases A <;> rfl
  ·cases A with
   | none => rfl
   | some a =>
    show some (a.add j).block = some a.block
    rw [block_of_add]
 have o1 := h.o.pend c hc
 rw [hX, e1] at o1
 obtain ⟨_, _, en, _⟩ := o1.form
 injection en with _ en _
 subst en
 have c1 := o1.cut (k := 1) (by simp)
 have r1 := h.put_pend hc (v := .slice (if k = 1 then A else A.map (·.add 3)) ((x :: xs).length - 1) (k - 1)) (l := xs) (by simpa [stV] using c1) (fun q hq => .inl (by rw [e1, ← hq]; exact (own 3).symm))
 have o2 := r1.1.o.bad c hc
 rw [show ({ M with pend := up M.pend c xs } : MV).bad c = y :: ys from hY, show ({ V with pend := up V.pend c (.slice (if k = 1 then A else A.map (·.add 3)) ((x :: xs).length - 1) (k - 1)) } : PV).bad c = .slice A' n' k' from e2] at o2
 obtain ⟨_, _, en, _⟩ := o2.form
 injection en with _ en _
 subst en
 have c2 := o2.cut (k := 1) (by simp)
 have r2 := r1.1.put_bad hc (v := .slice (if k' = 1 then A' else A'.map (·.add 1)) ((y :: ys).length - 1) (k' - 1)) (l := ys) (by simpa [badV] using c2) (fun q hq => .inl (by rw [show ({ V with pend := up V.pend c (.slice (if k = 1 then A else A.map (·.add 3)) ((x :: xs).length - 1) (k - 1)) } : PV).bad c = .slice A' (y :: ys).length k' from e2, ← hq]; exact (own 1).symm))
 exact ⟨_, r2.1, r1.2.trans r2.2⟩
theorem deed_info : (Tryz.prog.info? 71).map (fun i => (i.zero, i.size, i.bytes)) = some (some (.agg #[.int .i64 0, .int .i64 0, .string ⟨#[]⟩, .string ⟨#[]⟩, .int .i64 0, .string ⟨#[]⟩, .int .i64 0]), 7, 80) := by kernel_rfl
theorem reads_one {g size : Nat} {t : TypeId} {cs : List Value} (h : Blk w g t cs.toArray) (hs : cs.length = size) : Reads w w.heap.size size (some ⟨g, 0, none⟩) 1 cs :=
 ⟨by omega, fun _ => ⟨_, rfl, h.lt, fun j u hj => by rw [Addr.add_lit, Nat.zero_add]; exact h.cell_ j u (by simpa using hj)⟩⟩
end
section
variable {f : Fr} {b : PB} {N : Nat}
theorem Ok.srv (h : Ok (f, b) N) {c : Nat} (hc : c < 6) (h0 : 0 ≤ (f.c c).srv) : ∃ s : Nat, (f.c c).srv = (s : Int) ∧ s < f.owner.length ∧ s < b.known.length ∧ s ≤ 1000 := by
 obtain ⟨w, rb⟩ := h.rb
 rcases h.fi.fo.cl c hc with h1 | ⟨s, h1, h2, _⟩
 ·exact absurd h1 (by show ¬ (f.c c).srv = -1; omega)
 ·have h3 := rb.kn
  have h4 := rb.ses
  have h5 := rb.good.few
  simp only at h1 h2 h3 h4 h5
  exact ⟨s, h2, h1, by omega, by omega⟩
theorem Ok.ses8 (h : Ok (f, b) N) : b.w.ses.length ≤ 8 := by
 obtain ⟨w, rb⟩ := h.rb
 exact rb.good.few
theorem Ok.own6 (h : Ok (f, b) N) : b.own.length = 6 := by
 obtain ⟨w, rb⟩ := h.rb
 exact rb.own6
theorem Ok.ow (h : Ok (f, b) N) {c : Nat} (hc : c < 6) : pairsB 9 6 (b.ow c).set = true ∧ pairsB 11 6 (b.ow c).pre = true ∧ 0 ≤ (b.ow c).st ∧ (b.ow c).st ≤ 2 := by
 obtain ⟨w, rb⟩ := h.rb
 rcases h.fi.fo.cl c hc with h1 | ⟨s, _, h2, _⟩
 ·obtain ⟨_, e, h3, h4⟩ := rb.loose c hc h1
  exact ⟨h3, h4, by rw [e]; exact Int.le_refl 0, by rw [e]; show (0 : Int) ≤ 2; decide⟩
 ·have hg := rb.goodSe h.fi.fo hc h2
  have e := (rb.bound c s hc h2).2
  rw [e]
  exact ⟨hg.set, hg.pre, hg.st0, hg.st2⟩
theorem Ok.sorted (h : Ok (f, b) N) {c : Nat} (hc : c < 6) : (Sorted (b.ow c).set ∧ Sorted (b.ow c).pre) ∧ (b.ow c).set.length < 4398046510976 ∧ (b.ow c).pre.length < 4398046510976 := by
 obtain ⟨h1, h2, _⟩ := h.ow hc
 obtain ⟨_, s1, l1⟩ := (pairs_iff _ _ _).1 h1
 obtain ⟨_, s2, l2⟩ := (pairs_iff _ _ _).1 h2
 exact ⟨⟨s1, s2⟩, by omega, by omega⟩
theorem Ok.text (h : Ok (f, b) N) {s : Nat} (x : St) : (poDo b.w s x).2.text.size ≤ maxLen := by
 obtain ⟨w, rb⟩ := h.rb
 unfold poDo
 split
 ·rename_i h0
  have hs : s < b.w.ses.length := by
   unfold doE at h0
   split at h0
   ·split at h0
    ·rename_i h1
     have := h1.2
     omega
    ·cases h0
   ·cases h0
  exact Nat.le_trans (ans_size (doW_ok rb.good hs x)) (by decide)
 ·show tLost.size ≤ maxLen
  decide
theorem deV_app (l : List De) (d : De) : deV (l ++ [d]) = deV l ++ deV [d] := by unfold deV; rw [List.flatMap_append]
theorem ready_srv {c : Nat} (h : ready f c = true) (hn : needs f c = true) : 0 ≤ (f.c c).srv := by
 unfold ready at h
 rw [hn] at h
 rw [Bool.and_eq_true] at h
 simpa using h.2
end
structure NextL (w0 wx : World) (B p : Nat) (V0 : PV) (M : MV) (z5 z8 : Option (Nat × Array Value)) : Prop where
 r : ∃ V' ks', PoolR wx B p V' ks' M ∧ Turn p w0 V0 wx V' ∧ ∀ y cs, z5 = some (y, cs) → ¬ V'.mine p y
 b5 : ∀ y cs, z5 = some (y, cs) → Blk wx y 41 cs ∧ w0.heap.size ≤ y
 b8 : ∀ y cs, z8 = some (y, cs) → Blk wx y 46 cs ∧ w0.heap.size ≤ y
section
variable {w0 wx wy : World} {B p : Nat} {V0 V1 : PV} {ks1 : List KV} {M M' : MV} {z5 z8 : Option (Nat × Array Value)}
theorem NextL.sz (h : NextL w0 wx B p V0 M z5 z8) : w0.heap.size ≤ wx.heap.size := by
 obtain ⟨_, _, _, t, _⟩ := h.r
 exact t.size
theorem NextL.start {ks0 : List KV} (h : PoolR w0 B p V0 ks0 M) : NextL w0 w0 B p V0 M none none :=
 ⟨⟨V0, ks0, h, Turn.refl _ _ _, fun _ _ h => (by cases h)⟩, fun _ _ h => (by cases h), fun _ _ h => (by cases h)⟩
theorem NextL.keep (h : NextL w0 wx B p V0 M z5 z8) (hb : Below wx.heap.size wx wy) : NextL w0 wy B p V0 M z5 z8 := by
 obtain ⟨V', ks', r, t, m⟩ := h.r
 exact ⟨⟨V', ks', r.below hb, t.below hb, m⟩, fun y cs e => ⟨(h.b5 y cs e).1.keep hb, (h.b5 y cs e).2⟩, fun y cs e => ⟨(h.b8 y cs e).1.keep hb, (h.b8 y cs e).2⟩⟩
theorem NextL.did (h5 : ∀ y cs, z5 = some (y, cs) → ¬ V1.mine p y) (r1 : PoolR wx B p V1 ks1 M) (t1 : Turn p w0 V0 wx V1) (b5 : ∀ y cs, z5 = some (y, cs) → Blk wx y 41 cs ∧ w0.heap.size ≤ y) (b8 : ∀ y cs, z8 = some (y, cs) → Blk wx y 46 cs ∧ w0.heap.size ≤ y)
  {V2 : PV} {ks2 : List KV} (r2 : PoolR wy B p V2 ks2 M') (t2 : Turn p wx V1 wy V2) : NextL w0 wy B p V0 M' z5 z8 :=
 ⟨⟨V2, ks2, r2, t1.trans t2, fun y cs e => t2.not (b5 y cs e).1.lt (h5 y cs e)⟩, fun y cs e => ⟨t2.box (b5 y cs e).1 (h5 y cs e), (b5 y cs e).2⟩, fun y cs e => ⟨t2.box (b8 y cs e).1 (r1.o.notBox (b8 y cs e).1 ty_ans), (b8 y cs e).2⟩⟩
theorem NextL.f5 (h : NextL w0 wx B p V0 M none z8) (cs : Array Value) : NextL w0 (wx.alloc (.cells cs 41)) B p V0 M (some (wx.heap.size, cs)) z8 := by
 have k := h.keep (boxed wx (.cells cs 41))
 obtain ⟨V', ks', r, t, m⟩ := h.r
 exact ⟨⟨V', ks', r.below (boxed _ _), t.below (boxed _ _), fun y cs e => (by injection e with e; injection e with e1 e2; subst e1; exact r.o.fresh (Nat.le_refl _))⟩,
  fun y cs e => (by injection e with e; injection e with e1 e2; subst e1 e2; exact ⟨Blk.new wx _ _, t.size⟩), k.b8⟩
theorem NextL.f8 (h : NextL w0 wx B p V0 M z5 none) (cs : Array Value) : NextL w0 (wx.alloc (.cells cs 46)) B p V0 M z5 (some (wx.heap.size, cs)) := by
 have k := h.keep (boxed wx (.cells cs 46))
 obtain ⟨V', ks', r, t, m⟩ := h.r
 exact ⟨k.r, k.b5, fun y cs e => (by injection e with e; injection e with e1 e2; subst e1 e2; exact ⟨Blk.new wx _ _, t.size⟩)⟩
theorem NextL.fin5 {y : Nat} {cs : Array Value} (h : NextL w0 wx B p V0 M (some (y, cs)) none) (a b c : Value) (e : wy = ((wx.setCell ⟨y, 0, none⟩ a).setCell ⟨y, 1, none⟩ b).setCell ⟨y, 2, none⟩ c) : NextL w0 wy B p V0 M (some (y, ((cs.setIfInBounds 0 a).setIfInBounds 1 b).setIfInBounds 2 c)) none := by
 subst e
 obtain ⟨V', ks', r, t, m⟩ := h.r
 obtain ⟨b5, l5⟩ := h.b5 _ _ rfl
 have hm := m _ _ rfl
 refine ⟨⟨V', ks', ((r.boxN b5 hm (by decide) (by decide) 0 a).boxN (b5.set_ 0 a) hm (by decide) (by decide) 1 b).boxN ((b5.set_ 0 a).set_ 1 b) hm (by decide) (by decide) 2 c, ((t.set_new l5 0 a).set_new l5 1 b).set_new l5 2 c, fun y cs e => ?_⟩, fun y cs e => ?_, fun _ _ e => (by cases e)⟩
 ·injection e with e
  injection e with e1 e2
  subst e1
  exact hm
 ·injection e with e
  injection e with e1 e2
  subst e1 e2
  exact ⟨((b5.set_ 0 a).set_ 1 b).set_ 2 c, l5⟩
theorem NextL.fin8 {y : Nat} {cs : Array Value} (h : NextL w0 wx B p V0 M z5 (some (y, cs))) (a b c : Value) (e : wy = ((wx.setCell ⟨y, 0, none⟩ a).setCell ⟨y, 1, none⟩ b).setCell ⟨y, 2, none⟩ c) : NextL w0 wy B p V0 M z5 (some (y, ((cs.setIfInBounds 0 a).setIfInBounds 1 b).setIfInBounds 2 c)) := by
 subst e
 obtain ⟨V', ks', r, t, m⟩ := h.r
 obtain ⟨b8, l8⟩ := h.b8 _ _ rfl
 refine ⟨⟨V', ks', ((r.box b8 ty_ans (by decide) (by decide) 0 a).box (b8.set_ 0 a) ty_ans (by decide) (by decide) 1 b).box ((b8.set_ 0 a).set_ 1 b) ty_ans (by decide) (by decide) 2 c, ((t.set_new l8 0 a).set_new l8 1 b).set_new l8 2 c, m⟩, fun z ds e => ?_, fun z ds e => ?_⟩
 ·obtain ⟨b5, l5⟩ := h.b5 z ds e
  have ne : z ≠ y := b5.ne_ b8 (by decide)
  exact ⟨((b5.far (p := ⟨y, 0, none⟩) ne a).far (p := ⟨y, 1, none⟩) ne b).far (p := ⟨y, 2, none⟩) ne c, l5⟩
 ·injection e with e
  injection e with e1 e2
  subst e1 e2
  exact ⟨((b8.set_ 0 a).set_ 1 b).set_ 2 c, l8⟩
end
end Go.Proofs.YtjbnfigpflambacGreatDoor
/- pool.Run's end: the outcome is gathered. -/
namespace Go.Proofs.YtjbnfigpflambacGreatDoor
open Go.ChangeShapes Go.WideShapes Go.ChangeAt Go.RowKit
structure RO (w wx : World) : Prop where
 bel : Below w.heap.size w wx
 out : Blk wx (w.heap.size + 1) 29 #[.slice none 0 0, .slice none 0 0, .slice none 0 0]
theorem ty_out (r : Role) : r.ty ≠ 29 := by cases r <;> simp [Role.ty]
theorem RO.turn {w x wx : World} {p : Nat} {V V' : PV} {ks : List KV} {M : MV} (h : RO w x) (r : PoolR x w.heap.size p V ks M) (t : Turn p x V wx V') : RO w wx :=
 ⟨h.bel.trans (t.bel h.bel.size fun _ hk => (r.o.lt hk).1), t.box h.out (r.o.notBox h.out ty_out)⟩
theorem RO.keep {w x wx : World} (h : RO w x) (hb : Below x.heap.size x wx) : RO w wx := ⟨below_step h.bel (Nat.le_refl _) hb, h.out.keep hb⟩
theorem OwnO.ofKeeps {w w' : World} {B : Nat} {e : TypeId} {size n : Nat} {v : Value} {xs : List Value} (h : OwnO w B e size v n xs) (k : Keeps e w w') : OwnO w' B e size v n xs :=
 h.keep fun g hg => by
  obtain ⟨cs, b⟩ := h.row g hg
  exact (k g cs (0, 0) b).trans b.symm
theorem Blk.ofKeeps {w w' : World} {q : Nat} {t : TypeId} {cs : Array Value} (h : Blk w q t cs) (k : Keeps t w w') : Blk w' q t cs := k q cs (0, 0) h
theorem OwnO.grow {w w' : World} {B : Nat} {e : TypeId} {size n : Nat} {v : Value} {xs : List Value} (h : OwnO w B e size v n xs) (g : w.grownBy w' v.ownBlock) {t : TypeId} (hne : e ≠ t) : Keeps t w w' :=
 Keeps.grown g (fun q hq => by obtain ⟨cs, b⟩ := h.row q hq; exact ⟨cs, (0, 0), b⟩) hne
theorem OwnO.bel {w0 w w' : World} {B : Nat} {e : TypeId} {size n : Nat} {v : Value} {xs : List Value} (h : OwnO w B e size v n xs) (g : w.grownBy w' v.ownBlock) (hb : Below B w0 w) (hB : B ≤ w.heap.size) : Below B w0 w' :=
 hb.trans ⟨g.os, g.tape, g.output, g.size, fun k hk => g.block k (by omega) fun e => by have := (h.lt k e.symm).1; omega⟩
structure RunE (w0 wx : World) (p : Nat) (V : PV) (M : MV) (z b s : Nat) (vs vr : Value) : Prop where
 ro : RO w0 wx
 pb : PoolB wx p M V
 buf : ∀ j, b ≤ j → j < 6 → OwnO wx w0.heap.size 5 1 (V.buf j) (M.sent j).size (Lib.strCells (M.sent j))
 ap : ∀ i j k, i < 6 → j < 6 → i ≠ j → (V.buf i).ownBlock = some k → (V.buf j).ownBlock ≠ some k
 deeds : OwnO wx w0.heap.size 71 7 V.deeds M.deeds.length (deV M.deeds)
 rows : OPL wx w0.heap.size vr M.w.rows
 box : Blk wx z 29 #[vs, V.deeds, vr]
 sent : OwnO wx w0.heap.size 9 1 vs s ((List.range s).map fun c => .string (M.sent c))
 ne : z ≠ w0.heap.size + 1
 zl : w0.heap.size ≤ z
section
variable {w0 wx wy : World} {p z b s : Nat} {V : PV} {M : MV} {vs vr : Value}
theorem RunE.keep (h : RunE w0 wx p V M z b s vs vr) (hb : Below wx.heap.size wx wy) : RunE w0 wy p V M z b s vs vr :=
 ⟨h.ro.keep hb, h.pb.keep (hb.block p h.pb.lt), fun j h1 h2 => (h.buf j h1 h2).below hb, h.ap, h.deeds.below hb, h.rows.keeps (.of_below hb), h.box.keep hb, h.sent.below hb, h.ne, h.zl⟩
theorem RunE.pblk (h : RunE w0 wx p V M z b s vs vr) : ∃ cs, Blk wx p 101 cs := by
 obtain ⟨cs, hb, _⟩ := h.pb.blk
 exact ⟨cs, hb⟩
theorem RunE.read (h : RunE w0 wx p V M z b s vs vr) (h6 : b < 6) (g : wx.grownBy wy (V.buf b).ownBlock) : RunE w0 wy p V M z (b + 1) s vs vr := by
 have ho := h.buf b (Nat.le_refl _) h6
 have k : ∀ t, 5 ≠ t → Keeps t wx wy := fun t ht => ho.grow g ht
 obtain ⟨cs, pb⟩ := h.pblk
 refine ⟨⟨ho.bel g h.ro.bel h.ro.bel.size, h.ro.out.ofKeeps (k _ (by decide))⟩, h.pb.keep ((k _ (by decide) p cs (0, 0) pb).trans pb.symm), fun j h1 h2 => ?_, h.ap, h.deeds.ofKeeps (k _ (by decide)), h.rows.keeps (k _ (by decide)), h.box.ofKeeps (k _ (by decide)), h.sent.ofKeeps (k _ (by decide)), h.ne, h.zl⟩
 have hj := h.buf j (by omega) h2
 exact hj.keep fun q hq => g.block q (hj.lt q hq).2 fun e => h.ap b j q h6 h2 (by omega) e.symm hq
theorem RunE.add (h : RunE w0 wx p V M z b s vs vr) {v' : Value} (ho : OwnO wy w0.heap.size 9 1 v' (s + 1) (((List.range s).map fun c => .string (M.sent c)) ++ [.string (M.sent s)])) (g : wx.grownBy wy vs.ownBlock) :
  RunE w0 (wy.setCell ⟨z, 0, none⟩ v') p V M z b (s + 1) v' vr ∧ wy.cell? ⟨z, 0, none⟩ = some vs ∧ ∀ j, wy.frozen? ⟨z, j, none⟩ = false := by
 have hs := h.sent
 have k : ∀ t, 9 ≠ t → Keeps t wx wy := fun t ht => hs.grow g ht
 obtain ⟨cs, pb⟩ := h.pblk
 have box := h.box.ofKeeps (k _ (by decide))
 have k2 : ∀ t, 29 ≠ t → Keeps t wy (wy.setCell ⟨z, 0, none⟩ v') := fun t ht => Keeps.set_ (p := ⟨z, 0, none⟩) (show wy.heap[z]? = _ from box) ht v'
 have pb2 := pb.ofKeeps (k _ (by decide))
 refine ⟨⟨⟨(hs.bel g h.ro.bel h.ro.bel.size).setCell (p := ⟨z, 0, none⟩) h.zl v', (h.ro.out.ofKeeps (k _ (by decide))).far (p := ⟨z, 0, none⟩) (fun e => h.ne e.symm) v'⟩, (h.pb.keep ((k _ (by decide) p cs (0, 0) pb).trans pb.symm)).keep (((k2 _ (by decide)) p cs (0, 0) pb2).trans pb2.symm), fun j h1 h2 => ((h.buf j h1 h2).ofKeeps (k _ (by decide))).ofKeeps (k2 _ (by decide)), h.ap,
  (h.deeds.ofKeeps (k _ (by decide))).ofKeeps (k2 _ (by decide)), (h.rows.keeps (k _ (by decide))).keeps (k2 _ (by decide)), box.set_ 0 v', ?_, h.ne, h.zl⟩, box.cell_ 0 _ rfl, box.frozen⟩
 have : OwnO (wy.setCell ⟨z, 0, none⟩ v') w0.heap.size 9 1 v' (s + 1) _ := ho.ofKeeps (k2 _ (by decide))
 rw [List.range_succ, List.map_append]
 exact this
end
structure RunC (B : Nat) (wr wx : World) (rows : List Pr) (v : Option Value) (z : Option Nat) : Prop where
 hb : Below wr.heap.size wr wx
 vr : ∀ u, v = some u → OPL wx B u rows
 bz : ∀ y, z = some y → Blk wx y 29 #[.slice none 0 0, .slice none 0 0, .slice none 0 0] ∧ wr.heap.size ≤ y
section
variable {B : Nat} {wr wx wy : World} {rows : List Pr} {v : Option Value} {z : Option Nat}
theorem RunC.start (B : Nat) (wr : World) (rows : List Pr) : RunC B wr wr rows none none := ⟨Below.refl _ _, fun _ h => (by cases h), fun _ h => (by cases h)⟩
theorem RunC.keep (h : RunC B wr wx rows v z) (hb : Below wx.heap.size wx wy) : RunC B wr wy rows v z :=
 ⟨below_step h.hb (Nat.le_refl _) hb, fun u e => (h.vr u e).keeps (.of_below hb), fun y e => ⟨(h.bz y e).1.keep hb, (h.bz y e).2⟩⟩
theorem RunC.fv (h : RunC B wr wx rows none z) (hb : Below wx.heap.size wx wy) {u : Value} (o : OPL wy B u rows) : RunC B wr wy rows (some u) z := by
 have k := h.keep hb
 exact ⟨k.hb, fun u' e => (by injection e with e; subst e; exact o), k.bz⟩
theorem RunC.fz (h : RunC B wr wx rows v none) : RunC B wr (wx.alloc (.cells #[.slice none 0 0, .slice none 0 0, .slice none 0 0] 29)) rows v (some wx.heap.size) := by
 have k := h.keep (boxed wx (.cells #[.slice none 0 0, .slice none 0 0, .slice none 0 0] 29))
 exact ⟨k.hb, k.vr, fun y e => (by injection e with e; subst e; exact ⟨Blk.new wx _ _, h.hb.size⟩)⟩
theorem RunC.fin {w0 : World} {p : Nat} {V : PV} {ks : List KV} {M : MV} {u : Value} {y : Nat} (h : RunC w0.heap.size wr wx M.w.rows (some u) (some y)) (ho : RO w0 wr) (r : PoolR wr w0.heap.size p V ks M) (a d e : Value) (ha : a = .slice none 0 0) (hd : d = V.deeds) (he : e = u)
  (hw : wy = ((wx.setCell ⟨y, 0, none⟩ a).setCell ⟨y, 1, none⟩ d).setCell ⟨y, 2, none⟩ e) : RunE w0 wy p V M y 0 0 (.slice none 0 0) u := by
 subst ha hd he
 subst hw
 obtain ⟨b, l⟩ := h.bz _ rfl
 have k : ∀ t, 29 ≠ t → Keeps t wx (((wx.setCell ⟨y, 0, none⟩ (.slice none 0 0)).setCell ⟨y, 1, none⟩ V.deeds).setCell ⟨y, 2, none⟩ e) := fun t ht =>
  ((Keeps.set_ (p := ⟨y, 0, none⟩) (show wx.heap[y]? = _ from b) ht _).trans (Keeps.set_ (p := ⟨y, 1, none⟩) (b.set_ 0 _) ht _)).trans (Keeps.set_ (p := ⟨y, 2, none⟩) ((b.set_ 0 _).set_ 1 _) ht _)
 have r2 := r.below h.hb
 have o2 := ho.keep h.hb
 have nl : w0.heap.size + 1 < wr.heap.size := ho.out.lt
 have nz : y ≠ w0.heap.size + 1 := by omega
 have zl : w0.heap.size ≤ y := by omega
 have zl' : ∀ j, w0.heap.size ≤ (⟨y, j, none⟩ : Addr).block := fun _ => zl
 have nz' : ∀ j, w0.heap.size + 1 ≠ (⟨y, j, none⟩ : Addr).block := fun _ e => nz e.symm
 obtain ⟨cs, pb⟩ := r2.o.blk
 exact ⟨⟨((o2.bel.setCell (zl' 0) _).setCell (zl' 1) _).setCell (zl' 2) _, ((o2.out.far (nz' 0) _).far (nz' 1) _).far (nz' 2) _⟩, r2.b.keep ((k _ (by decide) p cs (0, 0) pb).trans pb.symm), fun j _ h6 => (r2.o.buf j h6).ofKeeps (k _ (by decide)),
  fun i j q hi hj hne e e' => hne (by have := r2.o.apart (.buf i) (.buf j) q hi hj e e'; injection this),
  r2.o.deeds.ofKeeps (k _ (by decide)), (h.vr _ rfl).keeps (k _ (by decide)), ((b.set_ 0 _).set_ 1 _).set_ 2 _, OwnO.nil _ _ _ _, nz, zl⟩
end
theorem str_info : (Tryz.prog.info? 9).map (fun i => (i.zero, i.size, i.bytes)) = some (some (.string ⟨#[]⟩), 1, 16) := by kernel_rfl
end Go.Proofs.YtjbnfigpflambacGreatDoor
