/- The pool in memory: what one turn leaves (a field of the pool or of a client is stored, a slice is appended to). (pool).needs: its walk; small words for what follows. -/
import Derived.Test.YtjbnfigpflambacGreatDoorG22
import Derived.Deep.DeepCutAuto
/- The pool in memory: what one turn leaves (a field of the pool or of a client is stored, a slice is appended to). -/
namespace Go.Proofs.YtjbnfigpflambacGreatDoor
open Go.ChangeShapes Go.WideShapes Go.ChangeAt Go.RowKit
section
variable {w w' : World} {B p : Nat} {V : PV} {ks : List KV} {M : MV}
theorem PoolO.st_bytes (h : PoolO w B p V ks M) (c : Nat) (x : ByteArray) (s : Step p (.pool) w V w' V) :
  PoolO w' B p V ks { M with bytes := up M.bytes c x } := by
 have hr : Role.ok (.pool) := trivial
 have kp := s.pairs h hr ty_pair
 have kS := s.pairs h hr ty_ses
 obtain ⟨cs, hs⟩ := h.ses
 obtain ⟨cb, hb⟩ := h.blk
 exact ⟨s.pool cb hb,
  h.lb,
  h.rows.keeps kp,
  ⟨cs, kS.own hs.own, hs.ses.keeps kp⟩,
  s.own h hr trivial (r := .owner) (by simp) (by simp) rfl h.owner,
  s.own h hr trivial (r := .known) (by simp) (by simp) rfl h.known,
  h.klen,
  fun s hs => ⟨(h.kn s hs).1.keeps kp, (h.kn s hs).2⟩,
  fun i hi => s.own h hr (r := .pend i) hi (by simp) (by simp) rfl (h.pend i hi),
  fun i hi => s.own h hr (r := .bad i) hi (by simp) (by simp) rfl (h.bad i hi),
  fun i hi => (h.ow i hi).keeps kp,
  h.adr,
  fun i hi => s.own h hr (r := .buf i) hi (by simp) (by simp) rfl (h.buf i hi),
  s.own h hr trivial (r := .wait) (by simp) (by simp) rfl h.wait,
  s.own h hr trivial (r := .deeds) (by simp) (by simp) rfl h.deeds,
  s.apart h hr⟩
theorem PoolO.st_srv (h : PoolO w B p V ks M) (c : Nat) (x : Int) (s : Step p (.pool) w V w' V) :
  PoolO w' B p V ks { M with srv := up M.srv c x } := by
 have hr : Role.ok (.pool) := trivial
 have kp := s.pairs h hr ty_pair
 have kS := s.pairs h hr ty_ses
 obtain ⟨cs, hs⟩ := h.ses
 obtain ⟨cb, hb⟩ := h.blk
 exact ⟨s.pool cb hb,
  h.lb,
  h.rows.keeps kp,
  ⟨cs, kS.own hs.own, hs.ses.keeps kp⟩,
  s.own h hr trivial (r := .owner) (by simp) (by simp) rfl h.owner,
  s.own h hr trivial (r := .known) (by simp) (by simp) rfl h.known,
  h.klen,
  fun s hs => ⟨(h.kn s hs).1.keeps kp, (h.kn s hs).2⟩,
  fun i hi => s.own h hr (r := .pend i) hi (by simp) (by simp) rfl (h.pend i hi),
  fun i hi => s.own h hr (r := .bad i) hi (by simp) (by simp) rfl (h.bad i hi),
  fun i hi => (h.ow i hi).keeps kp,
  h.adr,
  fun i hi => s.own h hr (r := .buf i) hi (by simp) (by simp) rfl (h.buf i hi),
  s.own h hr trivial (r := .wait) (by simp) (by simp) rfl h.wait,
  s.own h hr trivial (r := .deeds) (by simp) (by simp) rfl h.deeds,
  s.apart h hr⟩
theorem PoolO.st_same (h : PoolO w B p V ks M)  (s : Step p (.pool) w V w' V) :
  PoolO w' B p V ks M := by
 have hr : Role.ok (.pool) := trivial
 have kp := s.pairs h hr ty_pair
 have kS := s.pairs h hr ty_ses
 obtain ⟨cs, hs⟩ := h.ses
 obtain ⟨cb, hb⟩ := h.blk
 exact ⟨s.pool cb hb,
  h.lb,
  h.rows.keeps kp,
  ⟨cs, kS.own hs.own, hs.ses.keeps kp⟩,
  s.own h hr trivial (r := .owner) (by simp) (by simp) rfl h.owner,
  s.own h hr trivial (r := .known) (by simp) (by simp) rfl h.known,
  h.klen,
  fun s hs => ⟨(h.kn s hs).1.keeps kp, (h.kn s hs).2⟩,
  fun i hi => s.own h hr (r := .pend i) hi (by simp) (by simp) rfl (h.pend i hi),
  fun i hi => s.own h hr (r := .bad i) hi (by simp) (by simp) rfl (h.bad i hi),
  fun i hi => (h.ow i hi).keeps kp,
  h.adr,
  fun i hi => s.own h hr (r := .buf i) hi (by simp) (by simp) rfl (h.buf i hi),
  s.own h hr trivial (r := .wait) (by simp) (by simp) rfl h.wait,
  s.own h hr trivial (r := .deeds) (by simp) (by simp) rfl h.deeds,
  s.apart h hr⟩
theorem PoolO.st_st (h : PoolO w B p V ks M) (c : Nat) (x : Int) (s : Step p (.pool) w V w' V) :
  PoolO w' B p V ks { M with ow := up M.ow c ⟨(M.ow c).set, (M.ow c).pre, (M.ow c).sav, x⟩ } := by
 have hr : Role.ok (.pool) := trivial
 have kp := s.pairs h hr ty_pair
 have kS := s.pairs h hr ty_ses
 obtain ⟨cs, hs⟩ := h.ses
 obtain ⟨cb, hb⟩ := h.blk
 exact ⟨s.pool cb hb,
  h.lb,
  h.rows.keeps kp,
  ⟨cs, kS.own hs.own, hs.ses.keeps kp⟩,
  s.own h hr trivial (r := .owner) (by simp) (by simp) rfl h.owner,
  s.own h hr trivial (r := .known) (by simp) (by simp) rfl h.known,
  h.klen,
  fun s hs => ⟨(h.kn s hs).1.keeps kp, (h.kn s hs).2⟩,
  fun i hi => s.own h hr (r := .pend i) hi (by simp) (by simp) rfl (h.pend i hi),
  fun i hi => s.own h hr (r := .bad i) hi (by simp) (by simp) rfl (h.bad i hi),
  fun i hi => by
   by_cases e : i = c
   ·subst e
    show OwR w' B _ _ _ (up M.ow i _ i)
    rw [up_at]
    exact ⟨(h.ow i hi).set.keeps kp, (h.ow i hi).pre.keeps kp, (h.ow i hi).sav.keeps kp⟩
   ·show OwR w' B _ _ _ (up M.ow c _ i)
    rw [up_off _ _ e]
    exact (h.ow i hi).keeps kp,
  h.adr,
  fun i hi => s.own h hr (r := .buf i) hi (by simp) (by simp) rfl (h.buf i hi),
  s.own h hr trivial (r := .wait) (by simp) (by simp) rfl h.wait,
  s.own h hr trivial (r := .deeds) (by simp) (by simp) rfl h.deeds,
  s.apart h hr⟩
theorem PoolO.st_set (h : PoolO w B p V ks M) (c : Nat) {v : Value} {l : List Pr} (ho : OPL w' B v l) (s : Step p (.pool) w V w' { V with set := up V.set c v }) :
  PoolO w' B p { V with set := up V.set c v } ks { M with ow := up M.ow c ⟨l, (M.ow c).pre, (M.ow c).sav, (M.ow c).st⟩ } := by
 have hr : Role.ok (.pool) := trivial
 have kp := s.pairs h hr ty_pair
 have kS := s.pairs h hr ty_ses
 obtain ⟨cs, hs⟩ := h.ses
 obtain ⟨cb, hb⟩ := h.blk
 exact ⟨s.pool cb hb,
  h.lb,
  h.rows.keeps kp,
  ⟨cs, kS.own hs.own, hs.ses.keeps kp⟩,
  s.own h hr trivial (r := .owner) (by simp) (by simp) rfl h.owner,
  s.own h hr trivial (r := .known) (by simp) (by simp) rfl h.known,
  h.klen,
  fun s hs => ⟨(h.kn s hs).1.keeps kp, (h.kn s hs).2⟩,
  fun i hi => s.own h hr (r := .pend i) hi (by simp) (by simp) rfl (h.pend i hi),
  fun i hi => s.own h hr (r := .bad i) hi (by simp) (by simp) rfl (h.bad i hi),
  fun i hi => by
   by_cases e : i = c
   ·subst e
    show OwR w' B (up V.set i v i) (V.pre i) (V.sav i) (up M.ow i _ i)
    rw [up_at, up_at]
    exact ⟨ho, (h.ow i hi).pre.keeps kp, (h.ow i hi).sav.keeps kp⟩
   ·show OwR w' B (up V.set c v i) (V.pre i) (V.sav i) (up M.ow c _ i)
    rw [up_off _ _ e, up_off _ _ e]
    exact (h.ow i hi).keeps kp,
  h.adr,
  fun i hi => s.own h hr (r := .buf i) hi (by simp) (by simp) rfl (h.buf i hi),
  s.own h hr trivial (r := .wait) (by simp) (by simp) rfl h.wait,
  s.own h hr trivial (r := .deeds) (by simp) (by simp) rfl h.deeds,
  s.apart h hr⟩
theorem PoolO.st_pre (h : PoolO w B p V ks M) (c : Nat) {v : Value} {l : List Pr} (ho : OPL w' B v l) (s : Step p (.pool) w V w' { V with pre := up V.pre c v }) :
  PoolO w' B p { V with pre := up V.pre c v } ks { M with ow := up M.ow c ⟨(M.ow c).set, l, (M.ow c).sav, (M.ow c).st⟩ } := by
 have hr : Role.ok (.pool) := trivial
 have kp := s.pairs h hr ty_pair
 have kS := s.pairs h hr ty_ses
 obtain ⟨cs, hs⟩ := h.ses
 obtain ⟨cb, hb⟩ := h.blk
 exact ⟨s.pool cb hb,
  h.lb,
  h.rows.keeps kp,
  ⟨cs, kS.own hs.own, hs.ses.keeps kp⟩,
  s.own h hr trivial (r := .owner) (by simp) (by simp) rfl h.owner,
  s.own h hr trivial (r := .known) (by simp) (by simp) rfl h.known,
  h.klen,
  fun s hs => ⟨(h.kn s hs).1.keeps kp, (h.kn s hs).2⟩,
  fun i hi => s.own h hr (r := .pend i) hi (by simp) (by simp) rfl (h.pend i hi),
  fun i hi => s.own h hr (r := .bad i) hi (by simp) (by simp) rfl (h.bad i hi),
  fun i hi => by
   by_cases e : i = c
   ·subst e
    show OwR w' B (V.set i) (up V.pre i v i) (V.sav i) (up M.ow i _ i)
    rw [up_at, up_at]
    exact ⟨(h.ow i hi).set.keeps kp, ho, (h.ow i hi).sav.keeps kp⟩
   ·show OwR w' B (V.set i) (up V.pre c v i) (V.sav i) (up M.ow c _ i)
    rw [up_off _ _ e, up_off _ _ e]
    exact (h.ow i hi).keeps kp,
  h.adr,
  fun i hi => s.own h hr (r := .buf i) hi (by simp) (by simp) rfl (h.buf i hi),
  s.own h hr trivial (r := .wait) (by simp) (by simp) rfl h.wait,
  s.own h hr trivial (r := .deeds) (by simp) (by simp) rfl h.deeds,
  s.apart h hr⟩
theorem PoolO.st_sav (h : PoolO w B p V ks M) (c : Nat) {v : Value} {l : List Pr} (ho : OPL w' B v l) (s : Step p (.pool) w V w' { V with sav := up V.sav c v }) :
  PoolO w' B p { V with sav := up V.sav c v } ks { M with ow := up M.ow c ⟨(M.ow c).set, (M.ow c).pre, l, (M.ow c).st⟩ } := by
 have hr : Role.ok (.pool) := trivial
 have kp := s.pairs h hr ty_pair
 have kS := s.pairs h hr ty_ses
 obtain ⟨cs, hs⟩ := h.ses
 obtain ⟨cb, hb⟩ := h.blk
 exact ⟨s.pool cb hb,
  h.lb,
  h.rows.keeps kp,
  ⟨cs, kS.own hs.own, hs.ses.keeps kp⟩,
  s.own h hr trivial (r := .owner) (by simp) (by simp) rfl h.owner,
  s.own h hr trivial (r := .known) (by simp) (by simp) rfl h.known,
  h.klen,
  fun s hs => ⟨(h.kn s hs).1.keeps kp, (h.kn s hs).2⟩,
  fun i hi => s.own h hr (r := .pend i) hi (by simp) (by simp) rfl (h.pend i hi),
  fun i hi => s.own h hr (r := .bad i) hi (by simp) (by simp) rfl (h.bad i hi),
  fun i hi => by
   by_cases e : i = c
   ·subst e
    show OwR w' B (V.set i) (V.pre i) (up V.sav i v i) (up M.ow i _ i)
    rw [up_at, up_at]
    exact ⟨(h.ow i hi).set.keeps kp, (h.ow i hi).pre.keeps kp, ho⟩
   ·show OwR w' B (V.set i) (V.pre i) (up V.sav c v i) (up M.ow c _ i)
    rw [up_off _ _ e, up_off _ _ e]
    exact (h.ow i hi).keeps kp,
  h.adr,
  fun i hi => s.own h hr (r := .buf i) hi (by simp) (by simp) rfl (h.buf i hi),
  s.own h hr trivial (r := .wait) (by simp) (by simp) rfl h.wait,
  s.own h hr trivial (r := .deeds) (by simp) (by simp) rfl h.deeds,
  s.apart h hr⟩
theorem PoolO.st_rows (h : PoolO w B p V ks M) {v : Value} {l : List Pr} (ho : OPL w' B v l) (s : Step p (.pool) w V w' { V with rows := v }) :
  PoolO w' B p { V with rows := v } ks { M with w := ⟨l, M.w.ses⟩ } := by
 have hr : Role.ok (.pool) := trivial
 have kp := s.pairs h hr ty_pair
 have kS := s.pairs h hr ty_ses
 obtain ⟨cs, hs⟩ := h.ses
 obtain ⟨cb, hb⟩ := h.blk
 exact ⟨s.pool cb hb,
  h.lb,
  ho,
  ⟨cs, kS.own hs.own, hs.ses.keeps kp⟩,
  s.own h hr trivial (r := .owner) (by simp) (by simp) rfl h.owner,
  s.own h hr trivial (r := .known) (by simp) (by simp) rfl h.known,
  h.klen,
  fun s hs => ⟨(h.kn s hs).1.keeps kp, (h.kn s hs).2⟩,
  fun i hi => s.own h hr (r := .pend i) hi (by simp) (by simp) rfl (h.pend i hi),
  fun i hi => s.own h hr (r := .bad i) hi (by simp) (by simp) rfl (h.bad i hi),
  fun i hi => (h.ow i hi).keeps kp,
  h.adr,
  fun i hi => s.own h hr (r := .buf i) hi (by simp) (by simp) rfl (h.buf i hi),
  s.own h hr trivial (r := .wait) (by simp) (by simp) rfl h.wait,
  s.own h hr trivial (r := .deeds) (by simp) (by simp) rfl h.deeds,
  s.apart h hr⟩
theorem PoolO.st_ses (h : PoolO w B p V ks M) {v : Value} {l : List Se} (ho : ∃ cs, OSL w' B v l cs) (s : Step p (.pool) w V w' { V with ses := v }) :
  PoolO w' B p { V with ses := v } ks { M with w := ⟨M.w.rows, l⟩ } := by
 have hr : Role.ok (.pool) := trivial
 have kp := s.pairs h hr ty_pair
 have kS := s.pairs h hr ty_ses
 obtain ⟨cs, hs⟩ := h.ses
 obtain ⟨cb, hb⟩ := h.blk
 exact ⟨s.pool cb hb,
  h.lb,
  h.rows.keeps kp,
  ho,
  s.own h hr trivial (r := .owner) (by simp) (by simp) rfl h.owner,
  s.own h hr trivial (r := .known) (by simp) (by simp) rfl h.known,
  h.klen,
  fun s hs => ⟨(h.kn s hs).1.keeps kp, (h.kn s hs).2⟩,
  fun i hi => s.own h hr (r := .pend i) hi (by simp) (by simp) rfl (h.pend i hi),
  fun i hi => s.own h hr (r := .bad i) hi (by simp) (by simp) rfl (h.bad i hi),
  fun i hi => (h.ow i hi).keeps kp,
  h.adr,
  fun i hi => s.own h hr (r := .buf i) hi (by simp) (by simp) rfl (h.buf i hi),
  s.own h hr trivial (r := .wait) (by simp) (by simp) rfl h.wait,
  s.own h hr trivial (r := .deeds) (by simp) (by simp) rfl h.deeds,
  s.apart h hr⟩
theorem PoolO.st_adr (h : PoolO w B p V ks M) (c : Nat) (s : Step p (.pool) w V w' { V with adr := up V.adr c (.pointer (some ⟨p, 6 + c * 10 + 8, none⟩)) }) :
  PoolO w' B p { V with adr := up V.adr c (.pointer (some ⟨p, 6 + c * 10 + 8, none⟩)) } ks M := by
 have hr : Role.ok (.pool) := trivial
 have kp := s.pairs h hr ty_pair
 have kS := s.pairs h hr ty_ses
 obtain ⟨cs, hs⟩ := h.ses
 obtain ⟨cb, hb⟩ := h.blk
 exact ⟨s.pool cb hb,
  h.lb,
  h.rows.keeps kp,
  ⟨cs, kS.own hs.own, hs.ses.keeps kp⟩,
  s.own h hr trivial (r := .owner) (by simp) (by simp) rfl h.owner,
  s.own h hr trivial (r := .known) (by simp) (by simp) rfl h.known,
  h.klen,
  fun s hs => ⟨(h.kn s hs).1.keeps kp, (h.kn s hs).2⟩,
  fun i hi => s.own h hr (r := .pend i) hi (by simp) (by simp) rfl (h.pend i hi),
  fun i hi => s.own h hr (r := .bad i) hi (by simp) (by simp) rfl (h.bad i hi),
  fun i hi => (h.ow i hi).keeps kp,
  fun i hi => by
   by_cases e : i = c
   ·subst e
    exact .inr (up_at _ _ _)
   ·show up V.adr c _ i = _ ∨ up V.adr c _ i = _
    rw [up_off _ _ e]
    exact h.adr i hi,
  fun i hi => s.own h hr (r := .buf i) hi (by simp) (by simp) rfl (h.buf i hi),
  s.own h hr trivial (r := .wait) (by simp) (by simp) rfl h.wait,
  s.own h hr trivial (r := .deeds) (by simp) (by simp) rfl h.deeds,
  s.apart h hr⟩
theorem PoolO.st_pend (h : PoolO w B p V ks M) {c : Nat} (hc : c < 6) {v : Value} {l : List St} (ho : OwnO w' B 41 3 v l.length (stV l)) (s : Step p (.pend c) w V w' { V with pend := up V.pend c v }) :
  PoolO w' B p { V with pend := up V.pend c v } ks { M with pend := up M.pend c l } := by
 have hr : Role.ok (.pend c) := hc
 have kp := s.pairs h hr ty_pair
 have kS := s.pairs h hr ty_ses
 obtain ⟨cs, hs⟩ := h.ses
 obtain ⟨cb, hb⟩ := h.blk
 exact ⟨s.pool cb hb,
  h.lb,
  h.rows.keeps kp,
  ⟨cs, kS.own hs.own, hs.ses.keeps kp⟩,
  s.own h hr trivial (r := .owner) (by simp) (by simp) rfl h.owner,
  s.own h hr trivial (r := .known) (by simp) (by simp) rfl h.known,
  h.klen,
  fun s hs => ⟨(h.kn s hs).1.keeps kp, (h.kn s hs).2⟩,
  fun i hi => by
   by_cases e : i = c
   ·subst e
    show OwnO w' B _ 3 (up V.pend i v i) (up M.pend i l i).length (stV (up M.pend i l i))
    rw [up_at, up_at]
    exact ho
   ·show OwnO w' B _ 3 (up V.pend c v i) (up M.pend c l i).length (stV (up M.pend c l i))
    rw [up_off _ _ e, up_off _ _ e]
    exact s.own h hr (r := .pend i) hi (by simp [e]) (by simp) rfl (h.pend i hi),
  fun i hi => s.own h hr (r := .bad i) hi (by simp) (by simp) rfl (h.bad i hi),
  fun i hi => (h.ow i hi).keeps kp,
  h.adr,
  fun i hi => s.own h hr (r := .buf i) hi (by simp) (by simp) rfl (h.buf i hi),
  s.own h hr trivial (r := .wait) (by simp) (by simp) rfl h.wait,
  s.own h hr trivial (r := .deeds) (by simp) (by simp) rfl h.deeds,
  s.apart h hr⟩
theorem PoolO.st_bad (h : PoolO w B p V ks M) {c : Nat} (hc : c < 6) {v : Value} {l : List Bool} (ho : OwnO w' B 4 1 v l.length (badV l)) (s : Step p (.bad c) w V w' { V with bad := up V.bad c v }) :
  PoolO w' B p { V with bad := up V.bad c v } ks { M with bad := up M.bad c l } := by
 have hr : Role.ok (.bad c) := hc
 have kp := s.pairs h hr ty_pair
 have kS := s.pairs h hr ty_ses
 obtain ⟨cs, hs⟩ := h.ses
 obtain ⟨cb, hb⟩ := h.blk
 exact ⟨s.pool cb hb,
  h.lb,
  h.rows.keeps kp,
  ⟨cs, kS.own hs.own, hs.ses.keeps kp⟩,
  s.own h hr trivial (r := .owner) (by simp) (by simp) rfl h.owner,
  s.own h hr trivial (r := .known) (by simp) (by simp) rfl h.known,
  h.klen,
  fun s hs => ⟨(h.kn s hs).1.keeps kp, (h.kn s hs).2⟩,
  fun i hi => s.own h hr (r := .pend i) hi (by simp) (by simp) rfl (h.pend i hi),
  fun i hi => by
   by_cases e : i = c
   ·subst e
    show OwnO w' B _ 1 (up V.bad i v i) (up M.bad i l i).length (badV (up M.bad i l i))
    rw [up_at, up_at]
    exact ho
   ·show OwnO w' B _ 1 (up V.bad c v i) (up M.bad c l i).length (badV (up M.bad c l i))
    rw [up_off _ _ e, up_off _ _ e]
    exact s.own h hr (r := .bad i) hi (by simp [e]) (by simp) rfl (h.bad i hi),
  fun i hi => (h.ow i hi).keeps kp,
  h.adr,
  fun i hi => s.own h hr (r := .buf i) hi (by simp) (by simp) rfl (h.buf i hi),
  s.own h hr trivial (r := .wait) (by simp) (by simp) rfl h.wait,
  s.own h hr trivial (r := .deeds) (by simp) (by simp) rfl h.deeds,
  s.apart h hr⟩
theorem PoolO.st_buf (h : PoolO w B p V ks M) {c : Nat} (hc : c < 6) {v : Value} {t : ByteArray} (ho : OwnO w' B 5 1 v t.size (Lib.strCells t)) (s : Step p (.buf c) w V w' { V with buf := up V.buf c v }) :
  PoolO w' B p { V with buf := up V.buf c v } ks { M with sent := up M.sent c t } := by
 have hr : Role.ok (.buf c) := hc
 have kp := s.pairs h hr ty_pair
 have kS := s.pairs h hr ty_ses
 obtain ⟨cs, hs⟩ := h.ses
 obtain ⟨cb, hb⟩ := h.blk
 exact ⟨s.pool cb hb,
  h.lb,
  h.rows.keeps kp,
  ⟨cs, kS.own hs.own, hs.ses.keeps kp⟩,
  s.own h hr trivial (r := .owner) (by simp) (by simp) rfl h.owner,
  s.own h hr trivial (r := .known) (by simp) (by simp) rfl h.known,
  h.klen,
  fun s hs => ⟨(h.kn s hs).1.keeps kp, (h.kn s hs).2⟩,
  fun i hi => s.own h hr (r := .pend i) hi (by simp) (by simp) rfl (h.pend i hi),
  fun i hi => s.own h hr (r := .bad i) hi (by simp) (by simp) rfl (h.bad i hi),
  fun i hi => (h.ow i hi).keeps kp,
  h.adr,
  fun i hi => by
   by_cases e : i = c
   ·subst e
    show OwnO w' B _ 1 (up V.buf i v i) (up M.sent i t i).size (Lib.strCells (up M.sent i t i))
    rw [up_at, up_at]
    exact ho
   ·show OwnO w' B _ 1 (up V.buf c v i) (up M.sent c t i).size (Lib.strCells (up M.sent c t i))
    rw [up_off _ _ e, up_off _ _ e]
    exact s.own h hr (r := .buf i) hi (by simp [e]) (by simp) rfl (h.buf i hi),
  s.own h hr trivial (r := .wait) (by simp) (by simp) rfl h.wait,
  s.own h hr trivial (r := .deeds) (by simp) (by simp) rfl h.deeds,
  s.apart h hr⟩
theorem PoolO.st_owner (h : PoolO w B p V ks M) {v : Value} {l : List Int} (ho : OwnO w' B 3 1 v l.length (intV l)) (s : Step p (.owner) w V w' { V with owner := v }) :
  PoolO w' B p { V with owner := v } ks { M with owner := l } := by
 have hr : Role.ok (.owner) := trivial
 have kp := s.pairs h hr ty_pair
 have kS := s.pairs h hr ty_ses
 obtain ⟨cs, hs⟩ := h.ses
 obtain ⟨cb, hb⟩ := h.blk
 exact ⟨s.pool cb hb,
  h.lb,
  h.rows.keeps kp,
  ⟨cs, kS.own hs.own, hs.ses.keeps kp⟩,
  ho,
  s.own h hr trivial (r := .known) (by simp) (by simp) rfl h.known,
  h.klen,
  fun s hs => ⟨(h.kn s hs).1.keeps kp, (h.kn s hs).2⟩,
  fun i hi => s.own h hr (r := .pend i) hi (by simp) (by simp) rfl (h.pend i hi),
  fun i hi => s.own h hr (r := .bad i) hi (by simp) (by simp) rfl (h.bad i hi),
  fun i hi => (h.ow i hi).keeps kp,
  h.adr,
  fun i hi => s.own h hr (r := .buf i) hi (by simp) (by simp) rfl (h.buf i hi),
  s.own h hr trivial (r := .wait) (by simp) (by simp) rfl h.wait,
  s.own h hr trivial (r := .deeds) (by simp) (by simp) rfl h.deeds,
  s.apart h hr⟩
theorem PoolO.st_wait (h : PoolO w B p V ks M) {v : Value} {l : List Nat} (ho : OwnO w' B 3 1 v l.length (natV l)) (s : Step p (.wait) w V w' { V with wait := v }) :
  PoolO w' B p { V with wait := v } ks { M with wait := l } := by
 have hr : Role.ok (.wait) := trivial
 have kp := s.pairs h hr ty_pair
 have kS := s.pairs h hr ty_ses
 obtain ⟨cs, hs⟩ := h.ses
 obtain ⟨cb, hb⟩ := h.blk
 exact ⟨s.pool cb hb,
  h.lb,
  h.rows.keeps kp,
  ⟨cs, kS.own hs.own, hs.ses.keeps kp⟩,
  s.own h hr trivial (r := .owner) (by simp) (by simp) rfl h.owner,
  s.own h hr trivial (r := .known) (by simp) (by simp) rfl h.known,
  h.klen,
  fun s hs => ⟨(h.kn s hs).1.keeps kp, (h.kn s hs).2⟩,
  fun i hi => s.own h hr (r := .pend i) hi (by simp) (by simp) rfl (h.pend i hi),
  fun i hi => s.own h hr (r := .bad i) hi (by simp) (by simp) rfl (h.bad i hi),
  fun i hi => (h.ow i hi).keeps kp,
  h.adr,
  fun i hi => s.own h hr (r := .buf i) hi (by simp) (by simp) rfl (h.buf i hi),
  ho,
  s.own h hr trivial (r := .deeds) (by simp) (by simp) rfl h.deeds,
  s.apart h hr⟩
theorem PoolO.st_deeds (h : PoolO w B p V ks M) {v : Value} {l : List De} (ho : OwnO w' B 71 7 v l.length (deV l)) (s : Step p (.deeds) w V w' { V with deeds := v }) :
  PoolO w' B p { V with deeds := v } ks { M with deeds := l } := by
 have hr : Role.ok (.deeds) := trivial
 have kp := s.pairs h hr ty_pair
 have kS := s.pairs h hr ty_ses
 obtain ⟨cs, hs⟩ := h.ses
 obtain ⟨cb, hb⟩ := h.blk
 exact ⟨s.pool cb hb,
  h.lb,
  h.rows.keeps kp,
  ⟨cs, kS.own hs.own, hs.ses.keeps kp⟩,
  s.own h hr trivial (r := .owner) (by simp) (by simp) rfl h.owner,
  s.own h hr trivial (r := .known) (by simp) (by simp) rfl h.known,
  h.klen,
  fun s hs => ⟨(h.kn s hs).1.keeps kp, (h.kn s hs).2⟩,
  fun i hi => s.own h hr (r := .pend i) hi (by simp) (by simp) rfl (h.pend i hi),
  fun i hi => s.own h hr (r := .bad i) hi (by simp) (by simp) rfl (h.bad i hi),
  fun i hi => (h.ow i hi).keeps kp,
  h.adr,
  fun i hi => s.own h hr (r := .buf i) hi (by simp) (by simp) rfl (h.buf i hi),
  s.own h hr trivial (r := .wait) (by simp) (by simp) rfl h.wait,
  ho,
  s.apart h hr⟩
theorem PoolO.st_known (h : PoolO w B p V ks M) {v : Value} {l : List KV} {m : List Ow} (ho : OwnO w' B 92 4 v l.length (l.flatMap KV.cells)) (hl : l.length = m.length) (hk : ∀ s (hs : s < l.length), OwR w' B l[s].set l[s].pre l[s].sav (m.getD s Ow.new) ∧ l[s].st = (m.getD s Ow.new).st) (s : Step p (.known) w V w' { V with known := v }) :
  PoolO w' B p { V with known := v } l { M with known := m } := by
 have hr : Role.ok (.known) := trivial
 have kp := s.pairs h hr ty_pair
 have kS := s.pairs h hr ty_ses
 obtain ⟨cs, hs⟩ := h.ses
 obtain ⟨cb, hb⟩ := h.blk
 exact ⟨s.pool cb hb,
  h.lb,
  h.rows.keeps kp,
  ⟨cs, kS.own hs.own, hs.ses.keeps kp⟩,
  s.own h hr trivial (r := .owner) (by simp) (by simp) rfl h.owner,
  ho,
  hl,
  hk,
  fun i hi => s.own h hr (r := .pend i) hi (by simp) (by simp) rfl (h.pend i hi),
  fun i hi => s.own h hr (r := .bad i) hi (by simp) (by simp) rfl (h.bad i hi),
  fun i hi => (h.ow i hi).keeps kp,
  h.adr,
  fun i hi => s.own h hr (r := .buf i) hi (by simp) (by simp) rfl (h.buf i hi),
  s.own h hr trivial (r := .wait) (by simp) (by simp) rfl h.wait,
  s.own h hr trivial (r := .deeds) (by simp) (by simp) rfl h.deeds,
  s.apart h hr⟩
end
end Go.Proofs.YtjbnfigpflambacGreatDoor
/- (pool).needs: its walk; small words for what follows. -/
namespace Go.Proofs.YtjbnfigpflambacGreatDoor
open Go.ChangeShapes Go.WideShapes Go.ChangeAt Go.RowKit
theorem PoolR.pend0 {w : World} {B p : Nat} {V : PV} {ks : List KV} {M : MV} (h : PoolR w B p V ks M) {c : Nat} (hc : c < 6) {x : St} {xs : List St} (hx : M.pend c = x :: xs) :
  ∃ g off cap, w.cell? ⟨p, 6 + c * 10 + 1, none⟩ = some (.slice (some ⟨g, off, none⟩) (xs.length + 1) cap) ∧ xs.length + 1 ≤ cap ∧ V.pend c = .slice (some ⟨g, off, none⟩) (xs.length + 1) cap ∧
   w.cell? ⟨g, off, none⟩ = some (.int .i64 x.k) ∧ w.cell? ⟨g, off + 1, none⟩ = some (.string x.key) ∧ w.cell? ⟨g, off + 2, none⟩ = some (.string x.val) := by
 have ho := h.o.pend c hc
 rw [hx] at ho
 rcases ho.2 with ⟨_, e0⟩ | ⟨g, off, cap, cur, e, _, hg, hn, hm, _⟩
 ·simp at e0
 obtain ⟨A, c', e', _, hr⟩ := ho.reads
 obtain ⟨ad, hA, _, hcell⟩ := hr.2 (by simp)
 have e2 := e.symm.trans e'
 injection e2 with e2 _ _
 rw [hA] at e2
 injection e2 with e2
 subst e2
 refine ⟨g, off, cap, ?_, hn, e, ?_, ?_, ?_⟩
 ·have := h.b.cellC (k := 1) hc (by decide)
  rw [this]
  exact congrArg some e
 ·have := hcell 0 (.int .i64 x.k) rfl
  rw [Addr.add_lit] at this
  exact this
 ·have := hcell 1 (.string x.key) rfl
  rw [Addr.add_lit] at this
  exact this
 ·have := hcell 2 (.string x.val) rfl
  rw [Addr.add_lit] at this
  exact this
theorem PoolR.bad0 {w : World} {B p : Nat} {V : PV} {ks : List KV} {M : MV} (h : PoolR w B p V ks M) {c : Nat} (hc : c < 6) {x : Bool} {xs : List Bool} (hx : M.bad c = x :: xs) :
  ∃ g off cap, w.cell? ⟨p, 6 + c * 10 + 2, none⟩ = some (.slice (some ⟨g, off, none⟩) (xs.length + 1) cap) ∧ xs.length + 1 ≤ cap ∧ V.bad c = .slice (some ⟨g, off, none⟩) (xs.length + 1) cap ∧ w.cell? ⟨g, off, none⟩ = some (.bool x) := by
 have ho := h.o.bad c hc
 rw [hx] at ho
 rcases ho.2 with ⟨_, e0⟩ | ⟨g, off, cap, cur, e, _, hg, hn, hm, _⟩
 ·simp at e0
 obtain ⟨A, c', e', _, hr⟩ := ho.reads
 obtain ⟨ad, hA, _, hcell⟩ := hr.2 (by simp)
 have e2 := e.symm.trans e'
 injection e2 with e2 _ _
 rw [hA] at e2
 injection e2 with e2
 subst e2
 refine ⟨g, off, cap, ?_, hn, e, ?_⟩
 ·have := h.b.cellC (k := 2) hc (by decide)
  rw [this]
  exact congrArg some e
 ·have := hcell 0 (.bool x) rfl
  rw [Addr.add_lit] at this
  exact this
def needsB (mode k : Int) (bad : Bool) : Bool := !bad && (decide (mode ≠ 3) || decide (k ≠ 1))
set_option maxRecDepth 100000 in
theorem needs_any (w : World) (B p : Nat) (V : PV) (ks : List KV) (M : MV) (h : PoolR w B p V ks M) (c : Nat) (hc : c < 6) (x : St) (xs : List St) (hx : M.pend c = x :: xs) (y : Bool) (ys : List Bool) (hy : M.bad c = y :: ys) :
  Calls Tryz.prog 74 #[.pointer (some ⟨p, 0, none⟩), .int .i64 (c : Nat)] w fun e w' => e = .returned (.bool (needsB M.mode x.k y)) ∧ w' = w := by
 obtain ⟨g, off, cap, e1, n1, _, d0, _, _⟩ := h.pend0 hc hx
 obtain ⟨g', off', cap', e2, n2, _, d1⟩ := h.bad0 hc hy
 have m0 : w.cell? ⟨p, 0, none⟩ = some (.int .i64 M.mode) := h.b.cell (j := 0) (by decide)
 have g1 : (c : Int) < 6 := by omega
 have g2 : (0 : Int) ≤ (c : Int) := by omega
 obtain ⟨k, hk⟩ : ∃ k, x.k = k := ⟨_, rfl⟩
 obtain ⟨md, hmd⟩ : ∃ k, M.mode = k := ⟨_, rfl⟩
 rw [hk] at d0 ⊢
 rw [hmd] at m0 ⊢
 have l1 : (0 : Int) < ((xs.length + 1 : Nat) : Int) := by omega
 have l2 : (0 : Int) < ((ys.length + 1 : Nat) : Int) := by omega
 obtain ⟨n, hn⟩ : ∃ n, xs.length + 1 = n := ⟨_, rfl⟩
 obtain ⟨m, hm⟩ : ∃ n, ys.length + 1 = n := ⟨_, rfl⟩
 rw [hn] at e1 n1 l1
 rw [hm] at e2 n2 l2
 clear h hx hy hk hmd hn hm
 unfold needsB
 cases y with
 | true =>
  go_enter Tryz.func74, Tryz.ntmps74
  go_wp2_with fail
  go_ret
  exact ⟨by simp, rfl⟩
 | false =>
  by_cases h3 : md = 3
  ·subst h3
   by_cases h4 : k = 1
   ·subst h4
    go_enter Tryz.func74, Tryz.ntmps74
    go_wp2_with fail
    go_ret
    exact ⟨by simp, rfl⟩
   ·have e4 : (k != 1) = true := by simpa using h4
    have e5 : (!(k == 1)) = true := e4
    go_enter Tryz.func74, Tryz.ntmps74
    go_wp2_with fail
    go_ret
    exact ⟨by simp [h4], rfl⟩
  ·have e4 : (md != 3) = true := by simpa using h3
   have e5 : (!(md == 3)) = true := e4
   go_enter Tryz.func74, Tryz.ntmps74
   go_wp2_with fail
   go_ret
   exact ⟨by simp [h3], rfl⟩
theorem OwnO.put {w : World} {B : Nat} {e : TypeId} {size n g off cap : Nat} {xs : List Value} (h : OwnO w B e size (.slice (some ⟨g, off, none⟩) n cap) n xs) (j : Nat) (u : Value) : OwnO (w.setCell ⟨g, off + j, none⟩ u) B e size (.slice (some ⟨g, off, none⟩) n cap) n (xs.set j u) := by
 refine ⟨by rw [List.length_set]; exact h.1, ?_⟩
 rcases h.2 with ⟨e0, _⟩ | ⟨g', off', cap', cur, e0, hB, hg, hn, hm, hc, hx⟩
 ·cases e0
 ·injection e0 with e1 e2 e3
  injection e1 with e1
  injection e1 with e1 e4
  subst e1 e3 e4
  refine .inr ⟨g, off, cap, cur.setIfInBounds (off + j) u, rfl, hB, ?_, hn, hm, by rw [Array.size_setIfInBounds]; exact hc, ?_⟩
  ·exact Blk.set_ (w := w) (g := g) (cs := cur) hg (off + j) u
  ·rw [Array.toList_setIfInBounds, List.drop_set, if_neg (by omega), List.take_set, hx]
   congr 1
   omega
section
variable {w w1 w' u : World} {B p : Nat} {V V' : PV} {ks : List KV} {M M' : MV} {r0 : Role}
theorem Step.put (h : PoolO w B p V ks M) (hr0 : r0.ok) (hp : r0 ≠ .pool) {g : Nat} (hg : V.at p r0 = some g) (j : Nat) (x : Value) : Step p r0 w V (w.setCell ⟨g, j, none⟩ x) V :=
 ⟨rfl, rfl, rfl, by simp [World.setCell], fun k _ _ hn => Below.heap_setCell w ⟨g, j, none⟩ x k (fun e => hn (by rw [hg, e])), fun _ _ => rfl, fun _ h => .inl h, fun cs hb => ⟨cs, hb.far (fun e => hp (h.apart r0 .pool p hr0 trivial (by rw [hg]; exact congrArg some e.symm) rfl)) x⟩⟩
theorem Step.trans (s : Step p r0 w V w1 V) (t : Step p r0 w1 V w' V') : Step p r0 w V w' V' :=
 ⟨t.os.trans s.os, t.tape.trans s.tape, t.output.trans s.output, Nat.le_trans s.size t.size, fun k hk h1 h2 => (t.block k (Nat.lt_of_lt_of_le hk s.size) h1 h2).trans (s.block k hk h1 h2), t.same,
  fun k hk => (t.new k hk).imp id fun h => Nat.le_trans s.size h, fun cs h => by
   obtain ⟨cs', h'⟩ := s.pool cs h
   exact t.pool cs' h'⟩
theorem Step.cell (x : Value) (j : Nat) (same : ∀ r : Role, V'.at p r = V.at p r) : Step p .pool w V (w.setCell ⟨p, j, none⟩ x) V' :=
 Step.store w V p j x .pool (fun r _ => same r) fun k hk => .inl (by rw [← same .pool]; exact hk)
end
theorem flat_set {α : Type} (f : α → List Value) (m : Nat) (hf : ∀ x, (f x).length = m) : ∀ (l : List α) (i : Nat) (x : α), i < l.length → (l.set i x).flatMap f = (l.flatMap f).take (i * m) ++ f x ++ (l.flatMap f).drop (i * m + m)
 | [], i, x, h => by simp at h
 | a :: l, 0, x, _ => by simp [hf]
 | a :: l, i + 1, x, h => by
  have ih := flat_set f m hf l i x (by simpa using h)
  simp only [List.set_cons_succ, List.flatMap_cons, ih]
  have h1 : (i + 1) * m = (f a).length + i * m := by rw [hf, Nat.succ_mul]; omega
  have h2 : (i + 1) * m + m = (f a).length + (i * m + m) := by rw [h1]; omega
  rw [h2, h1, List.take_length_add_append, List.drop_length_add_append]
  simp [List.append_assoc]
theorem kv_len (x : KV) : x.cells.length = 4 := rfl
theorem kv_set (ks : List KV) (s : Nat) (hs : s < ks.length) (x : KV) : ((((ks.flatMap KV.cells).set (s * 4) x.set).set (s * 4 + 1) x.pre).set (s * 4 + 2) x.sav).set (s * 4 + 3) (.int .i64 x.st) = (ks.set s x).flatMap KV.cells := by
 rw [flat_set KV.cells 4 kv_len ks s x hs]
 have hl : (ks.flatMap KV.cells).length = ks.length * 4 := by
  clear hs
  induction ks with
  | nil => rfl
  | cons a l ih => rw [List.flatMap_cons, List.length_append, ih, kv_len, List.length_cons]; omega
 obtain ⟨L, hL⟩ : ∃ L, ks.flatMap KV.cells = L := ⟨_, rfl⟩
 rw [hL] at hl ⊢
 apply List.ext_getElem?
 intro i
 have h4 : (L.take (s * 4) ++ x.cells).length = s * 4 + 4 := by rw [List.length_append, List.length_take, kv_len]; omega
 have h3 : (L.take (s * 4)).length = s * 4 := by rw [List.length_take]; omega
 simp only [List.getElem?_set, List.length_set]
 by_cases h1 : i < s * 4
 ·rw [List.getElem?_append_left (by omega), List.getElem?_append_left (by omega), List.getElem?_take_of_lt h1]
  rw [if_neg (by omega), if_neg (by omega), if_neg (by omega), if_neg (by omega)]
 ·by_cases h2 : i < s * 4 + 4
  ·rw [List.getElem?_append_left (by omega), List.getElem?_append_right (by omega), h3]
   obtain ⟨d, rfl⟩ : ∃ d, i = s * 4 + d := ⟨i - s * 4, by omega⟩
   have hd : d < 4 := by omega
   match d, hd with
   | 0, _ => simp [KV.cells]; omega
   | 1, _ => simp [KV.cells]; omega
   | 2, _ => simp [KV.cells]; omega
   | 3, _ => simp [KV.cells]; omega
  ·rw [List.getElem?_append_right (by omega), h4, List.getElem?_drop]
   rw [if_neg (by omega), if_neg (by omega), if_neg (by omega), if_neg (by omega)]
   congr 1
   omega
theorem intV_set (l : List Int) (i : Nat) (x : Int) : (intV l).set i (.int .i64 x) = intV (l.set i x) := by unfold intV; rw [List.map_set]
section
variable {w w' : World} {B p : Nat} {V : PV} {ks : List KV} {M : MV}
theorem PoolR.put_bytes (h : PoolR w B p V ks M) {c : Nat} (hc : c < 6) (x : ByteArray) : PoolR (w.setCell ⟨p, 6 + c * 10 + 0, none⟩ (.string x)) B p V ks { M with bytes := up M.bytes c x } ∧ Turn p w V (w.setCell ⟨p, 6 + c * 10 + 0, none⟩ (.string x)) V :=
 have s := Step.cell (w := w) (V := V) (V' := V) (p := p) (.string x) (6 + c * 10 + 0) fun _ => rfl
 ⟨⟨h.o.st_bytes c x s, h.b.set_bytes hc x⟩, s.turn trivial⟩
theorem PoolR.put_srv (h : PoolR w B p V ks M) {c : Nat} (hc : c < 6) (x : Int) : PoolR (w.setCell ⟨p, 6 + c * 10 + 3, none⟩ (.int .i64 x)) B p V ks { M with srv := up M.srv c x } ∧ Turn p w V (w.setCell ⟨p, 6 + c * 10 + 3, none⟩ (.int .i64 x)) V :=
 have s := Step.cell (w := w) (V := V) (V' := V) (p := p) (.int .i64 x) (6 + c * 10 + 3) fun _ => rfl
 ⟨⟨h.o.st_srv c x s, h.b.set_srv hc x⟩, s.turn trivial⟩
theorem PoolR.put_st (h : PoolR w B p V ks M) {c : Nat} (hc : c < 6) (x : Int) : PoolR (w.setCell ⟨p, 6 + c * 10 + 7, none⟩ (.int .i64 x)) B p V ks { M with ow := up M.ow c ⟨(M.ow c).set, (M.ow c).pre, (M.ow c).sav, x⟩ } ∧ Turn p w V (w.setCell ⟨p, 6 + c * 10 + 7, none⟩ (.int .i64 x)) V :=
 have s := Step.cell (w := w) (V := V) (V' := V) (p := p) (.int .i64 x) (6 + c * 10 + 7) fun _ => rfl
 ⟨⟨h.o.st_st c x s, h.b.set_st hc x⟩, s.turn trivial⟩
theorem PoolR.put_set (h : PoolR w B p V ks M) {c : Nat} (hc : c < 6) {v : Value} {l : List Pr} (ho : OPL w B v l) : PoolR (w.setCell ⟨p, 6 + c * 10 + 4, none⟩ v) B p { V with set := up V.set c v } ks { M with ow := up M.ow c ⟨l, (M.ow c).pre, (M.ow c).sav, (M.ow c).st⟩ } ∧ Turn p w V (w.setCell ⟨p, 6 + c * 10 + 4, none⟩ v) { V with set := up V.set c v } := by
 have s := Step.cell (w := w) (V := V) (V' := { V with set := up V.set c v }) (p := p) v (6 + c * 10 + 4) fun r => by cases r <;> rfl
 exact ⟨⟨h.o.st_set c (ho.keeps (s.pairs h.o trivial ty_pair)) s, (h.b.set_set hc v).same (M' := { M with ow := up M.ow c ⟨l, (M.ow c).pre, (M.ow c).sav, (M.ow c).st⟩ }) (fun j _ => by
  have e : ∀ i, (up M.ow c ⟨l, (M.ow c).pre, (M.ow c).sav, (M.ow c).st⟩ i).st = (M.ow i).st := fun i => by
   by_cases e : i = c
   ·subst e; rw [up_at]
   ·rw [up_off _ _ e]
  unfold cellV
  split
  ·rfl
  split
  ·refine congrFun (clV_ext fun k hk => ?_) _
   match k, hk with
   | 0, _ | 1, _ | 2, _ | 3, _ | 4, _ | 5, _ | 6, _ | 8, _ | 9, _ => rfl
   | 7, _ => exact congrArg (Value.int .i64) (e _)
  ·rfl)⟩, s.turn trivial⟩
theorem PoolR.put_pre (h : PoolR w B p V ks M) {c : Nat} (hc : c < 6) {v : Value} {l : List Pr} (ho : OPL w B v l) : PoolR (w.setCell ⟨p, 6 + c * 10 + 5, none⟩ v) B p { V with pre := up V.pre c v } ks { M with ow := up M.ow c ⟨(M.ow c).set, l, (M.ow c).sav, (M.ow c).st⟩ } ∧ Turn p w V (w.setCell ⟨p, 6 + c * 10 + 5, none⟩ v) { V with pre := up V.pre c v } := by
 have s := Step.cell (w := w) (V := V) (V' := { V with pre := up V.pre c v }) (p := p) v (6 + c * 10 + 5) fun r => by cases r <;> rfl
 exact ⟨⟨h.o.st_pre c (ho.keeps (s.pairs h.o trivial ty_pair)) s, (h.b.set_pre hc v).same (M' := { M with ow := up M.ow c ⟨(M.ow c).set, l, (M.ow c).sav, (M.ow c).st⟩ }) (fun j _ => by
  have e : ∀ i, (up M.ow c ⟨(M.ow c).set, l, (M.ow c).sav, (M.ow c).st⟩ i).st = (M.ow i).st := fun i => by
   by_cases e : i = c
   ·subst e; rw [up_at]
   ·rw [up_off _ _ e]
  unfold cellV
  split
  ·rfl
  split
  ·refine congrFun (clV_ext fun k hk => ?_) _
   match k, hk with
   | 0, _ | 1, _ | 2, _ | 3, _ | 4, _ | 5, _ | 6, _ | 8, _ | 9, _ => rfl
   | 7, _ => exact congrArg (Value.int .i64) (e _)
  ·rfl)⟩, s.turn trivial⟩
theorem PoolR.put_sav (h : PoolR w B p V ks M) {c : Nat} (hc : c < 6) {v : Value} {l : List Pr} (ho : OPL w B v l) : PoolR (w.setCell ⟨p, 6 + c * 10 + 6, none⟩ v) B p { V with sav := up V.sav c v } ks { M with ow := up M.ow c ⟨(M.ow c).set, (M.ow c).pre, l, (M.ow c).st⟩ } ∧ Turn p w V (w.setCell ⟨p, 6 + c * 10 + 6, none⟩ v) { V with sav := up V.sav c v } := by
 have s := Step.cell (w := w) (V := V) (V' := { V with sav := up V.sav c v }) (p := p) v (6 + c * 10 + 6) fun r => by cases r <;> rfl
 exact ⟨⟨h.o.st_sav c (ho.keeps (s.pairs h.o trivial ty_pair)) s, (h.b.set_sav hc v).same (M' := { M with ow := up M.ow c ⟨(M.ow c).set, (M.ow c).pre, l, (M.ow c).st⟩ }) (fun j _ => by
  have e : ∀ i, (up M.ow c ⟨(M.ow c).set, (M.ow c).pre, l, (M.ow c).st⟩ i).st = (M.ow i).st := fun i => by
   by_cases e : i = c
   ·subst e; rw [up_at]
   ·rw [up_off _ _ e]
  unfold cellV
  split
  ·rfl
  split
  ·refine congrFun (clV_ext fun k hk => ?_) _
   match k, hk with
   | 0, _ | 1, _ | 2, _ | 3, _ | 4, _ | 5, _ | 6, _ | 8, _ | 9, _ => rfl
   | 7, _ => exact congrArg (Value.int .i64) (e _)
  ·rfl)⟩, s.turn trivial⟩
theorem PoolR.put_rows (h : PoolR w B p V ks M) {v : Value} {l : List Pr} (ho : OPL w B v l) : PoolR (w.setCell ⟨p, 2, none⟩ v) B p { V with rows := v } ks { M with w := ⟨l, M.w.ses⟩ } ∧ Turn p w V (w.setCell ⟨p, 2, none⟩ v) { V with rows := v } := by
 have s := Step.cell (w := w) (V := V) (V' := { V with rows := v }) (p := p) v 2 fun r => by cases r <;> rfl
 exact ⟨⟨h.o.st_rows (ho.keeps (s.pairs h.o trivial ty_pair)) s, (h.b.set_rows v).same (M' := { M with w := ⟨l, M.w.ses⟩ }) (fun _ _ => rfl)⟩, s.turn trivial⟩
theorem PoolR.put_ses (h : PoolR w B p V ks M) {v : Value} {l : List Se} (ho : ∃ cs, OSL w B v l cs) : PoolR (w.setCell ⟨p, 3, none⟩ v) B p { V with ses := v } ks { M with w := ⟨M.w.rows, l⟩ } ∧ Turn p w V (w.setCell ⟨p, 3, none⟩ v) { V with ses := v } := by
 have s := Step.cell (w := w) (V := V) (V' := { V with ses := v }) (p := p) v 3 fun r => by cases r <;> rfl
 exact ⟨⟨h.o.st_ses (by obtain ⟨cs, ho⟩ := ho; exact ⟨cs, (s.pairs h.o trivial ty_ses).own ho.own, ho.ses.keeps (s.pairs h.o trivial ty_pair)⟩) s, (h.b.set_ses v).same (M' := { M with w := ⟨M.w.rows, l⟩ }) (fun _ _ => rfl)⟩, s.turn trivial⟩
theorem PoolR.put_owner (h : PoolR w B p V ks M) {g off n cap : Nat} (e : V.owner = .slice (some ⟨g, off, none⟩) n cap) (i : Nat) (x : Int) : PoolR (w.setCell ⟨g, off + i, none⟩ (.int .i64 x)) B p V ks { M with owner := M.owner.set i x } ∧ Turn p w V (w.setCell ⟨g, off + i, none⟩ (.int .i64 x)) V := by
 have hg : V.at p .owner = some g := by show V.owner.ownBlock = _; rw [e]; rfl
 have s := Step.put h.o (r0 := .owner) trivial (by simp) hg (off + i) (.int .i64 x)
 have ho := h.o.owner
 have hne : p ≠ g := fun e => absurd (h.o.apart .pool .owner p trivial trivial rfl (by rw [e]; exact hg)) (by simp)
 obtain ⟨A, c', e', _⟩ := ho.form
 have hn : n = M.owner.length := by rw [e] at e'; injection e'
 refine ⟨⟨?_, (h.b.keep (Below.heap_setCell w ⟨g, off + i, none⟩ _ p hne)).same (fun _ _ => rfl)⟩, s.turn trivial⟩
 refine h.o.st_owner (v := V.owner) (l := M.owner.set i x) ?_ s
 rw [← intV_set, List.length_set, e, hn]
 rw [e, hn] at ho
 exact ho.put i _
theorem PoolR.put_known (h : PoolR w B p V ks M) {g off n cap : Nat} (e : V.known = .slice (some ⟨g, off, none⟩) n cap) (i : Nat) (hi : i < ks.length) (x : KV) (o : Ow) (hx : OwR w B x.set x.pre x.sav o ∧ x.st = o.st) :
  PoolR ((((w.setCell ⟨g, off + i * 4, none⟩ x.set).setCell ⟨g, off + i * 4 + 1, none⟩ x.pre).setCell ⟨g, off + i * 4 + 2, none⟩ x.sav).setCell ⟨g, off + i * 4 + 3, none⟩ (.int .i64 x.st)) B p V (ks.set i x) { M with known := M.known.set i o } ∧
   Turn p w V ((((w.setCell ⟨g, off + i * 4, none⟩ x.set).setCell ⟨g, off + i * 4 + 1, none⟩ x.pre).setCell ⟨g, off + i * 4 + 2, none⟩ x.sav).setCell ⟨g, off + i * 4 + 3, none⟩ (.int .i64 x.st)) V := by
 have hg : V.at p .known = some g := by show V.known.ownBlock = _; rw [e]; rfl
 have hne : p ≠ g := fun e => absurd (h.o.apart .pool .known p trivial trivial rfl (by rw [e]; exact hg)) (by simp)
 have ho := h.o.known
 obtain ⟨A, c', e', _⟩ := ho.form
 have hn : n = ks.length := by rw [e] at e'; injection e'
 rw [e, hn] at ho
 have o1 := ((((ho.put (i * 4) x.set).put (i * 4 + 1) x.pre).put (i * 4 + 2) x.sav).put (i * 4 + 3) (.int .i64 x.st))
 rw [kv_set ks i hi x] at o1
 have st : ∀ (u : World) (j : Nat) (y : Value), (∀ q : Role, q.ok → q ≠ .known → True) → Step p .known w V u V → u.heap[p]? = w.heap[p]? → Step p .known w V (u.setCell ⟨g, j, none⟩ y) V ∧ (u.setCell ⟨g, j, none⟩ y).heap[p]? = w.heap[p]? := fun u j y _ s hb =>
  ⟨⟨s.os, s.tape, s.output, by simpa [World.setCell] using s.size, fun k hk h1 h2 => (Below.heap_setCell u ⟨g, j, none⟩ y k (fun e => h2 (by rw [hg, e]))).trans (s.block k hk h1 h2), s.same, s.new, fun cs hc => by
   obtain ⟨cs', h'⟩ := s.pool cs hc
   exact ⟨cs', h'.far (p := ⟨g, j, none⟩) hne y⟩⟩, (Below.heap_setCell u ⟨g, j, none⟩ y p hne).trans hb⟩
 have s0 : Step p .known w V w V := ⟨rfl, rfl, rfl, Nat.le_refl _, fun _ _ _ _ => rfl, fun _ _ => rfl, fun _ h => .inl h, fun cs h => ⟨cs, h⟩⟩
 obtain ⟨s1, b1⟩ := st _ (off + i * 4) x.set (fun _ _ _ => trivial) s0 rfl
 obtain ⟨s2, b2⟩ := st _ (off + i * 4 + 1) x.pre (fun _ _ _ => trivial) s1 b1
 obtain ⟨s3, b3⟩ := st _ (off + i * 4 + 2) x.sav (fun _ _ _ => trivial) s2 b2
 obtain ⟨s4, b4⟩ := st _ (off + i * 4 + 3) (.int .i64 x.st) (fun _ _ _ => trivial) s3 b3
 have kp := s4.pairs h.o trivial ty_pair
 refine ⟨⟨h.o.st_known (v := V.known) (l := ks.set i x) (m := M.known.set i o) (by rw [List.length_set, e, hn]; exact o1) (by rw [List.length_set, List.length_set]; exact h.o.klen) (fun s hs => ?_) s4, (h.b.keep b4).same (fun _ _ => rfl)⟩, s4.turn trivial⟩
 rw [List.length_set] at hs
 rw [getD_set _ _ _ _ _ (by rw [← h.o.klen]; exact hi), List.getElem_set]
 by_cases es : i = s
 ·rw [if_pos es, if_pos es.symm]
  exact ⟨hx.1.keeps kp, hx.2⟩
 ·rw [if_neg es, if_neg (fun e => es e.symm)]
  exact ⟨(h.o.kn s hs).1.keeps kp, (h.o.kn s hs).2⟩
end
def Done (w : World) (B p : Nat) (V : PV) (M : MV) (w' : World) : Prop := ∃ V' ks', PoolR w' B p V' ks' M ∧ Turn p w V w' V'
section
variable {w w' : World} {B p q : Nat} {V V' : PV} {ks : List KV} {M : MV} {t : TypeId} {cs : Array Value}
theorem PoolR.boxN (h : PoolR w B p V ks M) (hb : Blk w q t cs) (hn : ¬ V.mine p q) (h1 : t ≠ 60) (h2 : t ≠ 133) (j : Nat) (x : Value) : PoolR (w.setCell ⟨q, j, none⟩ x) B p V ks M :=
 h.keep (Keeps.set_ (p := ⟨q, j, none⟩) (show w.heap[q]? = _ from hb) h1 x) (Keeps.set_ (p := ⟨q, j, none⟩) (show w.heap[q]? = _ from hb) h2 x) fun k hk => Below.heap_setCell w ⟨q, j, none⟩ x k (fun e => hn (by have e : k = q := e; rw [← e]; exact hk))
theorem PoolR.box (h : PoolR w B p V ks M) (hb : Blk w q t cs) (ht : ∀ r : Role, r.ty ≠ t) (h1 : t ≠ 60) (h2 : t ≠ 133) (j : Nat) (x : Value) : PoolR (w.setCell ⟨q, j, none⟩ x) B p V ks M :=
 h.boxN hb (h.o.notBox hb ht) h1 h2 j x
theorem Turn.set_new {w0 : World} {V0 : PV} (h : Turn p w0 V0 w V) (hq : w0.heap.size ≤ q) (j : Nat) (x : Value) : Turn p w0 V0 (w.setCell ⟨q, j, none⟩ x) V :=
 ⟨h.os, h.tape, h.output, by simpa [World.setCell] using h.size, fun k hk hm => (Below.heap_setCell w ⟨q, j, none⟩ x k (by show k ≠ q; omega)).trans (h.block k hk hm), h.mine⟩
theorem Done.box3 {w0 : World} {V0 : PV} (h : PoolR w B p V ks M) (t0 : Turn p w0 V0 w V) (hb : Blk w q t cs) (ht : ∀ r : Role, r.ty ≠ t) (h1 : t ≠ 60) (h2 : t ≠ 133) (hq : w0.heap.size ≤ q) (x y z : Value) :
  Done w0 B p V0 M (((w.setCell ⟨q, 0, none⟩ x).setCell ⟨q, 1, none⟩ y).setCell ⟨q, 2, none⟩ z) :=
 ⟨V, ks, ((h.box hb ht h1 h2 0 x).box (hb.set_ 0 x) ht h1 h2 1 y).box ((hb.set_ 0 x).set_ 1 y) ht h1 h2 2 z, ((t0.set_new hq 0 x).set_new hq 1 y).set_new hq 2 z⟩
end
end Go.Proofs.YtjbnfigpflambacGreatDoor
