/- append of a string's bytes onto a slice of the call's own. What a client was sent: its builder inside the pool's block: copyCheck, WriteString. (strings.Builder).String inside the pool: the text; the bytes' own block alone may be frozen. say.Tell and the reference's ToldOf: what each returns. (pool).tell: its walk. Plain laws, no program: what a statement is answered. -/
import Derived.Test.YtjbnfigpflambabGreatDoorJ00
import Derived.Test.YtjbnfigpflambabGreatDoorJ01
import Derived.Test.YtjbnfigpflambabGreatDoorJ04
import Derived.Test.YtjbnfigpflambabGreatDoorJ07
import Derived.Test.YtjbnfigpflambabGreatDoorJ10
import Derived.Test.YtjbnfigpflambabGreatDoorJ12
import Derived.Test.YtjbnfigpflambabGreatDoorJ22
import Derived.Lib.AppendStr
import Derived.Lib.Builder
import Derived.Laws.Externs
import Derived.Lib.Walk
import Derived.Deep.DeepCutAuto
import Derived.Lib.UnsafeStr
/- append of a string's bytes onto a slice of the call's own. -/
namespace Go.Proofs.YtjbnfigpflambabGreatDoor
open Go.RowKit
theorem strCells_app (a b : ByteArray) : Lib.strCells (a ++ b) = Lib.strCells a ++ Lib.strCells b := by
  unfold Lib.strCells
  simp
section
variable {P : Program} (w : World)
theorem run_append_room_stringO (t u ty e : TypeId) (i : TypeInfo) (ht : P.underlying t = some (.slice e)) (hu : P.underlying u = some .string) (hi : P.info? e = some i) (hs1 : i.size = 1)
    (g off sLen sCap : Nat) (cur : Array Value) (hg : w.heap[g]? = some (.cells cur e (0, 0))) (s : ByteArray)
    (hroom : sLen + s.size ≤ sCap) (hfit : off + sLen + s.size ≤ cur.size) :
    (Builtin.append_ #[t, u] ty #[.slice (some ⟨g, off, none⟩) sLen sCap, .string s]).run P w =
      .ok (.slice (some ⟨g, off, none⟩) (sLen + s.size) sCap) (w.setRow g (cur.toList.take (off + sLen) ++ Lib.strCells s ++ cur.toList.drop (off + sLen + s.size)).toArray) := by
  have hf := Lib.run_firstCells_string (P := P) w 1 s
  have hst := run_storeCells_at P g (off + sLen) e (Lib.strCells s) 0 cur w hg (by simpa [Lib.strCells_length] using hfit) (Lib.strCells_oneCell s)
  simp only [Nat.add_zero, Lib.strCells_length] at hst
  simp [Builtin.append_, run_underlying ht, run_underlying hu, sizeOf, typeInfo, hi, hs1, Builtin.lenOf, hroom, hf, Addr.add_lit, hst]
theorem run_append_s (B : Nat) (t u ty e : TypeId) (i : TypeInfo) (ht : P.underlying t = some (.slice e)) (hu : P.underlying u = some .string) (hi : P.info? e = some i) (hz : i.zero = some (.int .u8 0))
    (hsize : i.size = 1) (hby : i.bytes = 1)
    (v : Value) (n : Nat) (xs : List Value) (hown : OwnO w B e 1 v n xs) (s : ByteArray)
    (h63 : n + s.size ≤ maxLen) (hbytes : n + s.size ≤ 140737488355328) (hbase : B ≤ w.heap.size) :
    ∃ v' w', (Builtin.append_ #[t, u] ty #[v, .string s]).run P w = .ok v' w' ∧ OwnO w' B e 1 v' (n + s.size) (xs ++ Lib.strCells s) ∧ w.grownBy w' v.ownBlock ∧
      (v'.ownBlock = v.ownBlock ∨ v'.ownBlock = some w.heap.size) := by
  have hsmall : n + s.size ≤ 9223372036854775807 := by simp only [maxLen] at h63; omega
  have hxl : xs.length = n := by simpa using hown.1
  have hlen : (xs ++ Lib.strCells s).length = (n + s.size) * 1 := by rw [List.length_append, hxl, Lib.strCells_length, Nat.mul_one]
  have hz1 : (Value.int IntKind.u8 0).cells.size = 1 := rfl
  have grown : ∀ (old : Nat), old < n + s.size → ∀ (row : Option Nat),
      OwnO (w.drew.alloc (.cells (xs.toArray ++ (Lib.strCells s).toArray ++ Builtin.zeroCells (Value.int .u8 0).cells (grownCap w (n + s.size) old e - (n + s.size))) e)) B e 1
        (.slice (some ⟨w.heap.size, 0, none⟩) (n + s.size) (grownCap w (n + s.size) old e)) (n + s.size) (xs ++ Lib.strCells s) ∧
      w.grownBy (w.drew.alloc (.cells (xs.toArray ++ (Lib.strCells s).toArray ++ Builtin.zeroCells (Value.int .u8 0).cells (grownCap w (n + s.size) old e - (n + s.size))) e)) row := by
    intro old ho row
    have hge := grownCap_ge w (n + s.size) old e
    have hcm : grownCap w (n + s.size) old e ≤ maxLen := grownCap_le_maxLen w (n + s.size) old e h63
    refine ⟨⟨hlen, .inr ⟨w.heap.size, 0, _, _, rfl, hbase, heap_alloc_new w.drew _, hge, hcm, ?_, ?_⟩⟩, ⟨rfl, rfl, rfl, by simp, fun k hk _ => Below.heap_alloc w.drew _ k hk⟩⟩
    · simp only [Array.size_append, List.size_toArray, size_zeroCells, hz1, hxl, Lib.strCells_length]
      omega
    · simp only [Array.toList_append, List.append_assoc, List.drop_zero]
      rw [← List.append_assoc, ← hlen]
      exact List.take_left
  rcases hown.2 with ⟨rfl, rfl⟩ | ⟨g, off, cap, cur, rfl, hbg, hg, hnc, hcm, hcs, htake⟩
  · have hx : xs = [] := List.eq_nil_of_length_eq_zero hxl
    subst hx
    by_cases hm : s.size = 0
    · have hn : Lib.strCells s = [] := List.eq_nil_of_length_eq_zero (by rw [Lib.strCells_length]; exact hm)
      refine ⟨.slice none 0 0, w, ?_, by rw [hm, hn]; exact OwnO.nil w B e 1, World.grownBy.refl w _, .inl rfl⟩
      have hf := Lib.run_firstCells_string (P := P) w 1 s
      rw [hm] at hf
      simp [Builtin.append_, run_underlying ht, run_underlying hu, sizeOf, typeInfo, hi, hsize, Builtin.lenOf, hm, hf]
    · have hr := run_append_nil_string (P := P) w t u ty e i (.int .u8 0) ht hu hi hz s (by omega) (by omega) (by rw [hby]; omega)
      have hgr := grown 0 (by omega) (Value.ownBlock (.slice none 0 0))
      simp only [Nat.zero_add, List.nil_append, Array.empty_append] at hgr ⊢
      have e1 : (s.data.map fun b => Value.int .u8 b.toNat) = (Lib.strCells s).toArray := by
        apply Array.ext'
        simp [Lib.strCells]
      rw [e1] at hr
      exact ⟨_, _, hr, hgr.1, hgr.2, .inr rfl⟩
  · by_cases hroom : n + s.size ≤ cap
    · have hr := run_append_room_stringO (P := P) w t u ty e i ht hu hi hsize g off n cap cur hg s hroom (by omega)
      have hcl : cur.toList.length = cur.size := Array.length_toList
      refine ⟨_, _, hr, ⟨hlen, .inr ⟨g, off, cap, _, rfl, hbg, setRow_heap w g cur _ e _ hg, hroom, hcm, ?_, ?_⟩⟩, ⟨rfl, rfl, rfl, by simp, fun k _ hk => setRow_other w g k _ (fun e => hk (by simp [Value.ownBlock, e]))⟩, .inl rfl⟩
      · simp only [List.size_toArray, List.length_append, List.length_take, List.length_drop, Array.length_toList, Lib.strCells_length]
        omega
      · have e1 : cur.toList.take (off + n) = cur.toList.take off ++ xs := by
          rw [← htake, List.take_add, Nat.mul_one]
        have e2 : (cur.toList.take off).length = off := by rw [List.length_take, Array.length_toList]; omega
        rw [e1]
        simp only [List.append_assoc]
        rw [List.drop_left' e2, ← List.append_assoc, ← hlen]
        exact List.take_left
    · obtain ⟨A', c', e', _, hr0⟩ := hown.reads
      have holds : ∀ j u, xs[j]? = some u → w.cell? ((⟨g, off, none⟩ : Addr).add j) = some u := by
        intro j u hj
        injection e' with e1 _ _
        rcases Nat.eq_zero_or_pos n with h0 | h0
        · have hx : xs = [] := List.eq_nil_of_length_eq_zero (by omega)
          rw [hx] at hj
          cases hj
        · obtain ⟨ad, e2, _, hc⟩ := hr0.2 h0
          rw [← e1] at e2
          injection e2 with e2
          subst e2
          exact hc j u hj
      have hr := Lib.run_append_grow_string (P := P) w t u ty e i (.int .u8 0) ht hu hi hz ⟨g, off, none⟩ n cap xs (by rw [hsize, Nat.mul_one]; exact hxl) holds s (by omega) (by omega) (by rw [hby, Nat.mul_one]; have := growslice_fits (need := n + s.size) (old := cap) (bytes := 1) (by omega) (by omega); omega)
      have hgr := grown cap (by omega) (Value.ownBlock (.slice (some ⟨g, off, none⟩) n cap))
      exact ⟨_, _, hr, hgr.1, hgr.2, .inr rfl⟩
theorem wpList_append_s {ops : Array Oper} {rest : List Oper} {o : Oper} {a : Act} {Q : Exit → Act → World → Prop} (hgd : o.guard = none) (x y : Operand) (t u : TypeId)
    (ho : o.op = .call { callee := .builtin .append, args := #[x, y], argTypes := #[t, u] })
    (B : Nat) (e : TypeId) (i : TypeInfo) (ht : P.underlying t = some (.slice e)) (hu : P.underlying u = some .string) (hi : P.info? e = some i) (hz : i.zero = some (.int .u8 0))
    (hsize : i.size = 1) (hby : i.bytes = 1)
    (v : Value) (n : Nat) (xs : List Value) (hx : a.eval x = v) (hown : OwnO w B e 1 v n xs) (s : ByteArray) (hy : a.eval y = .string s)
    (h63 : n + s.size ≤ maxLen) (hbytes : n + s.size ≤ 140737488355328) (hbase : B ≤ w.heap.size)
    (h : ∀ v' w', OwnO w' B e 1 v' (n + s.size) (xs ++ Lib.strCells s) → w.grownBy w' v.ownBlock → (v'.ownBlock = v.ownBlock ∨ v'.ownBlock = some w.heap.size) → wpList P ops Q rest (a.put o.dst v') w') :
    wpList P ops Q (o :: rest) a w := by
  refine wpList_plain hgd fun K hK => ?_
  obtain ⟨v', w', hr, h2, h3, h4⟩ := run_append_s (P := P) w B t u o.type e i ht hu hi hz hsize hby v n xs hown s h63 hbytes hbase
  unfold Oper.wp execOp
  simp only [ho, resolve, invoke, builtin, Sem.run_bind, Sem.run_pure, Result.andThen_ok, List.map_toArray, List.map_cons, List.map_nil, hx, hy, hr]
  exact hK _ _ (h v' w' h2 h3 h4)
end
end Go.Proofs.YtjbnfigpflambabGreatDoor
/- What a client was sent: its builder inside the pool's block: copyCheck, WriteString. -/
namespace Go.Proofs.YtjbnfigpflambabGreatDoor
open Go.ChangeShapes Go.WideShapes Go.ChangeAt Go.RowKit
theorem builder_info : (Tryz.prog.info? 79).map (fun i => i.size) = some 2 := by kernel_rfl
theorem pool_cells : Tryz.prog.cellsOf 84 = 68 := by kernel_rfl
theorem builder_lies (c : Nat) (hc : c < 6) : liesAt Tryz.prog Tryz.prog.depth 84 1 (6 + c * 10 + 8) 79 1 = true := by
  rcases c with _ | _ | _ | _ | _ | _ | c
  · kernel_rfl
  · kernel_rfl
  · kernel_rfl
  · kernel_rfl
  · kernel_rfl
  · kernel_rfl
  · omega
set_option maxHeartbeats 1000000 in
set_option maxRecDepth 100000 in
theorem check_used (w : World) (a : Addr) (h0 : w.cell? a = some (.pointer (some a))) :
    Calls Tryz.prog 84 #[.pointer (some a)] w fun e w' => e = .returned (.tuple #[]) ∧ w' = w := by
  obtain ⟨j, hj, _⟩ := Option.map_eq_some_iff.1 builder_info
  obtain ⟨b, off, s⟩ := a
  go_enter Tryz.func84, Tryz.ntmps84
  go_wp2_with fail
  rw [Lib.run_neq_ptr_same w _ Tryz.underlying76 hj]
  go_wp2_with fail
  go_end0
  exact ⟨rfl, rfl⟩
set_option maxHeartbeats 1000000 in
set_option maxRecDepth 100000 in
theorem check_fresh (w : World) (p c : Nat) (hc : c < 6) (h0 : w.cell? ⟨p, 6 + c * 10 + 8, none⟩ = some (.pointer none)) (cs : Array Value) (hb : Blk w p 84 cs) (hs : cs.size = 68) :
    Calls Tryz.prog 84 #[.pointer (some ⟨p, 6 + c * 10 + 8, none⟩)] w fun e w' => e = .returned (.tuple #[]) ∧ w' = w.setCell ⟨p, 6 + c * 10 + 8, none⟩ (.pointer (some ⟨p, 6 + c * 10 + 8, none⟩)) := by
  obtain ⟨j, hj, hjs⟩ := Option.map_eq_some_iff.1 builder_info
  have hsh : w.shape? p = some (84, 68) := by
    unfold Blk at hb
    simp [World.shape?, hb, hs]
  have hfz := hb.frozen (6 + c * 10 + 8)
  have hl := builder_lies c hc
  obtain ⟨o, ho⟩ : ∃ o, 6 + c * 10 + 8 = o := ⟨_, rfl⟩
  rw [ho] at h0 hl hfz ⊢
  have hlt : o < 68 := by omega
  clear hb hs ho
  go_enter Tryz.func84, Tryz.ntmps84
  go_wp2_with fail
  rw [Lib.run_to_unsafe w ⟨p, o, none⟩ Tryz.underlying76 Tryz.underlying175 hj (by rw [hjs]; decide) hsh hlt]
  simp only [Result.andThen]
  rw [Oper.upon_value]
  go_wp2_with fail
  rw [run_callFunc_extern Tryz.func99 (by kernel_rfl) (by kernel_rfl) (by kernel_rfl) (e := Extern.AbiNoEscape.same) (by kernel_rfl)]
  rw [Lib.run_noEscape]
  simp only [Result.andThen]
  rw [Oper.upon_value]
  go_wp2_with fail
  rw [Lib.run_from_unsafe w ⟨p, o, none⟩ Tryz.underlying175 Tryz.underlying76 hj hsh (by rw [pool_cells]; exact hl)]
  simp only [Result.andThen]
  rw [Oper.upon_value]
  go_wp2_with fail
  go_end0
  exact ⟨rfl, rfl⟩
theorem copyCheck_any (w : World) (B p : Nat) (V : PV) (ks : List KV) (M : MV) (h : PoolR w B p V ks M) (c : Nat) (hc : c < 6) :
    Calls Tryz.prog 84 #[.pointer (some ⟨p, 6 + c * 10 + 8, none⟩)] w fun e w' => e = .returned (.tuple #[]) ∧ Done w B p V M w' := by
  have x8 : w.cell? ⟨p, 6 + c * 10 + 8, none⟩ = some (V.adr c) := h.b.cellC (k := 8) hc (by decide)
  rcases h.o.adr c hc with e | e
  · rw [e] at x8
    obtain ⟨cs, hb, hs, _⟩ := h.b.blk
    refine (check_fresh w p c hc x8 cs hb hs).mono ?_
    rintro e w' ⟨rfl, rfl⟩
    have s := Step.cell (w := w) (V := V) (V' := { V with adr := up V.adr c (.pointer (some ⟨p, 6 + c * 10 + 8, none⟩)) }) (p := p) (.pointer (some ⟨p, 6 + c * 10 + 8, none⟩)) (6 + c * 10 + 8) fun r => by cases r <;> rfl
    exact ⟨rfl, _, _, ⟨h.o.st_adr c s, h.b.set_adr hc _⟩, s.turn trivial⟩
  · rw [e] at x8
    refine (check_used w _ x8).mono ?_
    rintro e w' ⟨rfl, rfl⟩
    exact ⟨rfl, _, _, h, Turn.refl _ _ _⟩
theorem byte_info : (Tryz.prog.info? 5).map (fun i => (i.zero, i.size, i.bytes)) = some (some (.int .u8 0), 1, 1) := by kernel_rfl
/-- append onto a role's slice: it is turned, its value not stored yet -/
theorem Step.of_grown {w w' : World} {B p : Nat} {V : PV} {ks : List KV} {M : MV} (h : PoolO w B p V ks M) {r0 : Role} (hr0 : r0.ok) (hp : r0 ≠ .pool) {v v' : Value} (hv : V.at p r0 = v.ownBlock) (g : w.grownBy w' v.ownBlock) (hn : v'.ownBlock = v.ownBlock ∨ v'.ownBlock = some w.heap.size) {V' : PV}
    (hv' : V'.at p r0 = v'.ownBlock) (same : ∀ r : Role, r ≠ r0 → V'.at p r = V.at p r) : Step p r0 w V w' V' :=
  .grown h hr0 hp (by rw [hv]; exact g) same fun k hk => by
    rw [hv'] at hk
    rcases hn with e | e
    · exact .inl (by rw [hv, ← e]; exact hk)
    · rw [e] at hk
      injection hk with hk
      exact .inr (Nat.le_of_eq hk)
set_option maxHeartbeats 1000000 in
set_option maxRecDepth 100000 in
theorem writeString_any (w : World) (B p : Nat) (V : PV) (ks : List KV) (M : MV) (h : PoolR w B p V ks M) (c : Nat) (hc : c < 6) (m : ByteArray) (hm : (M.sent c).size + m.size ≤ 140737488351232) :
    Calls Tryz.prog 63 #[.pointer (some ⟨p, 6 + c * 10 + 8, none⟩), .string m] w fun e w' => e = .returned (.tuple #[.int .i64 m.size, .nilIface]) ∧ Done w B p V { M with sent := up M.sent c (M.sent c ++ m) } w' := by
  obtain ⟨i0, hi0, hz0, hz1, hz2⟩ := info_parts byte_info
  have HR := Lib.hid h
  have HM := Lib.hid hm
  clear h hm
  go_enter Tryz.func63, Tryz.ntmps63
  go_wp2_with fail
  refine (copyCheck_any _ B p V ks M HR.out c hc).mono ?_
  rintro e w1 ⟨rfl, V1, ks1, h1, t1⟩
  have x9 : w1.cell? ⟨p, 6 + c * 10 + 9, none⟩ = some (V1.buf c) := h1.b.cellC (k := 9) hc (by decide)
  have ho := h1.o.buf c hc
  obtain ⟨n, hn⟩ : ∃ n, (M.sent c).size = n := ⟨_, rfl⟩
  have HN := Lib.hid hn
  rw [hn] at ho HM
  obtain ⟨A, cap, e, hle⟩ := ho.form
  have HE := Lib.hid e
  rw [e] at x9 ho
  have HO := Lib.hid ho
  have H1 := Lib.hid h1
  have T1 := Lib.hid t1
  have fp := h1.b.frozen
  have hB := Nat.le_of_lt (Nat.lt_of_le_of_lt h1.o.lb h1.b.lt)
  clear h1 t1 ho e hle
  clear hn
  go_wp2_with (at_builtin; refine wpList_append_s _ rfl _ _ 77 9 rfl B 5 i0 Tryz.underlying77 Tryz.underlying9 hi0 hz0 hz1 hz2 (.slice A n cap) _ _ rfl HO.out m rfl (le_maxLen HM.out) (Nat.le_trans HM.out (by decide)) hB ?_)
  intro v' w2 h2 h3 h4
  have s1 : Step p (.buf c) w1 V1 w2 { V1 with buf := up V1.buf c v' } := Step.of_grown (r0 := .buf c) (v := .slice A n cap) H1.out.o hc (by simp) (by show (V1.buf c).ownBlock = _; rw [HE.out]) h3 h4 (by show (up V1.buf c v' c).ownBlock = _; rw [up_at])
    fun r hr => by cases r <;> first | rfl | (rename_i i; show (up V1.buf c v' i).ownBlock = _; rw [up_off _ _ (fun e => hr (by rw [e]))]; rfl)
  have O2 := Lib.hid (H1.out.o.st_buf hc (v := v') (t := M.sent c ++ m) (by rw [ByteArray.size_append, strCells_app, HN.out]; exact h2) s1)
  have T2 := Lib.hid (T1.out.trans (s1.turn hc))
  have hbp : w2.heap[p]? = w1.heap[p]? := h3.block p H1.out.b.lt fun e => absurd (H1.out.o.apart .pool (.buf c) p trivial hc rfl (by show (V1.buf c).ownBlock = _; rw [HE.out]; exact e.symm)) (by simp)
  have B2 := Lib.hid (H1.out.b.keep hbp)
  have x9 : w2.cell? ⟨p, 6 + c * 10 + 9, none⟩ = some (V1.buf c) := B2.out.cellC (k := 9) hc (by decide)
  have fp := B2.out.frozen
  obtain ⟨A', cap', e', _⟩ := h2.form
  subst e'
  clear h2 h3 h4 s1 hbp HO
  go_wp2_with fail
  have s3 := Step.cell (w := w2) (V := { V1 with buf := up V1.buf c (.slice A' (n + m.size) cap') }) (V' := { V1 with buf := up V1.buf c (.slice A' (n + m.size) cap') }) (p := p) (.slice A' (n + m.size) cap') (6 + c * 10 + 9) fun _ => rfl
  have HF : Hid (Done w B p V { M with sent := up M.sent c (M.sent c ++ m) } (w2.setCell ⟨p, 6 + c * 10 + 9, none⟩ (.slice A' (n + m.size) cap'))) := Lib.hid ⟨_, _, ⟨O2.out.st_same s3, (B2.out.set_buf hc _).same fun _ _ => rfl⟩, T2.out.trans (s3.turn trivial)⟩
  clear s3
  go_ret2
  exact ⟨rfl, HF.out⟩
end Go.Proofs.YtjbnfigpflambabGreatDoor
/- (strings.Builder).String inside the pool: the text; the bytes' own block alone may be frozen. -/
namespace Go.Proofs.YtjbnfigpflambabGreatDoor
open Go.ChangeShapes Go.WideShapes Go.ChangeAt Go.RowKit
theorem lies_off {P : Program} {e : TypeId} (hc : P.cellsOf e = 1) (count off n : Nat) (hn : off + n ≤ count) : liesAt P P.depth e count off e n = true := by
  have hd : P.depth = (2 * (P.types.size + Made.depth) + 1) + 1 := rfl
  rw [hd]
  simp only [liesAt, Bool.or_eq_true]
  left
  rw [hd]
  simp [rowAt, hc, hn, sameLayout, Nat.mod_one]
theorem run_string_off {P : Program} (w : World) (pt it ty e : TypeId) (hp : P.underlying pt = some (.pointer e)) (hc : P.cellsOf e = 1) (g off cells : Nat) (hsh : w.shape? g = some (e, cells)) (l : List UInt8) (h0 : l ≠ []) (hn : off + l.length ≤ cells) (h63 : l.length ≤ 9223372036854775807)
    (hcell : ∀ j x, l[j]? = some x → w.cell? ((⟨g, off, none⟩ : Addr).add j) = some (.int .u8 x.toNat)) :
    (Builtin.unsafeString_ #[pt, it] ty #[.pointer (some ⟨g, off, none⟩), .int .i64 l.length]).run P w = .ok (.string ⟨l.toArray⟩) (w.freeze ⟨g, off, none⟩ l.length) := by
  have hl : l.length ≠ 0 := by simpa using h0
  have hlb := Lib.run_loadBytes (P := P) w l ⟨g, off, none⟩ .empty hcell
  have hlies := lies_off (P := P) hc (cells / P.cellsOf e) off l.length (by rw [hc]; simpa using hn)
  have h63' : ¬ (9223372036854775807 : Int) < (l.length : Int) := by omega
  obtain ⟨m1, m2, m3, hdef⟩ : ∃ m1 m2 m3, Builtin.unsafeString_ #[pt, it] ty #[.pointer (some ⟨g, off, none⟩), .int .i64 l.length] =
      (do
        let n ← asInt (.int .i64 l.length)
        if n < 0 then runtimePanic (.error m1)
        if n > IntKind.i64.max then unsupported (.unsafePointer m2)
        if n = 0 then pure (.string .empty)
        else if ← variablesAt ⟨g, off, none⟩ (← elemOf pt) n.toNat then do
          let s ← loadBytes ⟨g, off, none⟩ .empty n.toNat
          freeze ⟨g, off, none⟩ n.toNat
          pure (.string s)
        else unsupported (.unsafePointer m3)) := ⟨_, _, _, rfl⟩
  rw [hdef]
  have hmax : IntKind.i64.max = 9223372036854775807 := rfl
  have hneg : ¬ (l.length : Int) < 0 := by omega
  simp [asInt, asIntOf, hmax, h63', hneg, hl, variablesAt, hsh, elemOf, run_underlying hp, hlies, hlb]
theorem grown_freeze (w : World) (g off n : Nat) : w.grownBy (w.freeze ⟨g, off, none⟩ n) (some g) := by
  unfold World.freeze
  split
  · exact World.grownBy.refl _ _
  · exact ⟨rfl, rfl, rfl, by simp, fun k hk hne => by
      simp only [Array.getElem?_modify]
      rw [if_neg (fun e => hne (by rw [← e]))]⟩
theorem run_string_none {P : Program} (w : World) (pt it ty : TypeId) (a : Option Addr) : (Builtin.unsafeString_ #[pt, it] ty #[.pointer a, .int .i64 0]).run P w = .ok (.string ⟨#[]⟩) w := Lib.run_unsafeString_none w pt it ty a
theorem strCells_at (t : ByteArray) (j : Nat) (x : UInt8) (h : t.data.toList[j]? = some x) : (Lib.strCells t)[j]? = some (.int .u8 (x.toNat : Int)) := by
  unfold Lib.strCells
  simp at h ⊢
  exact ⟨_, h, rfl⟩
theorem byte_cells : Tryz.prog.cellsOf 5 = 1 := by kernel_rfl
set_option maxRecDepth 100000 in
/-- what the two looks at memory give -/
theorem string_runs (w : World) (B : Nat) (v : Value) (t : ByteArray) (ho : OwnO w B 5 1 v t.size (Lib.strCells t)) :
    ∃ q w1 w2, (∀ ts, (Builtin.unsafeSliceData_ ts 106 #[v]).run Tryz.prog w = .ok (.pointer q) w1) ∧ Below w.heap.size w w1 ∧
      (∀ it ty, (Builtin.unsafeString_ #[106, it] ty #[.pointer q, .int .i64 (t.size : Int)]).run Tryz.prog w1 = .ok (.string t) w2) ∧ w.grownBy w2 v.ownBlock := by
  have hl := ho.1
  by_cases h0 : t.size = 0
  · have ht : t = ⟨#[]⟩ := by
      cases t with
      | mk d => 
        have : d.size = 0 := h0
        rw [Array.size_eq_zero_iff] at this
        rw [this]
    subst ht
    rcases ho.2 with ⟨rfl, _⟩ | ⟨g, off, cap, cur, rfl, _, hg, _⟩
    · exact ⟨none, w, w, fun ts => Lib.run_unsafeSliceData_nil _ ts _ _ _, Below.refl _ _, fun it ty => run_string_none w _ it ty none, World.grownBy.refl _ _⟩
    · by_cases hc : cap = 0
      · subst hc
        refine ⟨_, w.alloc (.view ⟨g, off, none⟩ 5), w.alloc (.view ⟨g, off, none⟩ 5), fun ts => Lib.run_unsafeSliceData_zero w ts _ 5 Tryz.underlying106 ⟨g, off, none⟩ _ (5, cur.size) (by simp [World.shape?, hg]), boxed _ _, fun it ty => run_string_none _ _ it ty _, World.grownBy_alloc _ _ _⟩
      · exact ⟨some ⟨g, off, none⟩, w, w, fun ts => Lib.run_unsafeSliceData_row _ ts _ _ _ _ hc, Below.refl _ _, fun it ty => run_string_none w _ it ty _, World.grownBy.refl _ _⟩
  · obtain ⟨g, off, cap, e, hc, hcell, _⟩ := ho.pos (by omega)
    rcases ho.2 with ⟨_, h1⟩ | ⟨g', off', cap', cur, e', _, hg, hnc, hcm, hsz, _⟩
    · exact absurd h1 h0
    rw [e'] at e
    injection e with e1 e2 e3
    injection e1 with e1
    injection e1 with e1 e4
    subst e1 e3 e4 e'
    have hlen : t.data.toList.length = t.size := by simp
    refine ⟨some ⟨g', off', none⟩, w, _, fun ts => Lib.run_unsafeSliceData_row _ ts _ _ _ _ (by omega), Below.refl _ _, fun it ty => ?_, grown_freeze w g' off' t.data.toList.length⟩
    have hr := run_string_off (P := Tryz.prog) w 106 it ty 5 Tryz.underlying106 byte_cells g' off' cur.size (by simp [World.shape?, hg]) t.data.toList (fun e => h0 (by rw [← hlen, e]; rfl)) (by rw [hlen]; omega) (by
        rw [hlen]
        unfold maxLen at hcm
        omega) (fun j x hx => by
        have hj : j < t.size := by rw [← hlen]; exact (List.getElem?_eq_some_iff.1 hx).1
        rw [Addr.add_lit, hcell j (by omega)]
        exact strCells_at t j x hx)
    rw [hlen] at hr
    simpa using hr
set_option maxHeartbeats 2000000 in
set_option maxRecDepth 100000 in
theorem string_any (w : World) (B p c : Nat) (hc : c < 6) (v : Value) (t : ByteArray) (hx : w.cell? ⟨p, 6 + c * 10 + 9, none⟩ = some v) (ho : OwnO w B 5 1 v t.size (Lib.strCells t)) :
    Calls Tryz.prog 26 #[.pointer (some ⟨p, 6 + c * 10 + 8, none⟩)] w fun e w' => e = .returned (.string t) ∧ w.grownBy w' v.ownBlock := by
  obtain ⟨q, w1, w2, h1, b1, h2, g2⟩ := string_runs w.drew B v t (ho.below (Below.refl _ _).drew)
  obtain ⟨A, k, e, _⟩ := ho.form
  subst e
  obtain ⟨n, hn⟩ : ∃ n, t.size = n := ⟨_, rfl⟩
  rw [hn] at hx h1 h2
  have HG := Lib.hid (show w.grownBy w2 (Value.slice A t.size k).ownBlock from ⟨g2.os, g2.tape, g2.output, g2.size, g2.block⟩)
  have HB := Lib.hid b1
  clear ho b1 g2 hn
  go_enter Tryz.func26, Tryz.ntmps26
  go_upto_region 1 with fail
  refine region_segs [10] (by kernel_rfl) ?_
  refine anyB_seg [0, 1, 2, 3, 5, 6, 7, 8, 9] 3 rfl (by kernel_rfl) (by kernel_rfl) (by kernel_rfl) (fun _ _ d _ _ h => by cases d <;> exact h) ?_
  simp only [pickOps, List.getElem?_toArray, List.getElem?_cons_zero, List.getElem?_cons_succ]
  go_wp2_with fail
  refine ⟨rfl, by rfl, ?_⟩
  refine anyB_one (i := 4) (by kernel_rfl) rfl (fun K hK => ?_)
  go_simp
  refine hK.out _ _ (fun _ => HB.out) ?_
  clear hK K
  refine anyB_one (i := 10) (by kernel_rfl) rfl (fun K hK => ?_)
  go_simp
  refine hK.out _ _ (fun h => absurd (by decide) h) ?_
  clear hK K
  refine anyB_seg [11] 0 rfl (by kernel_rfl) (by kernel_rfl) (by kernel_rfl) (fun _ _ d _ _ h => by cases d <;> exact h) ?_
  simp only [pickOps, List.getElem?_toArray, List.getElem?_cons_zero, List.getElem?_cons_succ]
  go_wp2_with fail
  refine ⟨rfl, by rfl, ?_⟩
  refine anyB_done (by kernel_rfl) ?_ _
  go_wp2_with fail
  go_ret
  exact ⟨rfl, HG.out⟩
end Go.Proofs.YtjbnfigpflambabGreatDoor
/- say.Tell and the reference's ToldOf: what each returns. -/
namespace Go.Proofs.YtjbnfigpflambabGreatDoor
open Go.ChangeShapes Go.WideShapes Go.ChangeAt Go.RowKit
theorem four {k : Int} (h1 : 1 ≤ k) (h4 : k ≤ 4) : k = 1 ∨ k = 2 ∨ k = 3 ∨ k = 4 := by omega
theorem three {k : Int} (h1 : 0 ≤ k) (h4 : k ≤ 2) : k = 0 ∨ k = 1 ∨ k = 2 := by omega
theorem cut0 : (⟨#[73, 84, 70]⟩ : ByteArray).extract 0 1 = ⟨#[73]⟩ := by decide +kernel
theorem cut1 : (⟨#[73, 84, 70]⟩ : ByteArray).extract 1 2 = ⟨#[84]⟩ := by decide +kernel
theorem cut2 : (⟨#[73, 84, 70]⟩ : ByteArray).extract 2 3 = ⟨#[70]⟩ := by decide +kernel
set_option maxHeartbeats 2000000 in
theorem tell_ok (k : Int) (t : ByteArray) (st : Int) (w : World) (h1 : 1 ≤ k) (h4 : k ≤ 4) (hs : 0 ≤ st) (hs2 : st ≤ 2) (hf : (k = 2 ∨ k = 4) ↔ t.toList ≠ []) (hz : t.size ≤ 60) :
    Calls Tryz.prog 62 #[.agg #[.int .i64 k, .string t, .int .i64 st]] w fun e w' => e = .returned (.tuple #[.string (stB st ++ bodyB k t), .int .i64 0]) ∧ Below w.heap.size w w' := by
  by_cases he : t.toList = []
  · have hk : k = 1 ∨ k = 3 := by simp only [he, ne_eq, not_true_eq_false, iff_false] at hf; omega
    clear hf
    rcases hk with rfl | rfl <;> rcases three hs hs2 with rfl | rfl | rfl
    all_goals
      go_enter Tryz.func62, Tryz.ntmps62
      go_wp2
      go_ret2
      exact ⟨by simp [stB, bodyB, cut0, cut1, cut2], boxed2 _ _ _⟩
  · have hk : k = 2 ∨ k = 4 := by simpa [he] using hf
    clear hf
    have hi : t.toList.isEmpty = false := by simpa using he
    rcases hk with rfl | rfl <;> rcases three hs hs2 with rfl | rfl | rfl
    all_goals
      go_enter Tryz.func62, Tryz.ntmps62
      go_wp2
      go_ret2
      exact ⟨by simp [stB, bodyB, cut0, cut1, cut2], boxed2 _ _ _⟩
theorem tell_kind (k : Int) (t : ByteArray) (st : Int) (w : World) (h : k < 1 ∨ 4 < k ∨ st < 0 ∨ 2 < st) :
    Calls Tryz.prog 62 #[.agg #[.int .i64 k, .string t, .int .i64 st]] w fun e w' => e = .returned (.tuple #[.string ⟨#[]⟩, .int .i64 3]) ∧ Below w.heap.size w w' := by
  by_cases c1 : k < 1
  · go_enter Tryz.func62, Tryz.ntmps62
    go_wp2
    go_ret2
    exact ⟨rfl, boxed _ _⟩
  · by_cases c2 : 4 < k
    · go_enter Tryz.func62, Tryz.ntmps62
      go_wp2
      go_ret2
      exact ⟨rfl, boxed _ _⟩
    · by_cases c3 : st < 0
      · go_enter Tryz.func62, Tryz.ntmps62
        go_wp2
        go_ret2
        exact ⟨rfl, boxed _ _⟩
      · have c4 : 2 < st := by omega
        clear h
        go_enter Tryz.func62, Tryz.ntmps62
        go_wp2
        go_ret2
        exact ⟨rfl, boxed _ _⟩
theorem tell_form (k : Int) (t : ByteArray) (st : Int) (w : World) (h1 : 1 ≤ k) (h4 : k ≤ 4) (hs : 0 ≤ st) (hs2 : st ≤ 2) (hf : ¬ (((k = 2 ∨ k = 4) ↔ t.toList ≠ []) ∧ t.size ≤ 60)) (hm : t.size ≤ maxLen) :
    Calls Tryz.prog 62 #[.agg #[.int .i64 k, .string t, .int .i64 st]] w fun e w' => e = .returned (.tuple #[.string ⟨#[]⟩, .int .i64 4]) ∧ Below w.heap.size w w' := by
  unfold maxLen at hm
  by_cases he : t.toList = []
  · have hz : t.size ≤ 60 := by rw [size_of_nil he]; omega
    have hk : k = 2 ∨ k = 4 := by simp only [he, hz, ne_eq, not_true_eq_false, iff_false, and_true] at hf; omega
    clear hf
    rcases hk with rfl | rfl
    all_goals
      go_enter Tryz.func62, Tryz.ntmps62
      go_wp2
      go_ret2
      exact ⟨rfl, boxed _ _⟩
  · have hi : t.toList.isEmpty = false := by simpa using he
    rcases four h1 h4 with rfl | rfl | rfl | rfl
    · clear hf
      go_enter Tryz.func62, Tryz.ntmps62
      go_wp2
      go_ret2
      exact ⟨rfl, boxed _ _⟩
    · have hz : 60 < t.size := by simp [he] at hf; omega
      clear hf
      go_enter Tryz.func62, Tryz.ntmps62
      go_wp2
      go_ret2
      exact ⟨rfl, boxed _ _⟩
    · clear hf
      go_enter Tryz.func62, Tryz.ntmps62
      go_wp2
      go_ret2
      exact ⟨rfl, boxed _ _⟩
    · have hz : 60 < t.size := by simp [he] at hf; omega
      clear hf
      go_enter Tryz.func62, Tryz.ntmps62
      go_wp2
      go_ret2
      exact ⟨rfl, boxed _ _⟩
end Go.Proofs.YtjbnfigpflambabGreatDoor
/- (pool).tell: its walk. -/
namespace Go.Proofs.YtjbnfigpflambabGreatDoor
open Go.ChangeShapes Go.WideShapes Go.ChangeAt Go.RowKit
theorem fit_iff (k : Int) (t : ByteArray) (st : Int) : fitA k t st = true ↔ 1 ≤ k ∧ k ≤ 4 ∧ 0 ≤ st ∧ st ≤ 2 ∧ ((k = 2 ∨ k = 4) ↔ t.toList ≠ []) ∧ t.size ≤ 60 := by
  unfold fitA
  rw [toList_data]
  simp only [Bool.and_eq_true, decide_eq_true_eq, and_assoc]
  refine and_congr_right fun _ => and_congr_right fun _ => and_congr_right fun _ => and_congr_right fun _ => and_congr_left fun _ => ?_
  cases h : t.data.toList with
  | nil => simp
  | cons a l => simp
/-- say.Tell: its text, whatever the answer -/
theorem tell_any (k : Int) (t : ByteArray) (st : Int) (w : World) (hm : t.size ≤ maxLen) :
    Calls Tryz.prog 62 #[.agg #[.int .i64 k, .string t, .int .i64 st]] w fun e w' => ∃ er, e = .returned (.tuple #[.string (tellS k t st), .int .i64 er]) ∧ Below w.heap.size w w' := by
  unfold tellS
  by_cases h : fitA k t st = true
  · rw [if_pos h]
    obtain ⟨h1, h2, h3, h4, h5, h6⟩ := (fit_iff k t st).1 h
    exact (tell_ok k t st w h1 h2 h3 h4 h5 h6).mono fun e w' ⟨e1, hb⟩ => ⟨_, e1, hb⟩
  · rw [if_neg h]
    by_cases c1 : k < 1 ∨ 4 < k ∨ st < 0 ∨ 2 < st
    · exact (tell_kind k t st w c1).mono fun e w' ⟨e1, hb⟩ => ⟨_, e1, hb⟩
    · refine (tell_form k t st w (by omega) (by omega) (by omega) (by omega) ?_ hm).mono fun e w' ⟨e1, hb⟩ => ⟨_, e1, hb⟩
      rintro ⟨h5, h6⟩
      exact h ((fit_iff k t st).2 ⟨by omega, by omega, by omega, by omega, h5, h6⟩)
theorem tellS_size (k : Int) (t : ByteArray) (st : Int) : (tellS k t st).size ≤ 100 := by
  unfold tellS
  split
  · rename_i h
    obtain ⟨_, _, _, _, _, h6⟩ := (fit_iff k t st).1 h
    have h1 : (stB st).size ≤ 1 := by unfold stB; split <;> (try split) <;> decide
    have h2 : (bodyB k t).size ≤ 61 := by
      unfold bodyB
      split
      · decide
      split
      · rw [ByteArray.size_append]; have : (⟨#[61]⟩ : ByteArray).size = 1 := rfl; omega
      split
      · decide
      · rw [ByteArray.size_append]; have : (⟨#[33]⟩ : ByteArray).size = 1 := rfl; omega
    rw [ByteArray.size_append]
    omega
  · decide
theorem tellM_size (a : An) : (tellM a).size ≤ 102 := by
  have h := tellS_size a.kind a.text a.st
  unfold tellM packS
  rw [if_neg (by omega), msg_size]
  omega
set_option maxHeartbeats 1000000 in
set_option maxRecDepth 100000 in
theorem ptell_any (w : World) (B p : Nat) (V : PV) (ks : List KV) (M : MV) (h : PoolR w B p V ks M) (c : Nat) (hc : c < 6) (a : An) (ha : a.text.size ≤ maxLen) (hm : (M.sent c).size ≤ 1000000000) :
    Calls Tryz.prog 49 #[.pointer (some ⟨p, 0, none⟩), .int .i64 (c : Nat), .agg #[.int .i64 a.kind, .string a.text, .int .i64 a.st]] w fun e w' => e = .returned (.tuple #[]) ∧ Done w B p V { M with sent := up M.sent c (M.sent c ++ tellM a) } w' := by
  have HR := Lib.hid h
  have HA := Lib.hid ha
  have hz := tellS_size a.kind a.text a.st
  have hz2 := tellM_size a
  have HM := Lib.hid hm
  have g1 : (c : Int) < 6 := by omega
  have g2 : (0 : Int) ≤ (c : Int) := by omega
  have e0 : packS 82 (tellS a.kind a.text a.st) = tellM a := rfl
  have E0 := Lib.hid e0
  obtain ⟨K, T, S⟩ := a
  obtain ⟨u, hu⟩ : ∃ u, tellM ⟨K, T, S⟩ = u := ⟨_, rfl⟩
  rw [hu] at E0 hz2 ⊢
  have HZ := Lib.hid hz
  have HZ2 := Lib.hid hz2
  clear h ha hz hz2 e0 hm hu
  go_enter Tryz.func49, Tryz.ntmps49
  go_wp2_with fail
  refine (tell_any _ _ _ _ HA.out).mono ?_
  rintro e w1 ⟨er, rfl, b1⟩
  have R1 := Lib.hid ((HR.out.below (boxed w _)).below b1)
  have T1 := Lib.hid (((Turn.refl p w V).below (boxed w _)).below b1)
  clear b1
  go_wp2_with fail
  have pk := pack_any 82 (tellS K T S) w1 (Nat.le_trans HZ.out (by decide))
  rw [show packS 82 (tellS K T S) = u from E0.out] at pk
  refine pk.mono ?_
  rintro e w2 ⟨rfl, b2⟩
  have R2 := Lib.hid (R1.out.below b2)
  have T2 := Lib.hid (T1.out.below b2)
  clear b2 pk
  go_wp2_with fail
  refine (writeString_any _ B p V ks M R2.out c hc u (by have := HM.out; have := HZ2.out; omega)).mono ?_
  rintro e w3 ⟨rfl, V3, ks3, h3, t3⟩
  have H3 := Lib.hid h3
  have T3 := Lib.hid (T2.out.trans t3)
  clear h3 t3
  go_wp2_with fail
  go_end0
  exact ⟨rfl, _, _, H3.out, T3.out⟩
end Go.Proofs.YtjbnfigpflambabGreatDoor
/- Plain laws, no program: what a statement is answered. -/
namespace Go.Proofs.YtjbnfigpflambabGreatDoor
def errL : List ByteArray := [tFailed, tBegun, tNoTx, tNotIn, tFull, tHeld, tNotPrep, tAsked]
def AnsOk (a : An) : Prop := (a.kind = 1 ∧ a.text = ⟨#[]⟩) ∨ (a.kind = 3 ∧ a.text = ⟨#[]⟩) ∨ (a.kind = 2 ∧ 1 ≤ a.text.size ∧ a.text.size ≤ 20) ∨ (a.kind = 4 ∧ a.text ∈ errL)
theorem ok_ok : AnsOk okA := .inl ⟨rfl, rfl⟩
theorem no_ok {t : ByteArray} (h : t ∈ errL) : AnsOk (noA t) := .inr (.inr (.inr ⟨rfl, h⟩))
theorem value_sz {v : ByteArray} (h : valueB v = true) : 1 ≤ v.size ∧ v.size ≤ 20 := by
  unfold valueB at h
  simp only [Bool.and_eq_true, decide_eq_true_eq] at h
  exact h.1
theorem check_val {k : Int} {key v : ByteArray} (hk : k = 9 ∨ k = 10) (h : checkE ⟨k, key, v⟩ = 0) : valueB v = true := by
  unfold checkE at h
  rw [if_neg (by show ¬ k = 11; omega)] at h
  unfold plainE at h
  simp only at h
  rw [if_neg (by omega), if_neg (by omega)] at h
  split at h
  · cases h
  rw [if_neg (by omega)] at h
  split at h
  · assumption
  · cases h
theorem found_ok {l : List Pr} {k : Int} (hk : k = 9 ∨ k = 10) (h : ∀ p ∈ l, checkE ⟨k, p.k, p.v⟩ = 0) (key : ByteArray) : AnsOk (foundA (atP l key)) := by
  cases e : atP l key with
  | none => exact .inr (.inl ⟨rfl, rfl⟩)
  | some v => exact .inr (.inr (.inl ⟨rfl, value_sz (check_val hk (h _ (atP_mem' e)))⟩))
theorem did1_ok {W : Wo} (g : Good W) {i : Nat} (hi : i < W.ses.length) (x : St) : AnsOk (did1 W i x).2 := by
  have gs := g.se hi
  have hset := ((pairs_iff _ _ _).1 gs.set).1
  have hwri := ((pairs_iff _ _ _).1 gs.wri).1
  have hrow := ((pairs_iff _ _ _).1 g.rows).1
  unfold did1
  split
  · exact no_ok (by simp [errL])
  split
  · unfold transW
    split
    · exact ok_ok
    split
    · exact no_ok (by simp [errL])
    split
    · exact no_ok (by simp [errL])
    · exact ok_ok
  split
  · unfold resetW
    split
    · exact ok_ok
    · exact no_ok (by simp [errL])
  split
  · exact found_ok (.inl rfl) hset _
  split
  · unfold readW
    have h1 := found_ok (.inr rfl) hwri x.key
    have h2 := found_ok (.inr rfl) hrow x.key
    cases e : atP (W.se i).wri x.key with
    | none => exact h2
    | some v => rw [e] at h1; exact h1
  split
  · unfold setW
    split
    · exact no_ok (by simp [errL])
    · exact ok_ok
  split
  · unfold putW
    split
    · exact no_ok (by simp [errL])
    split
    · exact no_ok (by simp [errL])
    split
    · exact ok_ok
    · exact ok_ok
  split
  · unfold prepW
    split
    · exact no_ok (by simp [errL])
    · exact ok_ok
  · exact no_ok (by simp [errL])
theorem did_ok {W : Wo} (g : Good W) {i : Nat} (hi : i < W.ses.length) (x : St) : AnsOk (did W i x).2 := by
  unfold did
  split
  · unfold execW
    split
    · exact no_ok (by simp [errL])
    · split
      · exact no_ok (by simp [errL])
      · exact did1_ok g hi _
  · exact did1_ok g hi x
theorem doW_ok {W : Wo} (g : Good W) {i : Nat} (hi : i < W.ses.length) (x : St) : AnsOk (doW W i x).2 := by
  have h := did_ok g hi x
  unfold AnsOk at h ⊢
  exact h
theorem ans_size {a : An} (h : AnsOk a) : a.text.size ≤ 60 := by
  rcases h with ⟨_, h⟩ | ⟨_, h⟩ | ⟨_, _, h⟩ | ⟨_, h⟩
  · rw [h]; decide
  · rw [h]; decide
  · omega
  · have : errL.all (fun t => decide (t.size ≤ 60)) = true := by decide +kernel
    simpa using List.all_eq_true.1 this _ h
end Go.Proofs.YtjbnfigpflambabGreatDoor
