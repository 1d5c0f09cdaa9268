/- Messages of raw statements; the setup of raw numbers. Words for memory: a slice of the call's own that may begin anywhere in its block (it was cut at its head), and append onto it. A region that draws its order, with loads ahead of calls and stores behind both: the loads may be taken first although a store turns what they read, where every such store waits for them. -/
import Derived.Test.YtjbnfigpflambacGreatDoorG00
import Derived.Test.YtjbnfigpflambacGreatDoorG03
import Derived.Test.YtjbnfigpflambacGreatDoorG04
import Derived.Test.YtjbnfigpflambacGreatDoorG06
import Derived.OrdersHeld
import Derived.Deep.RegionHeld3
/- Messages of raw statements; the setup of raw numbers. -/
namespace Go.Proofs.YtjbnfigpflambacGreatDoor
open Go.ChangeShapes Go.WideShapes Go.ChangeAt Go.RowKit
theorem all_raw (P : St → Bool) (h1 : [1, 2, 3, 4, 5].all (fun k => P ⟨k, ⟨#[]⟩, ⟨#[]⟩⟩) = true) (h2 : [6, 7, 8].all (fun k => fourR.all fun a => P ⟨k, keyT a, ⟨#[]⟩⟩) = true)
  (h3 : [9, 10].all (fun k => fourR.all fun a => twelveR.all fun b => P ⟨k, keyT a, valT b⟩) = true) (h4 : fourR.all (fun a => twelveR.all fun b => fourR.all fun d => P ⟨11, keyT a, prepT d (valT b)⟩) = true) (k a b c : Int) : P (rawS k a b c) = true := by
 unfold rawS
 have mI := in4 (pick_bd a 4 (by decide)).1 (pick_bd a 4 (by decide)).2
 have mV := in12 (pick_bd b 12 (by decide)).1 (pick_bd b 12 (by decide)).2
 have mD := in4 (pick_bd c 4 (by decide)).1 (pick_bd c 4 (by decide)).2
 generalize pick a 4 = I at mI
 generalize pick b 12 = V at mV
 generalize pick c 4 = D at mD
 have low : ∀ k ∈ [(1 : Int), 2, 3, 4, 5], P ⟨k, ⟨#[]⟩, ⟨#[]⟩⟩ = true := List.all_eq_true.1 h1
 have mid : ∀ k ∈ [(6 : Int), 7, 8], P ⟨k, keyT I, ⟨#[]⟩⟩ = true := fun k hk => List.all_eq_true.1 (List.all_eq_true.1 h2 k hk) I mI
 have top : ∀ k ∈ [(9 : Int), 10], P ⟨k, keyT I, valT V⟩ = true := fun k hk => List.all_eq_true.1 (List.all_eq_true.1 (List.all_eq_true.1 h3 k hk) I mI) V mV
 have prep : P ⟨11, keyT I, prepT D (valT V)⟩ = true := List.all_eq_true.1 (List.all_eq_true.1 (List.all_eq_true.1 h4 I mI) V mV) D mD
 rcases st_cases (pick k 24) I V (pick c 3) D with ⟨-, e⟩ | ⟨-, -, e⟩ | ⟨-, e⟩ | ⟨-, e⟩ | ⟨-, -, e⟩ | ⟨-, -, e⟩ | ⟨-, -, e⟩ | ⟨-, -, e⟩ | ⟨-, -, e⟩ | ⟨-, e⟩
 all_goals rw [e]
 ·exact low 1 (by simp)
 ·exact low 2 (by simp)
 ·exact low 3 (by simp)
 ·split
  ·exact low 4 (by simp)
  ·exact low 5 (by simp)
 ·exact mid 6 (by simp)
 ·exact mid 7 (by simp)
 ·exact mid 8 (by simp)
 ·exact top 9 (by simp)
 ·exact top 10 (by simp)
 ·exact prep
def msgQ (x : St) : ByteArray := msg 81 (textOf x)
def okM (x : St) : Bool := !(msgQ x).data.toList.contains 88 && decide ((msgQ x).size ≤ 62) && decide (1 ≤ (msgQ x).size) && !(msgQ x).data.toList.isEmpty
theorem raw_msg (k a b c : Int) : noX (msgQ (rawS k a b c)) ∧ (msgQ (rawS k a b c)).size ≤ 62 := by
 have h := all_raw okM (by decide +kernel) (by decide +kernel) (by decide +kernel) (by decide +kernel) k a b c
 unfold okM at h
 simp only [Bool.and_eq_true, decide_eq_true_eq, Bool.not_eq_true'] at h
 refine ⟨fun hm => ?_, h.1.1.2⟩
 have := h.1.1.1
 rw [List.contains_iff_mem.2 hm] at this
 cases this
theorem msgQ_text {x : St} (h : (msgQ x).size ≤ 122) : (textOf x).size ≤ 120 := by
 unfold msgQ at h
 rw [msg_size] at h
 omega
set_option maxRecDepth 100000 in
theorem message_any (x : St) (w : World) (hT : Tabs w) (hx : checkE x = 0) (hk : x.key.size ≤ maxLen) (hv : x.val.size ≤ maxLen) (hm : (textOf x).size ≤ 120) :
  Calls Tryz.prog 20 #[x.v] w fun e w' => e = .returned (.string (msgQ x)) ∧ Below w.heap.size w w' := by
 have HT := Lib.hid hT
 have HS := Lib.hid (fun (w : World) (hT : Tabs w) => show_any x w hT hk hv)
 have HP := Lib.hid (fun (w : World) => pack_any 81 (textOf x) w (by unfold maxLen; omega))
 have hs : showS x = textOf x := by unfold showS; rw [if_pos hx]
 have hp : packS 81 (textOf x) = msgQ x := by unfold packS; rw [if_neg (by omega)]; rfl
 have hp2 : packE (textOf x) = 0 := by unfold packE; rw [if_neg (by omega)]
 rw [hp, hp2] at HP
 rw [hs, hx] at HS
 clear hT hk hv hm hx hs hp hp2
 obtain ⟨t, ht⟩ : ∃ t, textOf x = t := ⟨_, rfl⟩
 obtain ⟨m, hm⟩ : ∃ m, msgQ x = m := ⟨_, rfl⟩
 rw [ht, hm] at HP
 rw [ht] at HS
 rw [hm]
 clear ht hm
 obtain ⟨k, key, val⟩ := x
 unfold St.v at *
 go_enter Tryz.func20, Tryz.ntmps20
 go_wp2_with fail
 refine (HS.out _ (HT.out.below (boxed w _))).mono ?_
 rintro e w1 ⟨rfl, b1⟩
 have B1 := Lib.hid (below_step (boxed w _) (Nat.le_refl _) b1)
 clear b1
 go_wp2_with fail
 refine (HP.out _).mono ?_
 rintro e w2 ⟨rfl, b2⟩
 have B2 := Lib.hid (below_step B1.out (Nat.le_refl _) b2)
 clear b2 B1
 go_wp2_with fail
 go_ret
 exact ⟨rfl, B2.out⟩
theorem raw_message (k a b c : Int) (w : World) (hT : Tabs w) : Calls Tryz.prog 20 #[(rawS k a b c).v] w fun e w' => e = .returned (.string (msgQ (rawS k a b c))) ∧ Below w.heap.size w w' := by
 have hz := raw_size k a b c
 refine message_any _ w hT (raw_ok k a b c).1 ?_ ?_ (msgQ_text (Nat.le_trans (raw_msg k a b c).2 (by decide)))
 ·unfold maxLen; omega
 ·unfold maxLen; omega
theorem ksetup_any (m n : Int) (w : World) (hm : (Lit.int .i64 m).wf = true) (hn : (Lit.int .i64 n).wf = true) :
  Calls Tryz.prog 15 #[.int .i64 m, .int .i64 n] w fun e w' => e = .returned (.agg #[.int .i64 (1 + pick m 3), .int .i64 (1 + pick n 4)]) ∧ Below w.heap.size w w' := by
 have HM := Lib.hid hm
 have HN := Lib.hid hn
 obtain ⟨a0, a1⟩ := pick_bd m 3 (by decide)
 obtain ⟨b0, b1⟩ := pick_bd n 4 (by decide)
 obtain ⟨i, hi⟩ : ∃ i, pick m 3 = i := ⟨_, rfl⟩
 obtain ⟨j, hj⟩ : ∃ j, pick n 4 = j := ⟨_, rfl⟩
 rw [hi] at a0 a1 ⊢
 rw [hj] at b0 b1 ⊢
 have HI := Lib.hid hi
 have HJ := Lib.hid hj
 clear hm hn hi hj
 go_enter Tryz.func15, Tryz.ntmps15
 go_wp2_with fail
 refine (picked_any _ _ _ HM.out (by decide) (by decide)).mono ?_
 rintro e w2 ⟨rfl, rfl⟩
 rw [HI.out]
 go_wp2_with fail
 refine (picked_any _ _ _ HN.out (by decide) (by decide)).mono ?_
 rintro e w3 ⟨rfl, rfl⟩
 rw [HJ.out]
 go_wp2_with fail
 have y := Blk.new w 23 #[.int .i64 (1 + i), .int .i64 (1 + j)]
 have B := boxed w (.cells #[.int .i64 (1 + i), .int .i64 (1 + j)] 23)
 generalize World.alloc _ _ = w2 at y B ⊢
 have z0 := y.cell_ 0 _ rfl
 have z1 := y.cell_ 1 _ rfl
 exact bodyPost_ret (v := .agg #[.int .i64 (1 + i), .int .i64 (1 + j)]) (by simp [results, Tryz.results15, go_sem, z0, z1]) rfl ⟨rfl, B⟩
end Go.Proofs.YtjbnfigpflambacGreatDoor
/- Words for memory: a slice of the call's own that may begin anywhere in its block (it was cut at its head), and append onto it. -/
namespace Go.Proofs.YtjbnfigpflambacGreatDoor
open Go.RowKit
def OwnO (w : World) (B : Nat) (e : TypeId) (size : Nat) (v : Value) (n : Nat) (xs : List Value) : Prop :=
 xs.length = n * size ∧
 ((v = .slice none 0 0 ∧ n = 0) ∨
  ∃ g off cap cur, v = .slice (some ⟨g, off, none⟩) n cap ∧ B ≤ g ∧ w.heap[g]? = some (.cells cur e (0, 0)) ∧ n ≤ cap ∧ cap ≤ maxLen ∧ off + cap * size ≤ cur.size ∧ (cur.toList.drop off).take (n * size) = xs)
section
variable {w w' : World} {B : Nat} {e : TypeId} {size n : Nat} {v : Value} {xs : List Value}
theorem OwnO.nil (w : World) (B : Nat) (e : TypeId) (size : Nat) : OwnO w B e size (.slice none 0 0) 0 [] := ⟨by simp, .inl ⟨rfl, rfl⟩⟩
theorem OwnO.of_own (h : w.ownsRow B e size v n xs) : OwnO w B e size v n xs := by
 refine ⟨h.1, h.2.imp id ?_⟩
 rintro ⟨g, cap, cur, e1, e2, e3, e4, e5, e6, e7⟩
 exact ⟨g, 0, cap, cur, e1, e2, e3, e4, e5, by omega, by simpa using e7⟩
theorem OwnO.form (h : OwnO w B e size v n xs) : ∃ A c, v = .slice A n c ∧ n ≤ c := by
 rcases h.2 with ⟨rfl, rfl⟩ | ⟨g, off, cap, cur, rfl, _, _, hn, _⟩
 ·exact ⟨_, _, rfl, Nat.le_refl _⟩
 ·exact ⟨_, _, rfl, hn⟩
theorem OwnO.lt (h : OwnO w B e size v n xs) : ∀ k, v.ownBlock = some k → B ≤ k ∧ k < w.heap.size := by
 intro k hk
 rcases h.2 with ⟨rfl, _⟩ | ⟨g, off, cap, cur, rfl, hB, hg, _⟩
 ·simp [Value.ownBlock] at hk
 ·have : g = k := by simpa [Value.ownBlock] using hk
  subst this
  exact ⟨hB, (Array.getElem?_eq_some_iff.1 hg).1⟩
theorem OwnO.row (h : OwnO w B e size v n xs) : ∀ k, v.ownBlock = some k → ∃ cs, Blk w k e cs := by
 intro k hk
 rcases h.2 with ⟨rfl, _⟩ | ⟨g, off, cap, cur, rfl, hB, hg, _⟩
 ·simp [Value.ownBlock] at hk
 ·have : g = k := by simpa [Value.ownBlock] using hk
  subst this
  exact ⟨cur, hg⟩
theorem OwnO.keep (h : OwnO w B e size v n xs) (hk : ∀ k, v.ownBlock = some k → w'.heap[k]? = w.heap[k]?) : OwnO w' B e size v n xs := by
 refine ⟨h.1, h.2.imp id ?_⟩
 rintro ⟨g, off, cap, cur, rfl, e2, e3, r⟩
 exact ⟨g, off, cap, cur, rfl, e2, (hk g (by simp [Value.ownBlock])).trans e3, r⟩
theorem OwnO.below (h : OwnO w B e size v n xs) (hb : Below w.heap.size w w') : OwnO w' B e size v n xs := h.keep fun k hk => hb.block k (h.lt k hk).2
theorem OwnO.reads (h : OwnO w B e size v n xs) : ∃ A c, v = .slice A n c ∧ n ≤ c ∧ Reads w w.heap.size size A n xs := by
 have hl := h.1
 rcases h.2 with ⟨rfl, rfl⟩ | ⟨g, off, cap, cur, rfl, hB, hg, hn, hm, hc, hx⟩
 ·have : xs = [] := List.eq_nil_of_length_eq_zero (by simpa using hl)
  subst this
  exact ⟨_, _, rfl, Nat.le_refl _, Reads.none_⟩
 ·refine ⟨_, _, rfl, hn, hl, fun _ => ⟨_, rfl, (Array.getElem?_eq_some_iff.1 hg).1, fun j u hj => ?_⟩⟩
  have hlt : j < xs.length := by
   rcases Nat.lt_or_ge j xs.length with h | h
   ·exact h
   ·rw [List.getElem?_eq_none h] at hj; cases hj
  rw [Addr.add_lit, cell_of_row w g (off + j) cur e (0, 0) hg, ← hj, ← hx, List.getElem?_take_of_lt (by omega), List.getElem?_drop, Array.getElem?_toList]
theorem OwnO.cut {cap k : Nat} {A : Option Addr} (h : OwnO w B e size (.slice A n cap) n xs) (hk : k ≤ n) : OwnO w B e size (.slice (if cap = k then A else A.map (·.add (k * size))) (n - k) (cap - k)) (n - k) (xs.drop (k * size)) := by
 have hl := h.1
 refine ⟨by rw [List.length_drop, hl, Nat.sub_mul], ?_⟩
 rcases h.2 with ⟨e0, h0⟩ | ⟨g, off, cap', cur, e0, hB, hg, hn, hm, hc, hx⟩
 ·left
  injection e0 with e1 e2 e3
  have : k = 0 := by omega
  subst this e1 e3
  simp
  omega
 ·injection e0 with e1 e2 e3
  subst e1 e3
  right
  by_cases hck : cap = k
  ·rw [if_pos hck]
   have hnk : n = k := by omega
   refine ⟨g, off, cap - k, cur, rfl, hB, hg, by omega, by omega, by rw [hck, Nat.sub_self, Nat.zero_mul]; have := Nat.zero_le (cap * size); omega, ?_⟩
   rw [hnk, Nat.sub_self, Nat.zero_mul, List.take_zero, List.drop_eq_nil_of_le (by rw [hl, hnk]; exact Nat.le_refl _)]
  ·rw [if_neg hck]
   refine ⟨g, off + k * size, cap - k, cur, by simp [Addr.add_lit], hB, hg, by omega, by omega, ?_, ?_⟩
   ·rw [Nat.sub_mul]
    have : k * size ≤ cap * size := Nat.mul_le_mul_right _ (by omega)
    omega
   ·rw [← hx, List.drop_take, List.drop_drop, Nat.sub_mul]
end
section
variable {P : Program} (w : World)
theorem run_append_nilO (B : Nat) (t ty e : TypeId) (i : TypeInfo) (size : Nat) (ht : P.underlying t = some (.slice e)) (hi : P.info? e = some i)
  (v : Value) (n : Nat) (xs : List Value) (hown : OwnO w B e size v n xs) (c : Nat) : (Builtin.append_ #[t, t] ty #[v, .slice none 0 c]).run P w = .ok v w := by
 rcases hown.2 with ⟨rfl, rfl⟩ | ⟨g, off, cap, cur, rfl, _, _, hnc, _⟩
 ·simp [Builtin.append_, run_underlying ht, sizeOf, typeInfo, hi, Builtin.lenOf, Builtin.firstCells]
 ·simp [Builtin.append_, run_underlying ht, sizeOf, typeInfo, hi, Builtin.lenOf, Builtin.firstCells, hnc, storeCells]
theorem run_append_roomO (t ty e : TypeId) (i : TypeInfo) (ht : P.underlying t = some (.slice e)) (hi : P.info? e = some i)
  (g off sLen sCap : Nat) (cur : Array Value) (hg : w.heap[g]? = some (.cells cur e (0, 0)))
  (a : Addr) (m c : Nat) (news : List Value) (hl : news.length = m * i.size) (hnews : ∀ j u, news[j]? = some u → w.cell? (a.add j) = some u) (h1 : ∀ u ∈ news, u.oneCell' = true)
  (hroom : sLen + m ≤ sCap) (hfit : off + sLen * i.size + news.length ≤ cur.size) :
  (Builtin.append_ #[t, t] ty #[.slice (some ⟨g, off, none⟩) sLen sCap, .slice (some a) m c]).run P w =
   .ok (.slice (some ⟨g, off, none⟩) (sLen + m) sCap) (w.setRow g (cur.toList.take (off + sLen * i.size) ++ news ++ cur.toList.drop (off + sLen * i.size + news.length)).toArray) := by
 have hf := run_firstCells_some (P := P) w i.size m a m c news hl hnews
 have hst := run_storeCells_at P g (off + sLen * i.size) e news 0 cur w hg (by simpa using hfit) h1
 simp only [Nat.add_zero] at hst
 simp [Builtin.append_, run_underlying ht, sizeOf, typeInfo, hi, Builtin.lenOf, hroom, hf, Addr.add_lit, hst]
theorem run_append_o (B : Nat) (t ty e : TypeId) (i : TypeInfo) (z : Value) (size bytes : Nat) (ht : P.underlying t = some (.slice e)) (hi : P.info? e = some i) (hz : i.zero = some z)
  (hsize : i.size = size) (hby : i.bytes = bytes) (hzs : z.cells.size = size) (hsz : 0 < size)
  (v : Value) (n : Nat) (xs : List Value) (hown : OwnO w B e size v n xs)
  (D : Nat) (A : Option Addr) (m c : Nat) (news : List Value) (hr : Reads w D size A m news) (h1 : ∀ u ∈ news, u.oneCell' = true)
  (h63 : n + m ≤ maxLen) (hbytes : (n + m) * bytes ≤ 140737488355328) (hbase : B ≤ w.heap.size) :
  ∃ v' w', (Builtin.append_ #[t, t] ty #[v, .slice A m c]).run P w = .ok v' w' ∧ OwnO w' B e size v' (n + m) (xs ++ news) ∧ w.grownBy w' v.ownBlock ∧
   (v'.ownBlock = v.ownBlock ∨ v'.ownBlock = some w.heap.size) := by
 subst hsize
 subst hby
 have hl := hr.1
 have hsmall : n + m ≤ 9223372036854775807 := by simp only [maxLen] at h63; omega
 have hlen : (xs ++ news).length = (n + m) * i.size := by rw [List.length_append, hown.1, hl, Nat.add_mul]
 by_cases hm0 : m = 0
 ·subst hm0
  have hn : news = [] := List.eq_nil_of_length_eq_zero (by simpa using hl)
  subst hn
  rcases A with _ | a
  ·exact ⟨v, w, run_append_nilO w B t ty e i i.size ht hi v n xs hown c, by simpa using hown, World.grownBy.refl w _, .inl rfl⟩
  ·rcases hown.2 with ⟨rfl, rfl⟩ | ⟨g, off, cap, cur, rfl, _, _, hnc, _⟩
   ·refine ⟨.slice none 0 0, w, ?_, by simpa using hown, World.grownBy.refl w _, .inl rfl⟩
    simp [Builtin.append_, run_underlying ht, sizeOf, typeInfo, hi, Builtin.lenOf, Builtin.firstCells, loadCells, loadCellsFrom]
   ·refine ⟨.slice (some ⟨g, off, none⟩) n cap, w, ?_, by simpa using hown, World.grownBy.refl w _, .inl rfl⟩
    simp [Builtin.append_, run_underlying ht, sizeOf, typeInfo, hi, Builtin.lenOf, Builtin.firstCells, loadCells, loadCellsFrom, hnc, storeCells]
 obtain ⟨a, rfl, _, hnews⟩ := hr.2 (by omega)
 have grown : ∀ (old : Nat), old < n + m → ∀ (row : Option Nat),
   OwnO (w.drew.alloc (.cells (xs.toArray ++ news.toArray ++ Builtin.zeroCells z.cells (grownCap w (n + m) old e - (n + m))) e)) B e i.size
    (.slice (some ⟨w.heap.size, 0, none⟩) (n + m) (grownCap w (n + m) old e)) (n + m) (xs ++ news) ∧
   w.grownBy (w.drew.alloc (.cells (xs.toArray ++ news.toArray ++ Builtin.zeroCells z.cells (grownCap w (n + m) old e - (n + m))) e)) row := by
  intro old ho row
  have hge := grownCap_ge w (n + m) old e
  have hcm : grownCap w (n + m) old e ≤ maxLen := grownCap_le_maxLen w (n + m) old e h63
  refine ⟨⟨hlen, .inr ⟨w.heap.size, 0, _, _, rfl, hbase, heap_alloc_new w.drew _, hge, hcm, ?_, ?_⟩⟩, ⟨rfl, rfl, rfl, by simp, fun k hk _ => Below.heap_alloc w.drew _ k hk⟩⟩
  ·simp only [Array.size_append, List.size_toArray, size_zeroCells, hzs, hown.1, hl, ← Nat.add_mul]
   have : n + m + (grownCap w (n + m) old e - (n + m)) = grownCap w (n + m) old e := by omega
   rw [this]
   omega
  ·simp only [Array.toList_append, List.append_assoc, List.drop_zero]
   rw [← List.append_assoc, ← hlen]
   exact List.take_left
 rcases hown.2 with ⟨rfl, rfl⟩ | ⟨g, off, cap, cur, rfl, hbg, hg, hnc, hcm, hcs, htake⟩
 ·have hx : xs = [] := List.eq_nil_of_length_eq_zero (by simpa using hown.1)
  subst hx
  have hr := run_append_nil (P := P) w t ty e i z ht hi hz a m c news hl hnews (by omega) (by omega) (by have hb := hbytes; simp only [Nat.zero_add] at hb; omega)
  have hgr := grown 0 (by omega) (Value.ownBlock (.slice none 0 0))
  simp only [Nat.zero_add, List.nil_append, Array.empty_append] at hgr ⊢
  exact ⟨_, _, hr, hgr.1, hgr.2, Or.inr rfl⟩
 ·by_cases hroom : n + m ≤ cap
  ·have hmul : (n + m) * i.size ≤ cap * i.size := Nat.mul_le_mul_right _ hroom
   rw [Nat.add_mul] at hmul
   have hfit : off + n * i.size + news.length ≤ cur.size := by rw [hl]; omega
   have hr := run_append_roomO (P := P) w t ty e i ht hi g off n cap cur hg a m c news hl hnews h1 hroom hfit
   refine ⟨_, _, hr, ⟨hlen, .inr ⟨g, off, cap, _, rfl, hbg, setRow_heap w g cur _ e _ hg, hroom, hcm, ?_, ?_⟩⟩, ⟨rfl, rfl, rfl, by simp, fun k _ hk => setRow_other w g k _ (fun e => hk (by simp [Value.ownBlock, e]))⟩, Or.inl rfl⟩
   ·simp only [List.size_toArray, List.length_append, List.length_take, List.length_drop, Array.length_toList]
    omega
   ·have hle : off + n * i.size ≤ cur.toList.length := by rw [Array.length_toList]; omega
    have e1 : cur.toList.take (off + n * i.size) = cur.toList.take off ++ xs := by
     rw [← htake, List.take_add]
    have e2 : (cur.toList.take off).length = off := by rw [List.length_take, Array.length_toList]; omega
    rw [e1]
    simp only [List.append_assoc]
    rw [List.drop_left' e2, ← List.append_assoc, ← hlen]
    exact List.take_left
  ·obtain ⟨A', c', e', _, hr0⟩ := hown.reads
   have hn0 : n ≠ 0 ∨ n = 0 := by omega
   have holds : ∀ j u, xs[j]? = some u → w.cell? ((⟨g, off, none⟩ : Addr).add j) = some u := by
    intro j u hj
    injection e' with e1 _ _
    rcases Nat.eq_zero_or_pos n with h0 | h0
    ·have hx : xs = [] := List.eq_nil_of_length_eq_zero (by rw [hown.1, h0, Nat.zero_mul])
     rw [hx] at hj
     cases hj
    ·obtain ⟨ad, e2, _, hc⟩ := hr0.2 h0
     rw [← e1] at e2
     injection e2 with e2
     subst e2
     exact hc j u hj
   have hr := run_append_grow (P := P) w t ty e i z ht hi hz ⟨g, off, none⟩ n cap xs hown.1 holds a m c news hl hnews (by omega) (by omega) (growslice_fits (by omega) hbytes)
   have hgr := grown cap (by omega) (Value.ownBlock (.slice (some ⟨g, off, none⟩) n cap))
   exact ⟨_, _, hr, hgr.1, hgr.2, Or.inr rfl⟩
theorem wp_append_o {o : Oper} {a : Act} {K : Act → World → Prop} {Q : Exit → Act → World → Prop} (s x : Operand) (t : TypeId)
  (ho : o.op = .call { callee := .builtin .append, args := #[s, x], argTypes := #[t, t] })
  (B : Nat) (e : TypeId) (i : TypeInfo) (z : Value) (size bytes : Nat) (ht : P.underlying t = some (.slice e)) (hi : P.info? e = some i) (hz : i.zero = some z)
  (hsize : i.size = size) (hby : i.bytes = bytes) (hzs : z.cells.size = size) (hsz : 0 < size)
  (v : Value) (n : Nat) (xs : List Value) (hs : a.eval s = v) (hown : OwnO w B e size v n xs)
  (D : Nat) (A : Option Addr) (m c : Nat) (news : List Value) (hx : a.eval x = .slice A m c) (hr : Reads w D size A m news) (h1 : ∀ u ∈ news, u.oneCell' = true)
  (h63 : n + m ≤ maxLen) (hbytes : (n + m) * bytes ≤ 140737488355328) (hbase : B ≤ w.heap.size)
  (h : ∀ v' w', OwnO w' B e size v' (n + m) (xs ++ news) → w.grownBy w' v.ownBlock → (v'.ownBlock = v.ownBlock ∨ v'.ownBlock = some w.heap.size) → K (a.put o.dst v') w') : o.wp P a w K Q := by
 obtain ⟨v', w', hrun, h2, h3, h4⟩ := run_append_o (P := P) w B t o.type e i z size bytes ht hi hz hsize hby hzs hsz v n xs hown D A m c news hr h1 h63 hbytes hbase
 unfold Oper.wp execOp
 simp only [ho, resolve, invoke, builtin, Sem.run_bind, Sem.run_pure, Result.andThen_ok, List.map_toArray, List.map_cons, List.map_nil, hs, hx, hrun]
 exact h v' w' h2 h3 h4
end
end Go.Proofs.YtjbnfigpflambacGreatDoor
/- A region that draws its order, with loads ahead of calls and stores behind both: the loads may be taken first although a store turns what they read, where every such store waits for them. -/
namespace Go.Proofs.YtjbnfigpflambacGreatDoor
open Go.RowKit
section
variable {P : Program} {ops : Array Oper} {Q : Exit → Act → World → Prop} {md : Region.Mode} {S : World → Prop} {late : List Nat}
def anyL (P : Program) (md : Region.Mode) (ops : Array Oper) (Q : Exit → Act → World → Prop) (S : World → Prop) (late : List Nat) : Nat → Array Bool → Act → World → Prop
 | 0, done, a, w => Region.ready md ops done = [] ∧ Q .normal a w
 | n + 1, done, a, w => (Region.ready md ops done = [] → Q .normal a w) ∧
   ∀ j, j ∈ Region.ready md ops done → wpOp P ops Q j (fun b u => (j ∉ late → S u) ∧ anyL P md ops Q S late n (done.setIfInBounds j true) b u) a w
theorem anyL_any (n : Nat) : ∀ (done : Array Bool) (a : Act) (w : World), anyL P md ops Q S late n done a w → wpAny P md ops Q n done a w := by
 induction n with
 | zero => exact fun _ _ _ h => h
 | succ n ih => exact fun done a w h => ⟨h.1, fun j hj => wpOp_mono (fun b u hb => ih _ b u hb.2) (h.2 j hj)⟩
def waits (md : Region.Mode) (ops : Array Oper) (late : List Nat) (i : Nat) : Bool :=
 late.all fun j => match ops[j]? with
  | some o => o.after.any fun e => Region.binds md e && (e.on == i)
  | none => false
theorem waits_edge {i : Nat} (h : waits md ops late i = true) {j : Nat} (hj : j ∈ late) {o : Oper} (ho : ops[j]? = some o) : ∃ e ∈ o.after, Region.binds md e = true ∧ e.on = i := by
 unfold waits at h
 have := List.all_eq_true.1 h j hj
 rw [ho] at this
 simp only [Array.any_eq_true, Bool.and_eq_true, beq_iff_eq] at this
 obtain ⟨k, hk, h1, h2⟩ := this
 exact ⟨_, Array.getElem_mem hk, h1, h2⟩
theorem open_of_ready {i : Nat} {done : Array Bool} (h : i ∈ Region.ready md ops done) : done.getD i false = false := by
 have h0 := (mem_ready.1 h).1
 rcases Nat.lt_or_ge i done.size with hlt | hge
 ·simp [hlt] at h0 ⊢
  exact h0
 ·simp [Array.getElem?_eq_none hge]
theorem not_late {i j : Nat} {done : Array Bool} (hw : waits md ops late i = true) (hi : i ∈ Region.ready md ops done) (hj : j ∈ Region.ready md ops done) : j ∉ late := by
 intro hl
 obtain ⟨_, o, ho, hall⟩ := mem_ready.1 hj
 obtain ⟨e, he, hb, hei⟩ := waits_edge hw hl ho
 have h1 := hall e he hb
 rw [hei, open_of_ready hi] at h1
 cases h1
theorem anyL_first {i : Nat} {o : Oper} {v : Value} (ho : ops[i]? = some o) (hs : ∀ (j : Nat) (q : Oper) cs b, ops[j]? = some q → q.op ≠ .select cs b)
  (hQ : ∀ c a w, Q (.panic c) (a.put o.dst v) w → Q (.panic c) a w) (hw : waits md ops late i = true) (n : Nat) :
  ∀ (done : Array Bool) (a : Act) (w : World),
   (∀ j q, ops[j]? = some q → j ≠ i → done.getD j true = false → (∀ e ∈ q.after, Region.binds md e = true → e.on ≠ i) → o.apart ops q = true) →
   i ∈ Region.ready md ops done → YieldsIf P ops S o v a → S w →
   anyL P md ops Q S late n (done.setIfInBounds i true) (a.put o.dst v) w → anyL P md ops Q S late (n + 1) done a w := by
 induction n with
 | zero =>
  intro done a w _ hi hy hS h
  refine ⟨fun e => (by rw [e] at hi; cases hi), fun j hj => ?_⟩
  rcases Nat.decEq j i with hne | rfl
  ·have hm := ready_mono hj hne
   rw [h.1] at hm
   cases hm
  ·exact hy.wpOp ho hS ⟨fun _ => hS, h⟩
 | succ n ih =>
  intro done a w hf hi hy hS h
  refine ⟨fun e => (by rw [e] at hi; cases hi), fun j hj => ?_⟩
  rcases Nat.decEq j i with hne | rfl
  ·obtain ⟨hun, q, hq, hall⟩ := mem_ready.1 hj
   have hno : ∀ e ∈ q.after, Region.binds md e = true → e.on ≠ i := by
    intro e he hb hei
    have h1 := hall e he hb
    rw [hei, open_of_ready hi] at h1
    cases h1
   have hstep := wpOp_putIf (S := S) hq (hf j q hq hne hun hno) (fun cs b => hs i o cs b ho) (fun cs b => hs j q cs b hq) hQ hy (h.2 j (ready_mono hj hne))
   refine wpOp_mono (fun b u ⟨hy', hSu, hrest⟩ => ⟨hSu, ?_⟩) hstep
   refine ih (done.setIfInBounds j true) b u (fun k r hr hki hk => ?_) (ready_mono hi (Ne.symm hne)) hy' (hSu (not_late hw hi hj)) ?_
   ·refine hf k r hr hki ?_
    rcases Nat.decEq j k with hjk | rfl
    ·rwa [getD_set_ne true hjk] at hk
    ·exact hun
   ·rw [Array.setIfInBounds_comm _ _ hne]
    exact hrest
  ·exact hy.wpOp ho hS ⟨fun _ => hS, h⟩
theorem anyL_free {i : Nat} {o : Oper} {v : Value} (ho : ops[i]? = some o) (hs : ∀ (j : Nat) (q : Oper) cs b, ops[j]? = some q → q.op ≠ .select cs b)
  (hQ : ∀ c a w, Q (.panic c) (a.put o.dst v) w → Q (.panic c) a w) (hl : i ∈ late) (n : Nat) :
  ∀ (done : Array Bool) (a : Act) (w : World),
   (∀ j q, ops[j]? = some q → j ≠ i → done.getD j true = false → (∀ e ∈ q.after, Region.binds md e = true → e.on ≠ i) → o.apart ops q = true) →
   i ∈ Region.ready md ops done → YieldsIf P ops (fun _ => True) o v a →
   anyL P md ops Q S late n (done.setIfInBounds i true) (a.put o.dst v) w → anyL P md ops Q S late (n + 1) done a w := by
 induction n with
 | zero =>
  intro done a w _ hi hy h
  refine ⟨fun e => (by rw [e] at hi; cases hi), fun j hj => ?_⟩
  rcases Nat.decEq j i with hne | rfl
  ·have hm := ready_mono hj hne
   rw [h.1] at hm
   cases hm
  ·exact hy.wpOp ho trivial ⟨fun hn => absurd hl hn, h⟩
 | succ n ih =>
  intro done a w hf hi hy h
  refine ⟨fun e => (by rw [e] at hi; cases hi), fun j hj => ?_⟩
  rcases Nat.decEq j i with hne | rfl
  ·obtain ⟨hun, q, hq, hall⟩ := mem_ready.1 hj
   have hno : ∀ e ∈ q.after, Region.binds md e = true → e.on ≠ i := by
    intro e he hb hei
    have h1 := hall e he hb
    rw [hei, open_of_ready hi] at h1
    cases h1
   have hstep := wpOp_putIf (S := fun _ => True) hq (hf j q hq hne hun hno) (fun cs b => hs i o cs b ho) (fun cs b => hs j q cs b hq) hQ hy (h.2 j (ready_mono hj hne))
   refine wpOp_mono (fun b u ⟨hy', hSu, hrest⟩ => ⟨hSu, ?_⟩) hstep
   refine ih (done.setIfInBounds j true) b u (fun k r hr hki hk => ?_) (ready_mono hi (Ne.symm hne)) hy' ?_
   ·refine hf k r hr hki ?_
    rcases Nat.decEq j k with hjk | rfl
    ·rwa [getD_set_ne true hjk] at hk
    ·exact hun
   ·rw [Array.setIfInBounds_comm _ _ hne]
    exact hrest
  ·exact hy.wpOp ho trivial ⟨fun hn => absurd hl hn, h⟩
def Takes (P : Program) (ops : Array Oper) (S : World → Prop) : List (Nat × Value) → Act → Prop
 | [], _ => True
 | (i, v) :: l, a => (match ops[i]? with | some o => YieldsIf P ops S o v a ∧ Takes P ops S l (a.put o.dst v) | none => False)
def putAll (ops : Array Oper) : List (Nat × Value) → Act → Act
 | [], a => a
 | (i, v) :: l, a => putAll ops l (match ops[i]? with | some o => a.put o.dst v | none => a)
def doneAll : List (Nat × Value) → Array Bool → Array Bool
 | [], d => d
 | (i, _) :: l, d => doneAll l (d.setIfInBounds i true)
def takesB (md : Region.Mode) (ops : Array Oper) (late : List Nat) : List Nat → Array Bool → Bool
 | [], _ => true
 | i :: l, d => Region.free md ops d i && (Region.ready md ops d).contains i && waits md ops late i && takesB md ops late l (d.setIfInBounds i true)
theorem anyL_takes (hs : Region.noSelect ops = true) (hQ : ∀ c a d v w, Q (.panic c) (Act.put a d v) w → Q (.panic c) a w) : ∀ (l : List (Nat × Value)) (n : Nat) (done : Array Bool) (a : Act) (w : World),
  takesB md ops late (l.map (·.1)) done = true → Takes P ops S l a → S w → anyL P md ops Q S late n (doneAll l done) (putAll ops l a) w → anyL P md ops Q S late (n + l.length) done a w
 | [], _, _, _, _, _, _, _, h => h
 | (i, v) :: l, n, done, a, w, hb, ht, hS, h => by
  unfold Takes at ht
  simp only [List.map_cons, takesB, Bool.and_eq_true] at hb
  obtain ⟨⟨⟨h1, h2⟩, h3⟩, h4⟩ := hb
  cases ho : ops[i]? with
  | none => rw [ho] at ht; exact ht.elim
  | some o =>
   rw [ho] at ht
   obtain ⟨hy, ht⟩ := ht
   unfold putAll at h
   rw [ho] at h
   have := anyL_takes hs hQ l n (done.setIfInBounds i true) (a.put o.dst v) w h4 ht hS h
   exact anyL_first ho (Region.noSelect_spec hs) (fun c a w => hQ c a _ _ w) h3 (n + l.length) done a w (Region.free_spec ho h1) (by simpa using h2) hy hS this
theorem anyL_take (hs : Region.noSelect ops = true) (hQ : ∀ c a d v w, Q (.panic c) (Act.put a d v) w → Q (.panic c) a w) (l : List (Nat × Value)) (n : Nat) {N : Nat} {done : Array Bool} {a : Act} {w : World} (hN : N = n + l.length)
  (hb : takesB md ops late (l.map (·.1)) done = true) (ht : Takes P ops S l a) (hS : S w) (h : anyL P md ops Q S late n (doneAll l done) (putAll ops l a) w) : anyL P md ops Q S late N done a w := by
 subst hN
 exact anyL_takes hs hQ l n done a w hb ht hS h
def freeB (md : Region.Mode) (ops : Array Oper) (late : List Nat) : List Nat → Array Bool → Bool
 | [], _ => true
 | i :: l, d => Region.free md ops d i && (Region.ready md ops d).contains i && late.contains i && freeB md ops late l (d.setIfInBounds i true)
theorem anyL_frees (hs : Region.noSelect ops = true) (hQ : ∀ c a d v w, Q (.panic c) (Act.put a d v) w → Q (.panic c) a w) : ∀ (l : List (Nat × Value)) (n : Nat) (done : Array Bool) (a : Act) (w : World),
  freeB md ops late (l.map (·.1)) done = true → Takes P ops (fun _ => True) l a → anyL P md ops Q S late n (doneAll l done) (putAll ops l a) w → anyL P md ops Q S late (n + l.length) done a w
 | [], _, _, _, _, _, _, h => h
 | (i, v) :: l, n, done, a, w, hb, ht, h => by
  unfold Takes at ht
  simp only [List.map_cons, freeB, Bool.and_eq_true] at hb
  obtain ⟨⟨⟨h1, h2⟩, h3⟩, h4⟩ := hb
  cases ho : ops[i]? with
  | none => rw [ho] at ht; exact ht.elim
  | some o =>
   rw [ho] at ht
   obtain ⟨hy, ht⟩ := ht
   unfold putAll at h
   rw [ho] at h
   have := anyL_frees hs hQ l n (done.setIfInBounds i true) (a.put o.dst v) w h4 ht h
   exact anyL_free ho (Region.noSelect_spec hs) (fun c a w => hQ c a _ _ w) (by simpa using h3) (n + l.length) done a w (Region.free_spec ho h1) (by simpa using h2) hy this
theorem anyL_any_ (hs : Region.noSelect ops = true) (hQ : ∀ c a d v w, Q (.panic c) (Act.put a d v) w → Q (.panic c) a w) (l : List (Nat × Value)) (n : Nat) {N : Nat} {done : Array Bool} {a : Act} {w : World} (hN : N = n + l.length)
  (hb : freeB md ops late (l.map (·.1)) done = true) (ht : Takes P ops (fun _ => True) l a) (h : anyL P md ops Q S late n (doneAll l done) (putAll ops l a) w) : anyL P md ops Q S late N done a w := by
 subst hN
 exact anyL_frees hs hQ l n done a w hb ht h
theorem anyL_take1 {i : Nat} {v : Value} {o : Oper} {n : Nat} {done : Array Bool} {a : Act} {w : World} (ho : ops[i]? = some o) (hs : Region.noSelect ops = true) (hb : takesB md ops late [i] done = true)
  (hQ : ∀ c a w, Q (.panic c) (a.put o.dst v) w → Q (.panic c) a w) (hy : YieldsIf P ops S o v a) (hS : S w) (h : anyL P md ops Q S late n (done.setIfInBounds i true) (a.put o.dst v) w) : anyL P md ops Q S late (n + 1) done a w := by
 simp only [takesB, Bool.and_eq_true] at hb
 obtain ⟨⟨⟨h1, h2⟩, h3⟩, _⟩ := hb
 exact anyL_first ho (Region.noSelect_spec hs) hQ h3 n done a w (Region.free_spec ho h1) (by simpa using h2) hy hS h
theorem anyL_one {i : Nat} {o : Oper} {n : Nat} {done : Array Bool} {a : Act} {w : World} (hr : Region.ready md ops done = [i]) (ho : ops[i]? = some o)
  (h : ∀ K : Act → World → Prop, Shut (∀ b u, (i ∉ late → S u) → anyL P md ops Q S late n (done.setIfInBounds i true) b u → K b u) → if Region.wanted o (yielded ops a.tmps) = true then Oper.wp P o a w K Q else K (a.put o.dst undef) w) :
  anyL P md ops Q S late (n + 1) done a w := by
 refine ⟨fun e => (by rw [e] at hr; cases hr), fun j hj => ?_⟩
 rw [hr, List.mem_singleton] at hj
 subst hj
 exact wpOp_step ho fun K hK => h K fun b u h1 h2 => hK b u ⟨h1, h2⟩
theorem anyL_done {done : Array Bool} {a : Act} {w : World} (hr : Region.ready md ops done = []) (h : Q .normal a w) : ∀ n, anyL P md ops Q S late n done a w
 | 0 => ⟨hr, h⟩
 | _ + 1 => ⟨fun _ => h, by rw [hr]; simp⟩
theorem region_late {id : Nat} {a : Act} {w : World} (S : World → Prop) (late : List Nat) (hm : P.follows .mixedOrders = true) (h : anyL P .any ops Q S late ops.size (Array.replicate ops.size false) a w.drew) : (Code.region id ops true).wp P Q a w :=
 wp_region_any hm (anyL_any _ _ _ _ h)
end
end Go.Proofs.YtjbnfigpflambacGreatDoor
