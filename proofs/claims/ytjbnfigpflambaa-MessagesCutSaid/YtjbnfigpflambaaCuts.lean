/- The walk of MessagesCut: it returns true, out of the contracts of picked, Pack and Unpack. -/
import Derived.Test.YtjbnfigpflambaaMsg
import Derived.Test.YtjbnfigpflambaaPick
import Derived.WalkLawsBesides
import Derived.Deep.DeepCutAuto
namespace Go.Proofs.Ytjbnfigpflambaa
open Go.ChangeShapes Go.WideShapes Go.ChangeAt Go.RowKit

theorem min120 {t : ByteArray} (_ : 120 < (t.size : Int)) : (t.extract 0 120).size ≤ 120 := by rw [ByteArray.size_extract]; omega
theorem messagesCut_walk (W : World) (k : UInt8) (s : ByteArray) (hs : s.size ≤ 140737488351232) (more : ByteArray) (hmore : more.size ≤ 140737488351232) (c : Int) (hc : (Lit.int .i64 c).wf = true) :
    Calls Try.prog 9 #[.int .u8 (k.toNat : Int), .string s, .string more, .int .i64 c] W fun e w' => e = .returned (.bool true) ∧ Below W.heap.size W w' := by
  have HC := Lib.hid hc
  clear hc
  go_enter Try.func9, Try.ntmps9
  go_upto_region 1 with fail
  go_cut [9] (fun v wx => ∃ t : ByteArray, t.size ≤ 120 ∧ v = .string t ∧ wx = W)
  case first =>
    go_wp2_with fail
    · go_meet
      exact ⟨_, min120 (by assumption), rfl, rfl⟩
    · go_meet
      exact ⟨_, by omega, rfl, rfl⟩
  case rest =>
    obtain ⟨t, ht, rfl, rfl⟩ := hcut
    go_wp2_with fail
    refine (pack_ok k t _ ht).mono ?_
    rintro e w1 ⟨rfl, hb1⟩
    have hz := msg_size k t
    have hz' : (msg k t ++ more).size ≤ maxLen := by rw [ByteArray.size_append, hz]; unfold maxLen; omega
    obtain ⟨m, hm⟩ : ∃ m, msg k t = m := ⟨_, rfl⟩
    have hu := unpack_msg k t more w1 ht hz'
    have hcut' := fun r hr => msg_cut k t r ht hr
    rw [hm] at hu hcut' hz hz' ⊢
    have hg1 : 2 ≤ m.size := by omega
    have hg2 : m.size ≤ 122 := by omega
    have hne : ((m.size : Int) != (t.size : Int) + 2) = false := by simp; omega
    have HU := Lib.hid hu
    have HK := Lib.hid hcut'
    have HZ := Lib.hid hz
    have HM := Lib.hid hm
    clear hu hcut' hz hm hz'
    obtain ⟨q1, q2⟩ := pick_bd c m.size (by omega)
    obtain ⟨r, er⟩ : ∃ r : Nat, pick c m.size = (r : Int) := ⟨(pick c m.size).toNat, by omega⟩
    have hr : r < m.size := by omega
    have heq : (2 + (t.size : Int) == (m.size : Int)) = true := by have := HZ.out; simp; omega
    have hgm : (1 : Int) ≤ (m.size : Int) := by omega
    have hrm : (r : Int) ≤ (m.size : Int) := by omega
    have HR := Lib.hid er
    clear er q1 q2
    have hw : ¬ whole (m.extract 0 r) := HK.out r (by have := HZ.out; omega)
    have HW := Lib.hid hw
    have hx : (m.extract 0 r).size ≤ maxLen := by rw [ByteArray.size_extract]; unfold maxLen; omega
    have HX := Lib.hid hx
    clear hw hx
    go_wp2_with fail
    refine HU.out.mono ?_
    rintro e w2 ⟨rfl, n, rfl⟩
    clear HU
    go_wp2_with fail
    refine (picked_is c _ r _ HC.out (by omega) (by omega) HR.out).mono ?_
    rintro e w2 ⟨rfl, rfl⟩
    go_wp2_with fail
    refine (unpack_no _ _ HW.out HX.out).mono ?_
    rintro e w2 ⟨rfl, n2, rfl⟩
    go_wp2_with fail
    go_ret
    exact ⟨by simp, below_drewN hb1 _⟩
end Go.Proofs.Ytjbnfigpflambaa
