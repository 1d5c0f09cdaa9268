/- Plain laws on messages: what a packed text holds, and where it is cut. -/
import Derived.Test.YtjbnfigpflambaaPack
import Derived.Test.YtjbnfigpflambaaUnpack
namespace Go.Proofs.Ytjbnfigpflambaa
open Go.ChangeShapes Go.WideShapes Go.ChangeAt Go.RowKit

theorem msg_size (k : UInt8) (t : ByteArray) : (msg k t).size = 2 + t.size := by
  unfold msg
  rw [ByteArray.size_append]
  rfl
theorem msg_list (k : UInt8) (t : ByteArray) : (msg k t).data.toList = k :: UInt8.ofNat t.size :: t.data.toList := by simp [msg]
theorem list_get {s : ByteArray} {i : Nat} (h : i < s.size) : s[i]'h = s.data.toList[i]'(by simpa using h) := by simp; rfl
theorem extract_list (s : ByteArray) (a b : Nat) : (s.extract a b).data.toList = (s.data.toList.drop a).take (b - a) := by simp
theorem msg_at {k : UInt8} {t more : ByteArray} (h0 : 0 < (msg k t ++ more).size) (h1 : 1 < (msg k t ++ more).size) : (msg k t ++ more)[0]'h0 = k ∧ (msg k t ++ more)[1]'h1 = UInt8.ofNat t.size := by
  rw [list_get, list_get]
  have e : (msg k t ++ more).data.toList = k :: UInt8.ofNat t.size :: (t.data.toList ++ more.data.toList) := by simp [msg_list]
  exact ⟨by simp only [e]; rfl, by simp only [e]; rfl⟩
theorem msg_text (k : UInt8) (t more : ByteArray) : (msg k t ++ more).extract 2 (2 + t.size) = t := by
  refine Go.WideShapes.bytes_inj ?_
  rw [extract_list]
  have e : (msg k t ++ more).data.toList = k :: UInt8.ofNat t.size :: (t.data.toList ++ more.data.toList) := by simp [msg_list]
  rw [e]
  simp
theorem unpack_msg (k : UInt8) (t more : ByteArray) (w : World) (ht : t.size ≤ 120) (hm : (msg k t ++ more).size ≤ maxLen) :
    Calls Try.prog 14 #[.string (msg k t ++ more)] w fun e w' => e = .returned (.tuple #[.int .u8 (k.toNat : Int), .string t, .int .i64 (2 + (t.size : Int))]) ∧ ∃ n, w' = w.drewN n := by
  have hsz : (msg k t ++ more).size = 2 + t.size + more.size := by rw [ByteArray.size_append, msg_size]
  obtain ⟨e0, e1⟩ := msg_at (k := k) (t := t) (more := more) (by omega) (by omega)
  have hb : (UInt8.ofNat t.size).toNat = t.size := by simp; omega
  have h := unpack_ok (msg k t ++ more) k (UInt8.ofNat t.size) w (by omega) (by omega) e0 e1 (by omega) hm
  rw [hb, msg_text] at h
  exact h
theorem msg_cut (k : UInt8) (t : ByteArray) (r : Nat) (ht : t.size ≤ 120) (hr : r < 2 + t.size) : ¬ whole ((msg k t).extract 0 r) := by
  rintro ⟨h1, h2⟩
  have hz : ((msg k t).extract 0 r).size = r := by rw [ByteArray.size_extract, msg_size]; omega
  have e : ((msg k t).extract 0 r)[1]'h1 = UInt8.ofNat t.size := by
    rw [list_get]
    have el : ((msg k t).extract 0 r).data.toList = (k :: UInt8.ofNat t.size :: t.data.toList).take r := by rw [extract_list, msg_list]; simp
    simp only [el, List.getElem_take]
    rfl
  have hb : (UInt8.ofNat t.size).toNat = t.size := by simp; omega
  rw [e, hb, hz] at h2
  omega
end Go.Proofs.Ytjbnfigpflambaa
