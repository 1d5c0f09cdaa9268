/- The worlds of CommitsShow. -/
import Derived.Test.YtjbnfigpflambabDoorUn
namespace Go.Proofs.YtjbnfigpflambabDoor

def rowK : ByteArray := ⟨#[114, 111, 119]⟩
def putS (v : ByteArray) : St := ⟨10, rowK, v⟩
def readR : St := ⟨7, rowK, ⟨#[]⟩⟩
def w2 (r : List Pr) (st : Int) (l : List Pr) : Wo := ⟨r, [⟨st, [], [], [], l⟩, Se.new]⟩
theorem cs_begin : doW (w2 [] 0 []) 0 stB = (w2 [] 1 [], ⟨1, ⟨#[]⟩, 1⟩) := by rfl
theorem cs_put (v : ByteArray) : doW (w2 [] 1 []) 0 (putS v) = (w2 [] 1 [⟨rowK, v⟩], ⟨1, ⟨#[]⟩, 1⟩) := by rfl
theorem cs_read (v : ByteArray) : doW (w2 [] 1 [⟨rowK, v⟩]) 0 readR = (w2 [] 1 [⟨rowK, v⟩], ⟨2, v, 1⟩) := by rfl
theorem cs_read1 (v : ByteArray) : doW (w2 [] 1 [⟨rowK, v⟩]) 1 readR = (w2 [] 1 [⟨rowK, v⟩], ⟨3, ⟨#[]⟩, 0⟩) := by rfl
theorem cs_put1 (v : ByteArray) : doW (w2 [] 1 [⟨rowK, v⟩]) 1 (putS v) = (w2 [] 1 [⟨rowK, v⟩], ⟨4, tHeld, 0⟩) := by rfl
theorem cs_commit (v : ByteArray) : doW (w2 [] 1 [⟨rowK, v⟩]) 0 stC = (w2 [⟨rowK, v⟩] 0 [], ⟨1, ⟨#[]⟩, 0⟩) := by rfl
theorem cs_read2 (v : ByteArray) : doW (w2 [⟨rowK, v⟩] 0 []) 1 readR = (w2 [⟨rowK, v⟩] 0 [], ⟨2, v, 0⟩) := by rfl
theorem plus_again (k w v : ByteArray) : plusP [⟨k, w⟩] k v = [⟨k, v⟩] := by
  unfold plusP
  rw [if_neg (by simp [ltS_irrefl])]
  simp
theorem cs_put2 (v : ByteArray) : doW (w2 [⟨rowK, v⟩] 0 []) 1 (putS v) = (w2 [⟨rowK, v⟩] 0 [], ⟨1, ⟨#[]⟩, 0⟩) := by
  have e : did (w2 [⟨rowK, v⟩] 0 []) 1 (putS v) = (⟨plusP [⟨rowK, v⟩] rowK v, (w2 [] 0 []).ses⟩, okA) := by rfl
  unfold doW
  rw [e, plus_again]
  rfl
theorem cs_good : Good (w2 [] 0 []) := (good_iff _).1 (by rfl)
end Go.Proofs.YtjbnfigpflambabDoor
