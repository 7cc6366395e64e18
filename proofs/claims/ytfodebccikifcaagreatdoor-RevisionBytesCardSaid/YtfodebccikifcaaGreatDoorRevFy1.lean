/- Decoding: the program's and the reference's are one. No condition. -/
import Derived.Test.YtfodebccikifcaaGreatDoorRevEy1
namespace Go.Proofs.YtfodebccikifcaaGreatDoor
open Go Go.Dc
theorem decP_len (l : List UInt8) : (decP l).1.length ≤ l.length := by
 have h := framesR_len l
 unfold decP
 split
 ·exact Nat.zero_le _
 ·split
  ·exact Nat.zero_le _
  ·split
   ·exact Nat.zero_le _
   ·split
    ·exact Nat.zero_le _
    ·rename_i K hK
     have h2 := filesP_len hK
     have h3 : (framesR l).1.dropLast.length ≤ (framesR l).1.length := by simp
     split
     ·exact Nat.zero_le _
     ·split
      ·exact Nat.zero_le _
      ·show K.length ≤ _; omega
theorem decodes_eq {N : Nat} {l : List UInt8} (hl : l.length ≤ 10000000) (hN : 2 * l.length + 1000 < N) : testgatelaw07_decodes N l = some true := by
 have h1 := decP_len l
 simp only [testgatelaw07_decodes]
 rw [Decode_eq (by omega) (by omega) (filesOk (j := l.length) rfl (by omega) (by omega)), refDecode_eq (by omega) (by omega)]
 simp only [Option.bind_some, beq_self_eq_true, if_true]
 rw [refSame_eq (by omega) (by omega)]
 simp
end Go.Proofs.YtfodebccikifcaaGreatDoor
