/- zero thresholds in few bits: no program in sight. -/
import Derived.Test.YtjfekjbmgckkcaaGreatDoorBits
namespace Go.Proofs.YtjfekjbmgckkcaaGreatDoor.ThrPure
open Go.Proofs.YtjfekjbmgckkcaaGreatDoor.Bits

/-- is a threshold right? -/
def thrOk (v : Nat) : Bool := decide (v < 9218868437227405312)
/-- has it a power? -/
def pw (v : Nat) : Bool := decide (v % 4503599627370496 = 0 ∧ 780 ≤ v / 4503599627370496 ∧ v / 4503599627370496 ≤ 1033)
/-- its byte. -/
def codeT (v : Nat) : Nat := if v = 0 then 0 else if pw v then v / 4503599627370496 - 779 else 255
theorem codeT_lt (v : Nat) : codeT v ≤ 255 := by
  unfold codeT pw
  split
  · omega
  · split
    · rename_i h; simp at h; omega
    · omega
def encT (v : Nat) : List Bool := nb (codeT v) 8 ++ (if codeT v = 255 then nb v 64 else [])
theorem encT_length (v : Nat) : (encT v).length ≤ 72 := by
  unfold encT
  split <;> simp [nb_length]
/-- the threshold at the beginning of some bits: an error's number, the threshold, how many bits it has. -/
def parseT (q : List Bool) : Nat × Nat × Nat :=
  if q.length < 8 then (16, 0, 0)
  else if val (q.take 8) = 255 then
    if q.length < 72 then (16, 0, 0)
    else if thrOk (val ((q.drop 8).take 64)) = false then (11, 0, 0)
    else if codeT (val ((q.drop 8).take 64)) ≠ 255 then (10, 0, 0)
    else (0, val ((q.drop 8).take 64), 72)
  else if val (q.take 8) = 0 then (0, 0, 8)
  else (0, (val (q.take 8) + 779) * 4503599627370496, 8)
theorem val_lt8 (q : List Bool) : val (q.take 8) < 256 := by
  have := val_lt (q.take 8)
  have h : (q.take 8).length ≤ 8 := by rw [List.length_take]; omega
  have : 2 ^ (q.take 8).length ≤ 2 ^ 8 := Nat.pow_le_pow_right (by decide) h
  omega
theorem parseT_in (q : List Bool) : (parseT q).2.1 < 18446744073709551616 := by
  unfold parseT
  have h8 := val_lt8 q
  split
  · decide
  · split
    · split
      · decide
      · split
        · decide
        · split
          · decide
          · have := val_lt ((q.drop 8).take 64)
            have h : ((q.drop 8).take 64).length ≤ 64 := by rw [List.length_take]; omega
            have : 2 ^ ((q.drop 8).take 64).length ≤ 2 ^ 64 := Nat.pow_le_pow_right (by decide) h
            simp only
            omega
    · split
      · decide
      · simp only; omega
theorem parseT_used (q : List Bool) : (parseT q).2.2 ≤ q.length := by
  unfold parseT
  split
  · exact Nat.zero_le _
  · split
    · split
      · exact Nat.zero_le _
      · split
        · exact Nat.zero_le _
        · split
          · exact Nat.zero_le _
          · simp only; omega
    · split <;> (simp only; omega)
end Go.Proofs.YtjfekjbmgckkcaaGreatDoor.ThrPure
