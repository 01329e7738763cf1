/- a head's bits: no program in sight. -/
import Derived.Test.YtjfekjbmgckkcaaGreatDoorHeadB
import Derived.Test.YtjfekjbmgckkcaaGreatDoorVarbitD
namespace Go.Proofs.YtjfekjbmgckkcaaGreatDoor.HeadPure
open Go.RowKit
open Go.Proofs.YtjfekjbmgckkcaaGreatDoor.Bits Go.Proofs.YtjfekjbmgckkcaaGreatDoor.Base Go.Proofs.YtjfekjbmgckkcaaGreatDoor.VarPure Go.Proofs.YtjfekjbmgckkcaaGreatDoor.SpanPure Go.Proofs.YtjfekjbmgckkcaaGreatDoor.ThrPure Go.Proofs.YtjfekjbmgckkcaaGreatDoor.HeadA Go.Proofs.YtjfekjbmgckkcaaGreatDoor.HeadB

/-- a span's bits. -/
def encSp1 (s : Sp) : List Bool := encU s.2.toNat ++ encS s.1
def encSps (l : List Sp) : List Bool := l.flatMap encSp1
/-- spans' bits. -/
def encSp (l : List Sp) : List Bool := encU l.length ++ encSps l
/-- a head's bits. -/
def encH (h : Hd) : List Bool := nb ((2 * h.hint.toNat + h.vr.toNat) * 32) 8 ++ encS h.schema ++ encT h.zero ++ encSp h.pos ++ encSp h.neg
theorem front_le {g : Nat} (h : g < 9) : front g ≤ 8 := by unfold front; split <;> omega
theorem encU_le (x : Nat) : (encU x).length ≤ 72 := by rw [encU_length]; have := front_le (gU_lt x); have := behind_le (g := gU x); omega
theorem encS_le (v : Int) : (encS v).length ≤ 72 := by rw [encS_length]; have := front_le (gS_lt v); have := behind_le (g := gS v); omega
theorem encSps_le (l : List Sp) : (encSps l).length ≤ 144 * l.length := by
  induction l with
  | nil => exact Nat.le_refl _
  | cons s l ih =>
    have e : encSps (s :: l) = encSp1 s ++ encSps l := rfl
    rw [e, List.length_append, List.length_cons, encSp1, List.length_append]
    have := encU_le s.2.toNat
    have := encS_le s.1
    omega
theorem encSp_le (l : List Sp) : (encSp l).length ≤ 72 + 144 * l.length := by
  rw [encSp, List.length_append]
  have := encU_le l.length
  have := encSps_le l
  omega
theorem encSps_snoc (l : List Sp) (s : Sp) : encSps (l ++ [s]) = encSps l ++ encSp1 s := by simp [encSps]
theorem encSps_take (l : List Sp) (k : Nat) (h : k < l.length) : encSps (l.take (k + 1)) = encSps (l.take k) ++ encSp1 l[k] := by
  rw [List.take_succ_eq_append_getElem h, encSps_snoc]
end Go.Proofs.YtjfekjbmgckkcaaGreatDoor.HeadPure
