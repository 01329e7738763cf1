/- rows of numbers that go on evenly: what is put of a number, what is read. No program in sight. -/
import Derived.Test.YtlbkdmggafkghaaDoorVarPure2
namespace Go.Proofs.YtlbkdmggafkghaaDoor.TimesPure
open Go.Proofs.YtlbkdmggafkghaaDoor.Bits Go.Proofs.YtlbkdmggafkghaaDoor.VarPure

/-- a difference of numbers of 64 bits. -/
def sub64 (a b : Nat) : Nat := (a + (18446744073709551616 - b)) % 18446744073709551616
def add64 (a b : Nat) : Nat := (a + b) % 18446744073709551616
theorem sub64_lt (a b : Nat) : sub64 a b < 18446744073709551616 := Nat.mod_lt _ (by decide)
theorem add64_lt (a b : Nat) : add64 a b < 18446744073709551616 := Nat.mod_lt _ (by decide)
theorem add_sub (a b : Nat) (ha : a < 18446744073709551616) (hb : b < 18446744073709551616) : add64 b (sub64 a b) = a := by
  unfold add64 sub64; omega
theorem sub_add (a b : Nat) (ha : a < 18446744073709551616) (hb : b < 18446744073709551616) : sub64 (add64 b a) b = a := by
  unfold add64 sub64; omega
/-- the bits of a number: first: whether there are no others; sg: whether the first one has a sign. -/
def told (sg : Bool) (last step n v : Nat) : List Bool :=
  if n = 0 then (if sg then encS (i64 v) else encU v) else encS (i64 (sub64 (sub64 v last) step))
/-- the step to a number. -/
def stepTo (last n v : Nat) : Nat := if n = 0 then 0 else sub64 v last
theorem stepTo_lt (last n v : Nat) : stepTo last n v < 18446744073709551616 := by
  unfold stepTo
  split
  · decide
  · exact sub64_lt _ _
/-- rows of numbers: the last one, the step. -/
def lastOf (l : List Nat) : Nat := l.getLast?.getD 0
def stepOf (l : List Nat) : Nat := if l.length < 2 then 0 else sub64 (l.getD (l.length - 1) 0) (l.getD (l.length - 2) 0)
theorem lastOf_snoc (l : List Nat) (v : Nat) : lastOf (l ++ [v]) = v := by simp [lastOf]
theorem stepOf_snoc (l : List Nat) (v : Nat) : stepOf (l ++ [v]) = stepTo (lastOf l) l.length v := by
  unfold stepOf stepTo lastOf
  rcases Nat.eq_zero_or_pos l.length with h | h
  · have : l = [] := List.length_eq_zero_iff.1 h
    subst this
    rw [if_pos (by simp), if_pos List.length_nil]
  · rw [if_neg (by rw [List.length_append]; simp; omega), if_neg (by omega), List.length_append, List.length_singleton]
    congr 1
    · simp [List.getD_eq_getElem?_getD]
    · rw [show l.length + 1 - 2 = l.length - 1 from by omega, List.getD_eq_getElem?_getD, List.getElem?_append_left (by omega), List.getLast?_eq_getElem?]
/-- the bits of a number behind others. -/
def toldL (sg : Bool) (l : List Nat) (v : Nat) : List Bool := told sg (lastOf l) (stepOf l) l.length v
/-- the bits of numbers behind others. -/
def allL (sg : Bool) : List Nat → List Nat → List Bool
  | _, [] => []
  | l, v :: t => toldL sg l v ++ allL sg (l ++ [v]) t
theorem allL_snoc (sg : Bool) : ∀ (t l : List Nat) (v : Nat), allL sg l (t ++ [v]) = allL sg l t ++ toldL sg (l ++ t) v
  | [], l, v => by simp [allL]
  | u :: t, l, v => by
    simp only [List.cons_append, allL, allL_snoc sg t (l ++ [u]) v, List.append_assoc]
    rfl
end Go.Proofs.YtlbkdmggafkghaaDoor.TimesPure
