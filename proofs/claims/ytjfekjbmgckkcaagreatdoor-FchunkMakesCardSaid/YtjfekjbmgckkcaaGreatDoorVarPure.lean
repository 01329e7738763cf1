/- small numbers by few bits: groups, bits, reading. No program in sight. -/
import Derived.Test.YtjfekjbmgckkcaaGreatDoorBits
namespace Go.Proofs.YtjfekjbmgckkcaaGreatDoor.VarPure
open Go.Proofs.YtjfekjbmgckkcaaGreatDoor.Bits

def behind (g : Nat) : Nat := [0, 3, 6, 9, 12, 18, 25, 56, 64].getD g 0
theorem behind_le {g : Nat} : behind g ≤ 64 := by
  rcases Nat.lt_or_ge g 9 with h | h
  · have : ∀ g, g < 9 → behind g ≤ 64 := by decide
    exact this g h
  · rw [behind, List.getD_eq_getElem?_getD, List.getElem?_eq_none (by simpa using h)]; decide
theorem behind_lt {g : Nat} (h : g < 8) : behind g ≤ 56 := by
  have : ∀ g, g < 8 → behind g ≤ 56 := by decide
  exact this g h
theorem behind_mono {a b : Nat} (h : a ≤ b) (hb : b ≤ 8) : behind a ≤ behind b := by
  have : ∀ b, b < 9 → ∀ a, a < 9 → a ≤ b → behind a ≤ behind b := by decide
  exact this b (by omega) a (by omega) h
/-- the first group, of eight, that has it; else the ninth one. -/
def first (p : Nat → Bool) : Nat := (List.range 8).findIdx p
theorem first_le (p : Nat → Bool) : first p ≤ 8 := by
  have := List.findIdx_le_length (xs := List.range 8) (p := p)
  simpa [first] using this
theorem first_lt {p : Nat → Bool} {i : Nat} (h : i < first p) : p i = false := by
  have h8 := first_le p
  have := List.not_of_lt_findIdx (xs := List.range 8) (p := p) h
  simpa using this
theorem first_at {p : Nat → Bool} (h : first p < 8) : p (first p) = true := by
  have := List.findIdx_getElem (xs := List.range 8) (p := p) (w := by simpa [first] using h)
  simpa [first] using this
theorem first_eq {p : Nat → Bool} {g : Nat} (hg : g ≤ 8) (hl : ∀ i, i < g → p i = false) (ha : g < 8 → p g = true) : first p = g := by
  rcases Nat.lt_trichotomy (first p) g with h | h | h
  · have := first_at (p := p) (by omega)
    rw [hl _ h] at this
    cases this
  · exact h
  · have h8 := first_le p
    have := first_lt h
    rw [ha (by omega)] at this
    cases this
theorem first_congr {p q : Nat → Bool} (h : ∀ i, i < 8 → p i = q i) : first p = first q := by
  have h8 := first_le q
  refine first_eq h8 (fun i hi => ?_) fun hi => ?_
  · rw [h i (by omega)]; exact first_lt hi
  · rw [h _ hi]; exact first_at hi
/-- a weaker test is met no later. -/
theorem first_mono {p q : Nat → Bool} (h : ∀ i, i < 8 → p i = true → q i = true) : first q ≤ first p := by
  rcases Nat.lt_or_ge (first p) (first q) with hl | hl
  · have h8 := first_le q
    have h1 := first_at (p := p) (by omega)
    have h2 := h _ (by omega) h1
    rw [first_lt hl] at h2
    cases h2
  · exact hl
/-- may a number with a sign be of a group of n bits? -/
def fits (v : Int) (n : Nat) : Bool :=
  if n = 0 then decide (v = 0) else if n = 64 then true else decide (-(2 ^ (n - 1)) < v ∧ v ≤ 2 ^ (n - 1))
def gS (v : Int) : Nat := first fun g => fits v (behind g)
def gU (x : Nat) : Nat := first fun g => decide (x < 2 ^ behind g)
def ones (g : Nat) : List Bool := List.replicate g true ++ (if g < 8 then [false] else [])
def front (g : Nat) : Nat := if g < 8 then g + 1 else g
theorem ones_length (g : Nat) : (ones g).length = front g := by
  unfold ones front
  split <;> simp
def enc (g x : Nat) : List Bool := ones g ++ nb x (behind g)
theorem enc_length (g x : Nat) : (enc g x).length = front g + behind g := by rw [enc, List.length_append, ones_length, nb_length]
/-- a number with a sign as 64 bits. -/
def u64 (v : Int) : Nat := (v % 18446744073709551616).toNat
theorem u64_lt (v : Int) : u64 v < 18446744073709551616 := by
  unfold u64
  have := Int.emod_lt_of_pos v (show (0 : Int) < 18446744073709551616 by decide)
  have := Int.emod_nonneg v (show (18446744073709551616 : Int) ≠ 0 by decide)
  omega
def encS (v : Int) : List Bool := enc (gS v) (u64 v)
def encU (x : Nat) : List Bool := enc (gU x) x
theorem encS_length (v : Int) : (encS v).length = front (gS v) + behind (gS v) := enc_length _ _
theorem encU_length (x : Nat) : (encU x).length = front (gU x) + behind (gU x) := enc_length _ _
end Go.Proofs.YtjfekjbmgckkcaaGreatDoor.VarPure
