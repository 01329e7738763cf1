/- The sums' plain law: a register of 32 bts that is fed bit by bit. No program in sight. -/
import Derived.Test.YtdcaoinhhdccoaaDoorBits
namespace Go.Proofs.YtdcaoinhhdccoaaDoor.CrcPure
open Go.Proofs.YtdcaoinhhdccoaaDoor.Bits

def poly : BitVec 32 := 79764919#32
/-- one more bit. -/
def F (r : BitVec 32) (b : Bool) : BitVec 32 := (r <<< 1) ^^^ (if (r.msb ^^ b) then poly else 0#32)
def feed (r : BitVec 32) (l : List Bool) : BitVec 32 := l.foldl F r
theorem feed_nil (r : BitVec 32) : feed r [] = r := rfl
theorem feed_cons (r : BitVec 32) (b : Bool) (l : List Bool) : feed r (b :: l) = feed (F r b) l := rfl
theorem feed_append (r : BitVec 32) (a b : List Bool) : feed r (a ++ b) = feed (feed r a) b := by simp [feed]
def go (s : BitVec 32) (l : List UInt8) : BitVec 32 := ~~~ feed (~~~ s) (bts l)
def sum (l : List UInt8) : BitVec 32 := go 0#32 l
theorem go_append (s : BitVec 32) (a b : List UInt8) : go s (a ++ b) = go (go s a) b := by simp [go, bts_append, feed_append]

/-! ### linear -/
theorem xlc (a b c : BitVec 32) : a ^^^ (b ^^^ c) = b ^^^ (a ^^^ c) := by rw [← BitVec.xor_assoc, BitVec.xor_comm a b, BitVec.xor_assoc]
theorem xss (a c : BitVec 32) : a ^^^ (a ^^^ c) = c := by rw [← BitVec.xor_assoc, BitVec.xor_self, BitVec.zero_xor]
theorem F_xor (r e : BitVec 32) (b c : Bool) : F (r ^^^ e) (b ^^ c) = F r b ^^^ F e c := by
  unfold F
  rw [BitVec.shiftLeft_xor_distrib, BitVec.msb_xor]
  cases r.msb <;> cases e.msb <;> cases b <;> cases c <;> simp [BitVec.xor_assoc, BitVec.xor_comm, xlc, xss]
theorem feed_xor (l m : List Bool) (h : l.length = m.length) : ∀ r e : BitVec 32, feed (r ^^^ e) (List.zipWith xor l m) = feed r l ^^^ feed e m := by
  induction l generalizing m with
  | nil => intro r e; cases m with | nil => rfl | cons => simp at h
  | cons b l ih =>
    intro r e
    cases m with
    | nil => simp at h
    | cons c m =>
      rw [List.zipWith_cons_cons, feed_cons, feed_cons, feed_cons]
      show feed (F (r ^^^ e) (b ^^ c)) _ = _
      rw [F_xor, ih m (by simpa using h)]
/-- noughts alone. -/
def zeros (n : Nat) (r : BitVec 32) : BitVec 32 := feed r (List.replicate n false)
theorem zeros_zero (r : BitVec 32) : zeros 0 r = r := rfl
theorem zeros_succ (n : Nat) (r : BitVec 32) : zeros (n + 1) r = zeros n (F r false) := by simp [zeros, List.replicate_succ, feed_cons]
theorem zeros_succ' (n : Nat) (r : BitVec 32) : zeros (n + 1) r = F (zeros n r) false := by simp [zeros, List.replicate_succ', feed_append]; rfl
theorem zeros_xor (n : Nat) (r e : BitVec 32) : zeros n (r ^^^ e) = zeros n r ^^^ zeros n e := by
  rw [zeros, zeros, zeros, ← feed_xor _ _ rfl]
  congr 1
  rw [List.zipWith_replicate]; simp
theorem zeros_nil (n : Nat) : zeros n 0#32 = 0#32 := by
  induction n with
  | zero => rfl
  | succ n ih => rw [zeros_succ]; have : F 0#32 false = 0#32 := by decide
                 rw [this, ih]

/-- a nought loses nothing. -/
theorem F_ne {r : BitVec 32} (h : r ≠ 0#32) : F r false ≠ 0#32 := by
  intro h0
  unfold F at h0
  cases hm : r.msb with
  | true =>
    rw [hm] at h0
    have := congrArg (fun x => x.getLsbD 0) h0
    simp [poly] at this
  | false =>
    rw [hm] at h0
    simp at h0
    apply h
    apply BitVec.eq_of_getLsbD_eq
    intro i hi
    rcases Nat.lt_or_ge i 31 with h31 | h31
    · have := congrArg (fun x => x.getLsbD (i + 1)) h0
      simp at this
      simp [this (by omega)]
    · have : i = 31 := by omega
      subst this
      simp [BitVec.msb_eq_getLsbD_last] at hm
      simp [hm]
theorem zeros_ne (n : Nat) {r : BitVec 32} (h : r ≠ 0#32) : zeros n r ≠ 0#32 := by
  induction n generalizing r with
  | zero => exact h
  | succ n ih => rw [zeros_succ]; exact ih (F_ne h)

/-! ### a byte at a time, as the program does it -/
theorem feed_byte_zero : ∀ c : BitVec 8, zeros 8 ((c.setWidth 32) <<< 24) = feed 0#32 (nb c.toNat 8) := by decide +kernel
theorem step_eq (r : BitVec 32) (c : UInt8) : zeros 8 (r ^^^ (c.toBitVec.setWidth 32) <<< 24) = feed r (bb c) := by
  rw [zeros_xor, feed_byte_zero]
  have h := feed_xor (List.replicate 8 false) (bb c) (by simp [bb_length]) r 0#32
  rw [show (nb c.toBitVec.toNat 8) = bb c from rfl]
  rw [zeros, ← h, BitVec.xor_zero]
  congr 1
  apply List.ext_getElem
  · simp [bb_length]
  · intro i h1 h2
    rw [List.getElem_zipWith, List.getElem_replicate, Bool.false_xor]

end Go.Proofs.YtdcaoinhhdccoaaDoor.CrcPure
