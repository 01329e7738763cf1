/- A burst, the plain law: bits turned in bytes. No program in sight. -/
import Derived.Test.YtdcaoinhhdccoaaDoorCrcPure
namespace Go.Proofs.YtdcaoinhhdccoaaDoor.CrcTurn
open Go.Proofs.YtdcaoinhhdccoaaDoor.Bits Go.Proofs.YtdcaoinhhdccoaaDoor.CrcPure

/-- bits, of which those from 'at' on are turned that the first k bits of t name. -/
def turned (l : List Bool) (p : Nat) (t : BitVec 32) (k : Nat) : List Bool :=
  (List.range l.length).map fun i => (l.getD i false) ^^ (decide (p ≤ i) && decide (i < p + k) && t.getMsbD (i - p))
theorem turned_length (l : List Bool) (p : Nat) (t : BitVec 32) (k : Nat) : (turned l p t k).length = l.length := by simp [turned]
theorem turned_get (l : List Bool) (p : Nat) (t : BitVec 32) (k i : Nat) (h : i < l.length) : (turned l p t k)[i]? = some ((l.getD i false) ^^ (decide (p ≤ i) && decide (i < p + k) && t.getMsbD (i - p))) := by
  simp [turned, h]
theorem turned_zero (l : List Bool) (p : Nat) (t : BitVec 32) : turned l p t 0 = l := by
  apply List.ext_getElem?
  intro i
  rcases Nat.lt_or_ge i l.length with h | h
  · rw [turned_get _ _ _ _ _ h, List.getElem?_eq_getElem h]
    have : (decide (p ≤ i) && decide (i < p + 0)) = false := by
      rcases Nat.lt_or_ge i p with h1 | h1 <;> simp <;> omega
    rw [this]
    simp [h]
  · rw [List.getElem?_eq_none (by rw [turned_length]; exact h), List.getElem?_eq_none h]
/-- a bit that isn't named. -/
theorem turned_skip (l : List Bool) (p : Nat) (t : BitVec 32) (k : Nat) (h : t.getMsbD k = false) : turned l p t (k + 1) = turned l p t k := by
  apply List.ext_getElem?
  intro i
  rcases Nat.lt_or_ge i l.length with hi | hi
  · rw [turned_get _ _ _ _ _ hi, turned_get _ _ _ _ _ hi]
    by_cases he : i = p + k
    · subst he
      rw [show p + k - p = k from by omega, h]
      simp
    · have : decide (i < p + (k + 1)) = decide (i < p + k) := by simp; omega
      rw [this]
  · rw [List.getElem?_eq_none (by rw [turned_length]; exact hi), List.getElem?_eq_none (by rw [turned_length]; exact hi)]
/-- a bit of a byte turned. -/
theorem set_bit (q : List UInt8) (i : Nat) (h : i < 8 * q.length) (c : UInt8) (hc : c.toNat = (q.getD (i / 8) 0).toNat ^^^ 2 ^ (7 - i % 8)) :
    ∀ j, j < 8 * q.length → (bts (q.set (i / 8) c))[j]? = some (((bts q).getD j false) ^^ decide (j = i)) := by
  intro j hj
  rw [bts_get _ _ (by simpa using hj)]
  have hg : (bts q).getD j false = (q.getD (j / 8) 0).toNat.testBit (7 - j % 8) := by
    rw [List.getD_eq_getElem?_getD, bts_get _ _ hj]; rfl
  rw [hg]
  by_cases hb : j / 8 = i / 8
  · have h1 : (q.set (i / 8) c).getD (j / 8) 0 = c := by
      rw [hb, List.getD_eq_getElem?_getD, List.getElem?_set_self (by omega)]; rfl
    rw [h1, hc, hb, Nat.testBit_xor, Nat.testBit_two_pow]
    congr 2
    apply decide_eq_decide.2
    omega
  · have h1 : (q.set (i / 8) c).getD (j / 8) 0 = q.getD (j / 8) 0 := by
      rw [List.getD_eq_getElem?_getD, List.getElem?_set_ne (by omega), ← List.getD_eq_getElem?_getD]
    rw [h1]
    have : decide (j = i) = false := by simp; rintro rfl; exact hb rfl
    rw [this, Bool.xor_false]
/-- a bit that is named. -/
theorem turned_step (l : List Bool) (q : List UInt8) (p : Nat) (t : BitVec 32) (k : Nat) (hq : bts q = turned l p t k) (h : t.getMsbD k = true) (hp : p + k < 8 * q.length) (c : UInt8)
    (hc : c.toNat = (q.getD ((p + k) / 8) 0).toNat ^^^ 2 ^ (7 - (p + k) % 8)) : bts (q.set ((p + k) / 8) c) = turned l p t (k + 1) := by
  have hl : l.length = 8 * q.length := by rw [← bts_length, hq, turned_length]
  apply List.ext_getElem?
  intro i
  rcases Nat.lt_or_ge i l.length with hi | hi
  · rw [set_bit q (p + k) hp c hc i (by omega), hq, turned_get _ _ _ _ _ hi, List.getD_eq_getElem?_getD, turned_get _ _ _ _ _ hi]
    simp only [Option.getD_some, Option.some.injEq]
    by_cases he : i = p + k
    · subst he
      rw [show p + k - p = k from by omega, h]
      simp
    · have h1 : decide (i < p + (k + 1)) = decide (i < p + k) := by simp; omega
      have h2 : decide (i = p + k) = false := by simp [he]
      rw [h1, h2, Bool.xor_false]
  · rw [List.getElem?_eq_none (by rw [bts_length, List.length_set]; omega), List.getElem?_eq_none (by rw [turned_length]; exact hi)]
/-- behind the last one that is named nothing is turned. -/
theorem turned_more (l : List Bool) (p : Nat) (t : BitVec 32) (k m : Nat) (h : ∀ j, k ≤ j → t.getMsbD j = false) : turned l p t (k + m) = turned l p t k := by
  induction m with
  | zero => rfl
  | succ m ih => rw [← Nat.add_assoc, turned_skip _ _ _ _ (h _ (by omega)), ih]
def burst (l : List UInt8) (p : Nat) (t : BitVec 32) : List UInt8 := pack (turned (bts l) p t 32)
theorem bts_burst (l : List UInt8) (p : Nat) (t : BitVec 32) : bts (burst l p t) = turned (bts l) p t 32 := by
  rw [burst, bts_pack _ _ rfl, turned_length, bts_length]
  rw [show (8 - 8 * l.length % 8) % 8 = 0 from by omega]
  simp
theorem burst_of {l q : List UInt8} {p : Nat} {t : BitVec 32} (h : bts q = turned (bts l) p t 32) : q = burst l p t := by
  rw [← pack_bts q, h]; rfl
theorem burst_length (l : List UInt8) (p : Nat) (t : BitVec 32) : (burst l p t).length = l.length := by
  rw [burst, pack_length, turned_length, bts_length]; omega
theorem turned_twice (l : List Bool) (p : Nat) (t : BitVec 32) (k : Nat) : turned (turned l p t k) p t k = l := by
  apply List.ext_getElem?
  intro i
  rcases Nat.lt_or_ge i l.length with hi | hi
  · rw [turned_get _ _ _ _ _ (by rw [turned_length]; exact hi), List.getD_eq_getElem?_getD, turned_get _ _ _ _ _ hi, List.getElem?_eq_getElem hi]
    simp [hi]
  · rw [List.getElem?_eq_none (by rw [turned_length, turned_length]; exact hi), List.getElem?_eq_none hi]
theorem burst_twice (l : List UInt8) (p : Nat) (t : BitVec 32) : burst (burst l p t) p t = l := by
  rw [burst, bts_burst, turned_twice, pack_bts]
end Go.Proofs.YtdcaoinhhdccoaaDoor.CrcTurn
