/- groups: which bits a number has, and which numbers have them; further from 0. No program in sight. -/
import Derived.Test.YtjfekjbmgckkcaaGreatDoorVarParse
namespace Go.Proofs.YtjfekjbmgckkcaaGreatDoor.VarPure
open Go.Proofs.YtjfekjbmgckkcaaGreatDoor.Bits

theorem enc_parse {q x t : List Bool} {k : Nat} (h : parse q = some (k, x, t)) : q.take (front k + behind k) = enc k (val x) := by
  obtain ⟨hk, rfl, hx⟩ := parse_some h
  rw [← List.append_assoc, List.take_left' (by rw [List.length_append, ones_length, hx]), enc]
  congr 1
  rw [← hx, nb_val]
theorem ones_inj {a b : Nat} {x y : List Bool} (ha : a < 9) (hb : b < 9) (h : ones a ++ x = ones b ++ y) : a = b := by
  have h1 := lead_enc ha x
  rw [h, lead_enc hb] at h1
  exact h1.symm
theorem enc_inj {a b x y : Nat} (ha : a < 9) (hb : b < 9) (h : enc a x = enc b y) : a = b := ones_inj ha hb h
/-- the size of a group grows. -/
theorem size_mono {a b : Nat} (h : a ≤ b) (hb : b < 9) : front a + behind a ≤ front b + behind b := by
  have : ∀ b, b < 9 → ∀ a, a < 9 → a ≤ b → front a + behind a ≤ front b + behind b := by decide
  exact this b hb a (by omega) h
theorem size_lt {a b : Nat} (h : a < b) (hb : b < 9) : front a + behind a < front b + behind b := by
  have : ∀ b, b < 9 → ∀ a, a < 9 → a < b → front a + behind a < front b + behind b := by decide
  exact this b hb a (by omega) h
/-- a number without a sign further from 0 never has a smaller group. -/
theorem gU_mono {x y : Nat} (h : x ≤ y) : gU x ≤ gU y := first_mono fun i _ hi => by
  have := of_decide_eq_true hi
  exact decide_eq_true (by omega)
theorem fits_mono {v z : Int} {n : Nat} (h : fits z n = true) (hv : (0 ≤ v ∧ v ≤ z) ∨ (z ≤ v ∧ v ≤ 0)) : fits v n = true := by
  unfold fits at *
  by_cases h0 : n = 0
  · rw [if_pos h0] at h ⊢
    have := of_decide_eq_true h
    exact decide_eq_true (by omega)
  · rw [if_neg h0] at h ⊢
    by_cases h6 : n = 64
    · rw [if_pos h6]
    · rw [if_neg h6] at h ⊢
      have h2 := of_decide_eq_true h
      have hp : (0 : Int) < 2 ^ (n - 1) := Int.pow_pos (by decide)
      exact decide_eq_true (by omega)
theorem gS_mono {v z : Int} (hv : (0 ≤ v ∧ v ≤ z) ∨ (z ≤ v ∧ v ≤ 0)) : gS v ≤ gS z := first_mono fun _ _ hi => fits_mono hi hv
theorem encU_mono {x y : Nat} (h : x ≤ y) : (encU x).length ≤ (encU y).length := by
  rw [encU_length, encU_length]
  exact size_mono (gU_mono h) (gU_lt y)
theorem encS_mono {v z : Int} (hv : (0 ≤ v ∧ v ≤ z) ∨ (z ≤ v ∧ v ≤ 0)) : (encS v).length ≤ (encS z).length := by
  rw [encS_length, encS_length]
  exact size_mono (gS_mono hv) (gS_lt z)
/-- the numbers of a group's bits, with a sign, fit it. -/
theorem sgd_fits {y k : Nat} (hk : k < 9) (hy : y < 2 ^ behind k) : fits (sgd y (behind k)) (behind k) = true := by
  have : k = 0 ∨ k = 1 ∨ k = 2 ∨ k = 3 ∨ k = 4 ∨ k = 5 ∨ k = 6 ∨ k = 7 ∨ k = 8 := by omega
  rcases this with rfl | rfl | rfl | rfl | rfl | rfl | rfl | rfl | rfl
  all_goals simp [behind, fits, sgd] at hy ⊢
  all_goals first
    | exact hy
    | (split <;> omega)
    | skip
theorem gS_le_of_fits {v : Int} {k : Nat} (_ : k ≤ 8) (h : fits v (behind k) = true) : gS v ≤ k := by
  rcases Nat.lt_or_ge k (gS v) with hl | hl
  · have := first_lt (p := fun g => fits v (behind g)) hl
    rw [h] at this
    cases this
  · exact hl
theorem gU_le_of_lt {x k : Nat} (_ : k ≤ 8) (h : x < 2 ^ behind k) : gU x ≤ k := by
  rcases Nat.lt_or_ge k (gU x) with hl | hl
  · have := first_lt (p := fun g => decide (x < 2 ^ behind g)) hl
    exact absurd h (of_decide_eq_false this)
  · exact hl
/-- what a group's bits are with a sign, are they the number's own. -/
theorem encS_sgd {k : Nat} {x : List Bool} (hk : k < 9) (hx : x.length = behind k) (h : gS (sgd (val x) (behind k)) = k) : encS (sgd (val x) (behind k)) = enc k (val x) := by
  rw [encS, h, enc, enc]
  congr 1
  have hv : val x < 2 ^ behind k := by rw [← hx]; exact val_lt x
  rw [← nb_mod (u64 _)]
  congr 1
  have : k = 0 ∨ k = 1 ∨ k = 2 ∨ k = 3 ∨ k = 4 ∨ k = 5 ∨ k = 6 ∨ k = 7 ∨ k = 8 := by omega
  generalize val x = y at hv
  rcases this with rfl | rfl | rfl | rfl | rfl | rfl | rfl | rfl | rfl
  all_goals simp only [behind, sgd, u64, List.getD_cons_succ, List.getD_cons_zero] at hv ⊢
  all_goals simp at hv ⊢
  all_goals first
    | omega
    | (split <;> omega)
    | skip
  · rw [show (i64 y % 18446744073709551616).toNat = y from u64_i64 y hv]; omega
end Go.Proofs.YtjfekjbmgckkcaaGreatDoor.VarPure
