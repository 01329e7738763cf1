/- what bits begin with: a group's ones, its bits, and the others; a number with a sign. No program in sight. -/
import Derived.Test.YtjfekjbmgckkcaaGreatDoorVarPure
namespace Go.Proofs.YtjfekjbmgckkcaaGreatDoor.VarPure
open Go.Proofs.YtjfekjbmgckkcaaGreatDoor.Bits

/-- how many ones stand ahead, of n. -/
def lead : Nat → List Bool → Nat
  | n + 1, true :: q => lead n q + 1
  | _, _ => 0
theorem lead_le : ∀ (n : Nat) (q : List Bool), lead n q ≤ n
  | 0, q => by cases q <;> exact Nat.le_refl 0
  | n + 1, [] => Nat.zero_le _
  | n + 1, false :: q => Nat.zero_le _
  | n + 1, true :: q => Nat.succ_le_succ (lead_le n q)
theorem lead_split : ∀ (n : Nat) (q : List Bool), (q = List.replicate (lead n q) true ∧ lead n q < n) ∨ (∃ y, q = List.replicate (lead n q) true ++ ((if lead n q < n then [false] else []) ++ y))
  | 0, q => .inr ⟨q, by cases q <;> rfl⟩
  | n + 1, [] => .inl ⟨rfl, Nat.succ_pos _⟩
  | n + 1, false :: q => .inr ⟨q, rfl⟩
  | n + 1, true :: q => by
    rcases lead_split n q with ⟨h1, h2⟩ | ⟨y, hy⟩
    · exact .inl ⟨by conv => lhs; rw [h1]
                     rfl, Nat.succ_lt_succ h2⟩
    · refine .inr ⟨y, ?_⟩
      have : (lead (n + 1) (true :: q) < n + 1) = (lead n q < n) := by simp [lead]
      simp only [this]
      conv => lhs; rw [hy]
      rfl
theorem lead_ones : ∀ (n k : Nat) (y : List Bool), k ≤ n → lead n (List.replicate k true ++ ((if k < n then [false] else []) ++ y)) = k
  | 0, 0, y, _ => by cases y <;> rfl
  | n + 1, 0, y, _ => rfl
  | n + 1, k + 1, y, h => by
    have := lead_ones n k y (Nat.le_of_succ_le_succ h)
    simp only [Nat.succ_lt_succ_iff, List.replicate_succ, List.cons_append, lead]
    rw [this]
theorem lead_all : ∀ (n k : Nat), k ≤ n → lead n (List.replicate k true) = k
  | 0, 0, _ => rfl
  | n + 1, 0, _ => rfl
  | n + 1, k + 1, h => by
    simp only [List.replicate_succ, lead]
    rw [lead_all n k (Nat.le_of_succ_le_succ h)]
/-- a group, its bits, and what stands behind. -/
def parse (q : List Bool) : Option (Nat × List Bool × List Bool) :=
  if q.length < front (lead 8 q) + behind (lead 8 q) then none
  else some (lead 8 q, (q.drop (front (lead 8 q))).take (behind (lead 8 q)), q.drop (front (lead 8 q) + behind (lead 8 q)))
theorem lead_enc {k : Nat} (hk : k < 9) (y : List Bool) : lead 8 (ones k ++ y) = k := by
  rw [ones, List.append_assoc]; exact lead_ones 8 k y (by omega)
theorem parse_ok {k : Nat} (hk : k < 9) {x : List Bool} (t : List Bool) (hx : x.length = behind k) : parse (ones k ++ (x ++ t)) = some (k, x, t) := by
  have hl := ones_length k
  unfold parse
  rw [lead_enc hk, if_neg (by simp only [List.length_append]; omega)]
  rw [List.drop_left' hl, List.take_left' hx, ← List.append_assoc, List.drop_left' (by rw [List.length_append]; omega)]
theorem parse_enc {k : Nat} (hk : k < 9) (x : Nat) (t : List Bool) : parse (enc k x ++ t) = some (k, nb x (behind k), t) := by
  rw [enc, List.append_assoc]
  exact parse_ok hk t (nb_length _ _)
theorem parse_cases (q : List Bool) : (∃ k, k < 8 ∧ q = List.replicate k true ∧ parse q = none) ∨ (∃ k y, k < 9 ∧ q = ones k ++ y ∧ y.length < behind k ∧ parse q = none) ∨
    (∃ k x t, k < 9 ∧ q = ones k ++ (x ++ t) ∧ x.length = behind k ∧ parse q = some (k, x, t)) := by
  have hle := lead_le 8 q
  rcases lead_split 8 q with ⟨h1, h2⟩ | ⟨y, hy⟩
  · refine .inl ⟨lead 8 q, h2, h1, ?_⟩
    unfold parse
    have hlen : q.length = lead 8 q := by
      have := congrArg List.length h1
      rwa [List.length_replicate] at this
    rw [if_pos]
    rw [front, if_pos h2]; omega
  · rw [← List.append_assoc] at hy
    have hq : q = ones (lead 8 q) ++ y := hy
    obtain ⟨k, hk⟩ : ∃ k, k = lead 8 q := ⟨_, rfl⟩
    rw [← hk] at hq hle
    have hl := ones_length k
    rcases Nat.lt_or_ge y.length (behind k) with h | h
    · refine .inr (.inl ⟨k, y, by omega, hq, h, ?_⟩)
      unfold parse
      rw [← hk, if_pos]
      rw [hq, List.length_append]; omega
    · refine .inr (.inr ⟨k, y.take (behind k), y.drop (behind k), by omega, by rw [List.take_append_drop]; exact hq, by rw [List.length_take]; omega, ?_⟩)
      have := parse_ok (k := k) (by omega) (y.drop (behind k)) (x := y.take (behind k)) (by rw [List.length_take]; omega)
      rw [List.take_append_drop, ← hq] at this
      exact this
theorem parse_some {q x t : List Bool} {k : Nat} (h : parse q = some (k, x, t)) : k < 9 ∧ q = ones k ++ (x ++ t) ∧ x.length = behind k := by
  rcases parse_cases q with ⟨_, _, _, h1⟩ | ⟨_, _, _, _, _, h1⟩ | ⟨k1, x1, t1, h1, h2, h3, h4⟩
  · rw [h1] at h; cases h
  · rw [h1] at h; cases h
  · rw [h4] at h
    injection h with h
    injection h with ha hb
    injection hb with hb hc
    subst ha; subst hb; subst hc
    exact ⟨h1, h2, h3⟩

/-! ### a number with a sign -/
def i64 (y : Nat) : Int := if y < 9223372036854775808 then (y : Int) else (y : Int) - 18446744073709551616
/-- the number of n bits. -/
def sgd (y n : Nat) : Int := if n = 64 then i64 y else if 0 < n ∧ 2 ^ (n - 1) < y then (y : Int) - 2 ^ n else (y : Int)
theorem i64_u64 (v : Int) (h1 : -9223372036854775808 ≤ v) (h2 : v ≤ 9223372036854775807) : i64 (u64 v) = v := by
  unfold i64 u64
  split <;> omega
theorem u64_i64 (y : Nat) (h : y < 18446744073709551616) : u64 (i64 y) = y := by
  unfold i64 u64
  split <;> omega
theorem i64_range (y : Nat) (h : y < 18446744073709551616) : -9223372036854775808 ≤ i64 y ∧ i64 y ≤ 9223372036854775807 := by
  unfold i64
  split <;> omega
theorem fits_bound {v : Int} {g : Nat} (hg : g < 9) (hf : fits v (behind g) = true) (h1 : -9223372036854775808 ≤ v) (h2 : v ≤ 9223372036854775807) : sgd (u64 v % 2 ^ behind g) (behind g) = v := by
  have : g = 0 ∨ g = 1 ∨ g = 2 ∨ g = 3 ∨ g = 4 ∨ g = 5 ∨ g = 6 ∨ g = 7 ∨ g = 8 := by omega
  rcases this with rfl | rfl | rfl | rfl | rfl | rfl | rfl | rfl | rfl
  · simp [behind, fits] at hf
    subst hf
    rfl
  all_goals simp only [behind, fits, sgd, u64, List.getD_cons_succ, List.getD_cons_zero] at hf ⊢
  all_goals simp at hf ⊢
  all_goals first
    | (split <;> omega)
    | skip
  · rw [Nat.mod_eq_of_lt (by omega)]
    exact i64_u64 v h1 h2
theorem gU_fits {x : Nat} (hx : x < 18446744073709551616) : x < 2 ^ behind (gU x) := by
  rcases Nat.lt_or_ge (gU x) 8 with h | h
  · exact of_decide_eq_true (first_at (p := fun g => decide (x < 2 ^ behind g)) h)
  · have : gU x ≤ 8 := first_le _
    rw [show gU x = 8 from by omega]
    exact hx
theorem gS_fits (v : Int) : fits v (behind (gS v)) = true := by
  rcases Nat.lt_or_ge (gS v) 8 with h | h
  · exact first_at (p := fun g => fits v (behind g)) h
  · have : gS v ≤ 8 := first_le _
    rw [show gS v = 8 from by omega]
    rfl
theorem gU_lt (x : Nat) : gU x < 9 := Nat.lt_succ_of_le (first_le _)
theorem gS_lt (v : Int) : gS v < 9 := Nat.lt_succ_of_le (first_le _)
end Go.Proofs.YtjfekjbmgckkcaaGreatDoor.VarPure
