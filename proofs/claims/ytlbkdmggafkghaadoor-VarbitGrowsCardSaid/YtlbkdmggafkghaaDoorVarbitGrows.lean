/- law 04: a number further from 0, on the same side, never has fewer bits. -/
import Derived.Test.YtlbkdmggafkghaaDoorLaw04A
import Derived.Test.YtlbkdmggafkghaaDoorVarPure2
namespace Go.Proofs.YtlbkdmggafkghaaDoor.VarbitGrows
open Go.RowKit Go.Proofs.YtlbkdmggafkghaaDoorW.PrintWords
open Go.Proofs.YtlbkdmggafkghaaDoor.Bits Go.Proofs.YtlbkdmggafkghaaDoor.Base Go.Proofs.YtlbkdmggafkghaaDoor.VarPure Go.Proofs.YtlbkdmggafkghaaDoor.VarbitA Go.Proofs.YtlbkdmggafkghaaDoor.VarKit Go.Proofs.YtlbkdmggafkghaaDoor.Law04A

theorem and63 (a : Nat) (ha : a < 18446744073709551616) : Go.bits .and .u64 (a : Int) 9223372036854775807 = ((a % 9223372036854775808 : Nat) : Int) := by
  have h := u64_and_nat a 9223372036854775807 ha (by decide)
  rw [show ((9223372036854775807 : Nat) : Int) = 9223372036854775807 from rfl] at h
  rw [h]
  congr 1
  exact Nat.and_two_pow_sub_one_eq_mod a 63
/-- what is asked of sizes: one is no smaller. -/
theorem le_dec {a b : Nat} (h : a ≤ b) : decide ((a : Int) ≤ (b : Int)) = true := by simp; omega
theorem encU_72 (x : Nat) : (encU x).length ≤ 72 := by
  rw [encU_length, front]
  have := gU_lt x
  have := behind_le (g := gU x)
  split <;> omega

set_option maxHeartbeats 1600000 in
theorem lt1 (a b p q : Nat) (w : World) (hT : Tab w) (ha : a < 18446744073709551616) (hb : b < 18446744073709551616) (hab : a < b) (hp : p < 9223372036854775808) (hq : q < 9223372036854775808) 
    (hA : Go.bits .and .u64 (a : Int) 9223372036854775807 = (p : Int)) (hB : Go.bits .and .u64 (b : Int) 9223372036854775807 = (q : Int)) (hpq : p ≤ q) :
    Calls Tryd.prog 6 #[.int .u64 a, .int .u64 b] w fun e w' => e = .returned (.bool true) ∧ Below w.heap.size w w' := by
  have CAW := Lib.hid (awake_calls w hT)
  have C1 := Lib.hid (lenU_calls a w hT ha)
  have C2 := Lib.hid (lenU_calls b w hT hb)
  have C3 := Lib.hid (lenS_calls p w hT (by omega) (by omega))
  have C4 := Lib.hid (lenS_calls q w hT (by omega) (by omega))
  have C5 := Lib.hid (lenS_calls (-(p : Int)) w hT (by omega) (by omega))
  have C6 := Lib.hid (lenS_calls (-(q : Int)) w hT (by omega) (by omega))
  have d1 := le_dec (encU_mono (x := a) (y := b) (by omega))
  have d2 := le_dec (encS_mono (v := p) (z := q) (by omega))
  have d3 := le_dec (encS_mono (v := -(p : Int)) (z := -(q : Int)) (by omega))
  have d4 := le_dec (encU_72 b)
  rw [show ((72 : Nat) : Int) = 72 from rfl] at d4
  have e1 : (a : Int) < b := by omega
  have g1 : decide ((p : Int) > (q : Int)) = false := by simp; omega
  have g1' : decide ((q : Int) < (p : Int)) = false := by simp; omega
  obtain ⟨m0, hm0⟩ : ∃ m, m = (encU a).length := ⟨_, rfl⟩
  obtain ⟨m1, hm1⟩ : ∃ m, m = (encU b).length := ⟨_, rfl⟩
  obtain ⟨m2, hm2⟩ : ∃ m, m = (encS (p : Int)).length := ⟨_, rfl⟩
  obtain ⟨m3, hm3⟩ : ∃ m, m = (encS (q : Int)).length := ⟨_, rfl⟩
  obtain ⟨m4, hm4⟩ : ∃ m, m = (encS (-(p : Int))).length := ⟨_, rfl⟩
  obtain ⟨m5, hm5⟩ : ∃ m, m = (encS (-(q : Int))).length := ⟨_, rfl⟩
  simp only [← hm0] at C1 C2 C3 C4 C5 C6 d1 d2 d3 d4
  simp only [← hm1] at C1 C2 C3 C4 C5 C6 d1 d2 d3 d4
  simp only [← hm2] at C1 C2 C3 C4 C5 C6 d1 d2 d3 d4
  simp only [← hm3] at C1 C2 C3 C4 C5 C6 d1 d2 d3 d4
  simp only [← hm4] at C1 C2 C3 C4 C5 C6 d1 d2 d3 d4
  simp only [← hm5] at C1 C2 C3 C4 C5 C6 d1 d2 d3 d4
  have n1 : decide (m0 ≤ m1) = true := by have := of_decide_eq_true d1; simp; omega
  have n2 : decide (m2 ≤ m3) = true := by have := of_decide_eq_true d2; simp; omega
  have n3 : decide (m4 ≤ m5) = true := by have := of_decide_eq_true d3; simp; omega
  have n4 : decide (m1 ≤ 72) = true := by have := of_decide_eq_true d4; simp; omega
  clear hT hm0 hm1 hm2 hm3 hm4 hm5
  go_enter Tryd.func6, Tryd.ntmps6
  go_wp2_with (first | (go_at_call_of 18 a; refine C1.out.mono ?_; rintro e w' ⟨rfl, rfl⟩) | (go_at_call_of 18 b; refine C2.out.mono ?_; rintro e w' ⟨rfl, rfl⟩) | (go_at_call 17; first | (refine C3.out.mono ?_; rintro e w' ⟨rfl, rfl⟩) | (refine C4.out.mono ?_; rintro e w' ⟨rfl, rfl⟩) | (refine C5.out.mono ?_; rintro e w' ⟨rfl, rfl⟩) | (refine C6.out.mono ?_; rintro e w' ⟨rfl, rfl⟩)) | (go_at_call 25; refine CAW.out.mono ?_; rintro e w1 ⟨rfl, hb1⟩))
  go_ret
  exact ⟨rfl, hb1⟩

set_option maxHeartbeats 1600000 in
theorem lt2 (a b p q : Nat) (w : World) (hT : Tab w) (ha : a < 18446744073709551616) (hb : b < 18446744073709551616) (hab : a < b) (hp : p < 9223372036854775808) (hq : q < 9223372036854775808) 
    (hA : Go.bits .and .u64 (a : Int) 9223372036854775807 = (p : Int)) (hB : Go.bits .and .u64 (b : Int) 9223372036854775807 = (q : Int)) (hpq : q < p) :
    Calls Tryd.prog 6 #[.int .u64 a, .int .u64 b] w fun e w' => e = .returned (.bool true) ∧ Below w.heap.size w w' := by
  have CAW := Lib.hid (awake_calls w hT)
  have C1 := Lib.hid (lenU_calls a w hT ha)
  have C2 := Lib.hid (lenU_calls b w hT hb)
  have C3 := Lib.hid (lenS_calls q w hT (by omega) (by omega))
  have C4 := Lib.hid (lenS_calls p w hT (by omega) (by omega))
  have C5 := Lib.hid (lenS_calls (-(q : Int)) w hT (by omega) (by omega))
  have C6 := Lib.hid (lenS_calls (-(p : Int)) w hT (by omega) (by omega))
  have d1 := le_dec (encU_mono (x := a) (y := b) (by omega))
  have d2 := le_dec (encS_mono (v := q) (z := p) (by omega))
  have d3 := le_dec (encS_mono (v := -(q : Int)) (z := -(p : Int)) (by omega))
  have d4 := le_dec (encU_72 b)
  rw [show ((72 : Nat) : Int) = 72 from rfl] at d4
  have e1 : (a : Int) < b := by omega
  have g1 : decide ((p : Int) > (q : Int)) = true := by simp; omega
  have g1' : decide ((q : Int) < (p : Int)) = true := by simp; omega
  obtain ⟨m0, hm0⟩ : ∃ m, m = (encU a).length := ⟨_, rfl⟩
  obtain ⟨m1, hm1⟩ : ∃ m, m = (encU b).length := ⟨_, rfl⟩
  obtain ⟨m2, hm2⟩ : ∃ m, m = (encS (q : Int)).length := ⟨_, rfl⟩
  obtain ⟨m3, hm3⟩ : ∃ m, m = (encS (p : Int)).length := ⟨_, rfl⟩
  obtain ⟨m4, hm4⟩ : ∃ m, m = (encS (-(q : Int))).length := ⟨_, rfl⟩
  obtain ⟨m5, hm5⟩ : ∃ m, m = (encS (-(p : Int))).length := ⟨_, rfl⟩
  simp only [← hm0] at C1 C2 C3 C4 C5 C6 d1 d2 d3 d4
  simp only [← hm1] at C1 C2 C3 C4 C5 C6 d1 d2 d3 d4
  simp only [← hm2] at C1 C2 C3 C4 C5 C6 d1 d2 d3 d4
  simp only [← hm3] at C1 C2 C3 C4 C5 C6 d1 d2 d3 d4
  simp only [← hm4] at C1 C2 C3 C4 C5 C6 d1 d2 d3 d4
  simp only [← hm5] at C1 C2 C3 C4 C5 C6 d1 d2 d3 d4
  have n1 : decide (m0 ≤ m1) = true := by have := of_decide_eq_true d1; simp; omega
  have n2 : decide (m2 ≤ m3) = true := by have := of_decide_eq_true d2; simp; omega
  have n3 : decide (m4 ≤ m5) = true := by have := of_decide_eq_true d3; simp; omega
  have n4 : decide (m1 ≤ 72) = true := by have := of_decide_eq_true d4; simp; omega
  clear hT hm0 hm1 hm2 hm3 hm4 hm5
  go_enter Tryd.func6, Tryd.ntmps6
  go_wp2_with (first | (go_at_call_of 18 a; refine C1.out.mono ?_; rintro e w' ⟨rfl, rfl⟩) | (go_at_call_of 18 b; refine C2.out.mono ?_; rintro e w' ⟨rfl, rfl⟩) | (go_at_call 17; first | (refine C3.out.mono ?_; rintro e w' ⟨rfl, rfl⟩) | (refine C4.out.mono ?_; rintro e w' ⟨rfl, rfl⟩) | (refine C5.out.mono ?_; rintro e w' ⟨rfl, rfl⟩) | (refine C6.out.mono ?_; rintro e w' ⟨rfl, rfl⟩)) | (go_at_call 25; refine CAW.out.mono ?_; rintro e w1 ⟨rfl, hb1⟩))
  go_ret
  exact ⟨rfl, hb1⟩

set_option maxHeartbeats 1600000 in
theorem gt1 (a b p q : Nat) (w : World) (hT : Tab w) (ha : a < 18446744073709551616) (hb : b < 18446744073709551616) (hab : a < b) (hp : p < 9223372036854775808) (hq : q < 9223372036854775808) 
    (hA : Go.bits .and .u64 (a : Int) 9223372036854775807 = (p : Int)) (hB : Go.bits .and .u64 (b : Int) 9223372036854775807 = (q : Int)) (hpq : p ≤ q) :
    Calls Tryd.prog 6 #[.int .u64 b, .int .u64 a] w fun e w' => e = .returned (.bool true) ∧ Below w.heap.size w w' := by
  have CAW := Lib.hid (awake_calls w hT)
  have C1 := Lib.hid (lenU_calls a w hT ha)
  have C2 := Lib.hid (lenU_calls b w hT hb)
  have C3 := Lib.hid (lenS_calls p w hT (by omega) (by omega))
  have C4 := Lib.hid (lenS_calls q w hT (by omega) (by omega))
  have C5 := Lib.hid (lenS_calls (-(p : Int)) w hT (by omega) (by omega))
  have C6 := Lib.hid (lenS_calls (-(q : Int)) w hT (by omega) (by omega))
  have d1 := le_dec (encU_mono (x := a) (y := b) (by omega))
  have d2 := le_dec (encS_mono (v := p) (z := q) (by omega))
  have d3 := le_dec (encS_mono (v := -(p : Int)) (z := -(q : Int)) (by omega))
  have d4 := le_dec (encU_72 b)
  rw [show ((72 : Nat) : Int) = 72 from rfl] at d4
  have e1 : (a : Int) < b := by omega
  have g1 : decide ((p : Int) > (q : Int)) = false := by simp; omega
  have g1' : decide ((q : Int) < (p : Int)) = false := by simp; omega
  obtain ⟨m0, hm0⟩ : ∃ m, m = (encU a).length := ⟨_, rfl⟩
  obtain ⟨m1, hm1⟩ : ∃ m, m = (encU b).length := ⟨_, rfl⟩
  obtain ⟨m2, hm2⟩ : ∃ m, m = (encS (p : Int)).length := ⟨_, rfl⟩
  obtain ⟨m3, hm3⟩ : ∃ m, m = (encS (q : Int)).length := ⟨_, rfl⟩
  obtain ⟨m4, hm4⟩ : ∃ m, m = (encS (-(p : Int))).length := ⟨_, rfl⟩
  obtain ⟨m5, hm5⟩ : ∃ m, m = (encS (-(q : Int))).length := ⟨_, rfl⟩
  simp only [← hm0] at C1 C2 C3 C4 C5 C6 d1 d2 d3 d4
  simp only [← hm1] at C1 C2 C3 C4 C5 C6 d1 d2 d3 d4
  simp only [← hm2] at C1 C2 C3 C4 C5 C6 d1 d2 d3 d4
  simp only [← hm3] at C1 C2 C3 C4 C5 C6 d1 d2 d3 d4
  simp only [← hm4] at C1 C2 C3 C4 C5 C6 d1 d2 d3 d4
  simp only [← hm5] at C1 C2 C3 C4 C5 C6 d1 d2 d3 d4
  have n1 : decide (m0 ≤ m1) = true := by have := of_decide_eq_true d1; simp; omega
  have n2 : decide (m2 ≤ m3) = true := by have := of_decide_eq_true d2; simp; omega
  have n3 : decide (m4 ≤ m5) = true := by have := of_decide_eq_true d3; simp; omega
  have n4 : decide (m1 ≤ 72) = true := by have := of_decide_eq_true d4; simp; omega
  clear hT hm0 hm1 hm2 hm3 hm4 hm5
  go_enter Tryd.func6, Tryd.ntmps6
  go_wp2_with (first | (go_at_call_of 18 a; refine C1.out.mono ?_; rintro e w' ⟨rfl, rfl⟩) | (go_at_call_of 18 b; refine C2.out.mono ?_; rintro e w' ⟨rfl, rfl⟩) | (go_at_call 17; first | (refine C3.out.mono ?_; rintro e w' ⟨rfl, rfl⟩) | (refine C4.out.mono ?_; rintro e w' ⟨rfl, rfl⟩) | (refine C5.out.mono ?_; rintro e w' ⟨rfl, rfl⟩) | (refine C6.out.mono ?_; rintro e w' ⟨rfl, rfl⟩)) | (go_at_call 25; refine CAW.out.mono ?_; rintro e w1 ⟨rfl, hb1⟩))
  go_ret
  exact ⟨rfl, hb1⟩

set_option maxHeartbeats 1600000 in
theorem gt2 (a b p q : Nat) (w : World) (hT : Tab w) (ha : a < 18446744073709551616) (hb : b < 18446744073709551616) (hab : a < b) (hp : p < 9223372036854775808) (hq : q < 9223372036854775808) 
    (hA : Go.bits .and .u64 (a : Int) 9223372036854775807 = (p : Int)) (hB : Go.bits .and .u64 (b : Int) 9223372036854775807 = (q : Int)) (hpq : q < p) :
    Calls Tryd.prog 6 #[.int .u64 b, .int .u64 a] w fun e w' => e = .returned (.bool true) ∧ Below w.heap.size w w' := by
  have CAW := Lib.hid (awake_calls w hT)
  have C1 := Lib.hid (lenU_calls a w hT ha)
  have C2 := Lib.hid (lenU_calls b w hT hb)
  have C3 := Lib.hid (lenS_calls q w hT (by omega) (by omega))
  have C4 := Lib.hid (lenS_calls p w hT (by omega) (by omega))
  have C5 := Lib.hid (lenS_calls (-(q : Int)) w hT (by omega) (by omega))
  have C6 := Lib.hid (lenS_calls (-(p : Int)) w hT (by omega) (by omega))
  have d1 := le_dec (encU_mono (x := a) (y := b) (by omega))
  have d2 := le_dec (encS_mono (v := q) (z := p) (by omega))
  have d3 := le_dec (encS_mono (v := -(q : Int)) (z := -(p : Int)) (by omega))
  have d4 := le_dec (encU_72 b)
  rw [show ((72 : Nat) : Int) = 72 from rfl] at d4
  have e1 : (a : Int) < b := by omega
  have g1 : decide ((p : Int) > (q : Int)) = true := by simp; omega
  have g1' : decide ((q : Int) < (p : Int)) = true := by simp; omega
  obtain ⟨m0, hm0⟩ : ∃ m, m = (encU a).length := ⟨_, rfl⟩
  obtain ⟨m1, hm1⟩ : ∃ m, m = (encU b).length := ⟨_, rfl⟩
  obtain ⟨m2, hm2⟩ : ∃ m, m = (encS (q : Int)).length := ⟨_, rfl⟩
  obtain ⟨m3, hm3⟩ : ∃ m, m = (encS (p : Int)).length := ⟨_, rfl⟩
  obtain ⟨m4, hm4⟩ : ∃ m, m = (encS (-(q : Int))).length := ⟨_, rfl⟩
  obtain ⟨m5, hm5⟩ : ∃ m, m = (encS (-(p : Int))).length := ⟨_, rfl⟩
  simp only [← hm0] at C1 C2 C3 C4 C5 C6 d1 d2 d3 d4
  simp only [← hm1] at C1 C2 C3 C4 C5 C6 d1 d2 d3 d4
  simp only [← hm2] at C1 C2 C3 C4 C5 C6 d1 d2 d3 d4
  simp only [← hm3] at C1 C2 C3 C4 C5 C6 d1 d2 d3 d4
  simp only [← hm4] at C1 C2 C3 C4 C5 C6 d1 d2 d3 d4
  simp only [← hm5] at C1 C2 C3 C4 C5 C6 d1 d2 d3 d4
  have n1 : decide (m0 ≤ m1) = true := by have := of_decide_eq_true d1; simp; omega
  have n2 : decide (m2 ≤ m3) = true := by have := of_decide_eq_true d2; simp; omega
  have n3 : decide (m4 ≤ m5) = true := by have := of_decide_eq_true d3; simp; omega
  have n4 : decide (m1 ≤ 72) = true := by have := of_decide_eq_true d4; simp; omega
  clear hT hm0 hm1 hm2 hm3 hm4 hm5
  go_enter Tryd.func6, Tryd.ntmps6
  go_wp2_with (first | (go_at_call_of 18 a; refine C1.out.mono ?_; rintro e w' ⟨rfl, rfl⟩) | (go_at_call_of 18 b; refine C2.out.mono ?_; rintro e w' ⟨rfl, rfl⟩) | (go_at_call 17; first | (refine C3.out.mono ?_; rintro e w' ⟨rfl, rfl⟩) | (refine C4.out.mono ?_; rintro e w' ⟨rfl, rfl⟩) | (refine C5.out.mono ?_; rintro e w' ⟨rfl, rfl⟩) | (refine C6.out.mono ?_; rintro e w' ⟨rfl, rfl⟩)) | (go_at_call 25; refine CAW.out.mono ?_; rintro e w1 ⟨rfl, hb1⟩))
  go_ret
  exact ⟨rfl, hb1⟩

set_option maxHeartbeats 1600000 in
theorem eq1 (a p : Nat) (w : World) (hT : Tab w) (ha : a < 18446744073709551616) (hp : p < 9223372036854775808) 
    (hA : Go.bits .and .u64 (a : Int) 9223372036854775807 = (p : Int))  :
    Calls Tryd.prog 6 #[.int .u64 a, .int .u64 a] w fun e w' => e = .returned (.bool true) ∧ Below w.heap.size w w' := by
  have CAW := Lib.hid (awake_calls w hT)
  have C1 := Lib.hid (lenU_calls a w hT ha)
  have C2 := Lib.hid (lenU_calls a w hT ha)
  have C3 := Lib.hid (lenS_calls p w hT (by omega) (by omega))
  have C4 := Lib.hid (lenS_calls p w hT (by omega) (by omega))
  have C5 := Lib.hid (lenS_calls (-(p : Int)) w hT (by omega) (by omega))
  have C6 := Lib.hid (lenS_calls (-(p : Int)) w hT (by omega) (by omega))
  have d1 := le_dec (encU_mono (x := a) (y := a) (by omega))
  have d2 := le_dec (encS_mono (v := p) (z := p) (by omega))
  have d3 := le_dec (encS_mono (v := -(p : Int)) (z := -(p : Int)) (by omega))
  have d4 := le_dec (encU_72 a)
  rw [show ((72 : Nat) : Int) = 72 from rfl] at d4
  have g1 : decide ((p : Int) > (p : Int)) = false := by simp
  have g1' : decide ((p : Int) < (p : Int)) = false := by simp
  obtain ⟨m0, hm0⟩ : ∃ m, m = (encU a).length := ⟨_, rfl⟩
  obtain ⟨m2, hm2⟩ : ∃ m, m = (encS (p : Int)).length := ⟨_, rfl⟩
  obtain ⟨m4, hm4⟩ : ∃ m, m = (encS (-(p : Int))).length := ⟨_, rfl⟩
  simp only [← hm0] at C1 C2 C3 C4 C5 C6 d1 d2 d3 d4
  simp only [← hm2] at C1 C2 C3 C4 C5 C6 d1 d2 d3 d4
  simp only [← hm4] at C1 C2 C3 C4 C5 C6 d1 d2 d3 d4
  have n1 : decide (m0 ≤ m0) = true := by simp
  have n2 : decide (m2 ≤ m2) = true := by simp
  have n3 : decide (m4 ≤ m4) = true := by simp
  have n4 : decide (m0 ≤ 72) = true := by have := of_decide_eq_true d4; simp; omega
  clear hT hm0 hm2 hm4
  go_enter Tryd.func6, Tryd.ntmps6
  go_wp2_with (first | (go_at_call_of 18 a; refine C1.out.mono ?_; rintro e w' ⟨rfl, rfl⟩) | (go_at_call_of 18 a; refine C2.out.mono ?_; rintro e w' ⟨rfl, rfl⟩) | (go_at_call 17; first | (refine C3.out.mono ?_; rintro e w' ⟨rfl, rfl⟩) | (refine C4.out.mono ?_; rintro e w' ⟨rfl, rfl⟩) | (refine C5.out.mono ?_; rintro e w' ⟨rfl, rfl⟩) | (refine C6.out.mono ?_; rintro e w' ⟨rfl, rfl⟩)) | (go_at_call 25; refine CAW.out.mono ?_; rintro e w1 ⟨rfl, hb1⟩))
  go_ret
  exact ⟨rfl, hb1⟩

theorem walk (a b : Int) (w : World) (h0 : (Lit.int .u64 a).wf = true) (h1 : (Lit.int .u64 b).wf = true) (hL : laidMetH Tryd.prog [("tidepole/varbit.behinds", Rows.laid_tidepole_varbit_behinds)] w) :
    Calls Tryd.prog 6 #[.int .u64 a, .int .u64 b] w fun e w' => e = .returned (.bool true) ∧ Below w.heap.size w w' := by
  simp [Lit.wf, IntKind.min, IntKind.max, IntKind.bits, IntKind.signed] at h0 h1
  obtain ⟨x, rfl⟩ : ∃ x : Nat, a = x := ⟨a.toNat, by omega⟩
  obtain ⟨y, rfl⟩ : ∃ y : Nat, b = y := ⟨b.toNat, by omega⟩
  have hT := tab_of hL
  have hx : x < 18446744073709551616 := by omega
  have hy : y < 18446744073709551616 := by omega
  have hX := and63 x hx
  have hY := and63 y hy
  have hx2 : x % 9223372036854775808 < 9223372036854775808 := Nat.mod_lt _ (by decide)
  have hy2 : y % 9223372036854775808 < 9223372036854775808 := Nat.mod_lt _ (by decide)
  rcases Nat.lt_trichotomy x y with h | h | h
  · rcases Nat.lt_or_ge (y % 9223372036854775808) (x % 9223372036854775808) with hq | hq
    · exact lt2 x y _ _ w hT hx hy h hx2 hy2 hX hY hq
    · exact lt1 x y _ _ w hT hx hy h hx2 hy2 hX hY hq
  · subst h
    exact eq1 x _ w hT hx hx2 hX
  · rcases Nat.lt_or_ge (x % 9223372036854775808) (y % 9223372036854775808) with hq | hq
    · exact gt2 y x _ _ w hT hy hx h hy2 hx2 hY hX hq
    · exact gt1 y x _ _ w hT hy hx h hy2 hx2 hY hX hq
end Go.Proofs.YtlbkdmggafkghaaDoor.VarbitGrows
