/- span's walks: what is right, what is canonical, how many places. -/
import Derived.Test.YtjfekjbmgckkcaaGreatDoorProg
import Derived.Test.YtjfekjbmgckkcaaGreatDoorSpanBase
import Derived.WalkSpells
import Derived.WalkLawsBesides
import Derived.Deep.QuietTactic
import Derived.BigQuiet
namespace Go.Proofs.YtjfekjbmgckkcaaGreatDoor.SpanA
open Go.RowKit Go.Proofs.YtjfekjbmgckkcaaGreatDoorW.PrintWords
open Go.Proofs.YtjfekjbmgckkcaaGreatDoor.Base Go.Proofs.YtjfekjbmgckkcaaGreatDoor.SpanPure Go.Proofs.YtjfekjbmgckkcaaGreatDoor.SpanBase

set_option maxHeartbeats 400000 in
theorem in_calls (p : Int) (w : World) :
    Calls Tryz.prog 183 #[.int .i64 p] w fun e w' => e = .returned (.bool (decide (-1048576 ≤ p ∧ p ≤ 1048576))) ∧ w = w' := by
  by_cases h1 : -1048576 ≤ p
  · have d1 : decide (p ≥ -1048576) = true := by simp; omega
    have d1' : decide (-1048576 ≤ p) = true := by simp; omega
    have hd : decide (-1048576 ≤ p ∧ p ≤ 1048576) = decide (p ≤ 1048576) := by simp [h1]
    rw [hd]
    go_enter Tryz.func183, Tryz.ntmps183
    go_wp2
    go_ret
    exact ⟨rfl, rfl⟩
  · have d1 : decide (p ≥ -1048576) = false := by simp; omega
    have d1' : decide (-1048576 ≤ p) = false := by simp; omega
    have hd : decide (-1048576 ≤ p ∧ p ≤ 1048576) = false := by simp [h1]
    rw [hd]
    go_enter Tryz.func183, Tryz.ntmps183
    go_wp2
    go_ret
    exact ⟨rfl, rfl⟩

theorem right_step (k : Nat) (a m o q : Int) (t : List Sp) :
    rightF (decide (k = 0)) a m ((o, q) :: t) = (decide (0 ≤ q ∧ q ≤ 4096 ∧ o ≤ 2097152 ∧ (0 < k → 0 ≤ o) ∧ -1048576 ≤ a + o ∧ a + o ≤ 1048576 ∧ a + o + q ≤ 1048577 ∧ m + q ≤ 4096) && rightF (decide (k + 1 = 0)) (a + o + q) (m + q) t) := by
  rw [rightF, okS1, decide_eq_false (Nat.succ_ne_zero k)]
  congr 1
  rw [Bool.eq_iff_iff, decide_eq_true_iff, decide_eq_true_iff]
  have : (decide (k = 0) = false) ↔ 0 < k := by simp; omega
  simp only [this]

set_option maxHeartbeats 3200000 in
theorem right_calls (A : Option Addr) (c : Nat) (l : List Sp) (w : World) (hr : RdSp w A l) (hm : l.length ≤ 1000000000) :
    Calls Tryz.prog 208 #[.slice A l.length c] w fun e w' => e = .returned (.bool (rightF true 0 0 l)) ∧ Below w.heap.size w w' := by
  have HR := Lib.hid hr
  clear hr
  go_enter Tryz.func208, Tryz.ntmps208
  go_wp2
  go_loopw [3, 4, 9] (fun t n i wr => ∃ (k : Nat) (a m : Int), k ≤ l.length ∧ i = .int .i64 k ∧ t = .int .i64 a ∧ n = .int .i64 m ∧ -1048576 ≤ a ∧ a ≤ 1048577 ∧ 0 ≤ m ∧ m ≤ 4096 ∧ Hid (k = 0 → a = 0) ∧ Hid (rightF true 0 0 l = rightF (decide (k = 0)) a m (l.drop k)) ∧ Below w.heap.size w wr) (fun _ _ i _ => l.length - (intOf i).toNat)
  case atStart => exact ⟨0, 0, 0, by omega, rfl, rfl, rfl, by omega, by omega, by omega, by omega, Lib.hid (fun _ => rfl), Lib.hid rfl, Below.refl _ _⟩
  case round =>
    obtain ⟨k, a, m, hk, rfl, rfl, rfl, ha1, ha2, hm1, hm2, hz, hd, hb⟩ := hrel
    have HB := Lib.hid hb
    have hsz := hb.size
    by_cases hlt : k < l.length
    · obtain ⟨ad, hA, c0, c1⟩ := (HR.out.below hb).at_ k hlt
      subst hA
      have HD := Lib.hid (show l.drop k = l[k] :: l.drop (k + 1) from List.drop_eq_getElem_cons hlt)
      obtain ⟨s, hs⟩ : ∃ s, s = l[k] := ⟨_, rfl⟩
      rw [← hs] at c0 c1 HD
      obtain ⟨o, q⟩ := s
      simp only at c0 c1
      have HX := Lib.hid (right_step k a m o q (l.drop (k + 1)))
      have HZ : Hid (0 < k ∨ a = 0) := Lib.hid (by rcases Nat.eq_zero_or_pos k with h | h; exact .inr (hz.out h); exact .inl h)
      clear hs hb
      by_cases hlow : o < -1048576
      · have d5 : decide (-1048576 ≤ o ∧ o ≤ 1048576) = false := by simp; omega
        have HF : Hid (rightF true 0 0 l = false) := Lib.hid (by
          have := HZ.out
          rw [hd.out, HD.out, HX.out, decide_eq_false (by omega)]; rfl)
        go_wp2_with (go_at_call 183; refine (in_calls _ _).mono ?_; rintro e w' ⟨rfl, rfl⟩)
        all_goals
          go_ret
          exact ⟨by rw [HF.out]; rfl, HB.out.alloc hsz _⟩
      · have hlow' : -1048576 ≤ o := by omega
        clear hlow
        go_wp2_with (go_at_call 183; refine (in_calls _ _).mono ?_; rintro e w' ⟨rfl, rfl⟩)
        all_goals
          have hz0 := HZ.out
          first
          | (have HF : rightF true 0 0 l = false := by
               rw [hd.out, HD.out, HX.out, decide_eq_false (by omega)]; rfl
             go_ret
             exact ⟨by rw [HF]; rfl, HB.out.alloc hsz _⟩)
          | (exfalso
             rename_i h
             simp only [Bool.not_eq_true', decide_eq_false_iff_not] at h
             omega)
          | (have HF : rightF true 0 0 l = rightF (decide (k + 1 = 0)) (a + o + q) (m + q) (l.drop (k + 1)) := by
               rw [hd.out, HD.out, HX.out, decide_eq_true (by omega)]; rfl
             go_roundw
             case rel => exact ⟨k + 1, a + o + q, m + q, by omega, by go_num, rfl, rfl, by omega, by omega, by omega, by omega, Lib.hid (fun h => by omega), Lib.hid HF, HB.out.alloc hsz _⟩
             case measure => simp [intOf]; omega)
    · obtain rfl : k = l.length := by omega
      have HF : Hid (rightF true 0 0 l = true) := Lib.hid (by rw [hd.out, List.drop_length]; rfl)
      go_wp2
      go_ret
      exact ⟨by rw [HF.out]; rfl, HB.out⟩

set_option maxHeartbeats 400000 in
theorem check_calls (A : Option Addr) (c : Nat) (l : List Sp) (w : World) (hr : RdSp w A l) (hm : l.length ≤ 1000000000) :
    Calls Tryz.prog 166 #[.slice A l.length c] w fun e w' => e = .returned (.int .i64 (chk l)) ∧ Below w.heap.size w w' := by
  have HC := Lib.hid (right_calls A c l w hr hm)
  rcases chk_cases l with ⟨h, h1⟩ | ⟨h, h1, h2⟩ | ⟨h, h1, h2⟩
  · rw [h]
    have d1 : decide ((l.length : Int) > 1024) = true := by simp; omega
    have d1' : decide (1024 < (l.length : Int)) = true := by simp; omega
    have d1n : decide (1024 < l.length) = true := by simp; omega
    clear h hr
    go_enter Tryz.func166, Tryz.ntmps166
    go_wp2
    go_ret
    exact ⟨rfl, Below.refl _ _⟩
  all_goals
    rw [h]
    rw [h2] at HC
    have d1 : decide ((l.length : Int) > 1024) = false := by simp; omega
    have d1' : decide (1024 < (l.length : Int)) = false := by simp; omega
    have d1n : decide (1024 < l.length) = false := by simp; omega
    clear h h2 hr
    go_enter Tryz.func166, Tryz.ntmps166
    go_wp2_with (go_at_call 208; refine HC.out.mono ?_; rintro e w1 ⟨rfl, hb⟩)
    go_ret
    exact ⟨rfl, hb⟩
end Go.Proofs.YtjfekjbmgckkcaaGreatDoor.SpanA
