/- the reference of layer 6: what is right; the union. -/
import Derived.Test.YtjfekjbmgckkcaaGreatDoorSpanB
namespace Go.Proofs.YtjfekjbmgckkcaaGreatDoor.Ref06K
open Go.RowKit Go.Proofs.YtjfekjbmgckkcaaGreatDoorW.PrintWords
open Go.Proofs.YtjfekjbmgckkcaaGreatDoor.Base Go.Proofs.YtjfekjbmgckkcaaGreatDoor.SpanPure Go.Proofs.YtjfekjbmgckkcaaGreatDoor.SpanBase Go.Proofs.YtjfekjbmgckkcaaGreatDoor.SpanA Go.Proofs.YtjfekjbmgckkcaaGreatDoor.SpanB 

set_option maxRecDepth 100000 in
set_option maxHeartbeats 3200000 in
theorem check_calls (A : Option Addr) (c : Nat) (l : List Sp) (w : World) (hr : RdSp w A l) (hm : l.length ≤ 1000000000) :
    Calls Tryz.prog 151 #[.slice A l.length c] w fun e w' => e = .returned (.int .i64 (chk l)) ∧ Below w.heap.size w w' := by
  have HR := Lib.hid hr
  clear hr
  by_cases h1 : 1024 < l.length
  · rw [show chk l = 12 from if_pos h1]
    have d1 : decide ((l.length : Int) > 1024) = true := by simp; omega
    have d1' : decide (1024 < (l.length : Int)) = true := by simp; omega
    have d1n : decide (1024 < l.length) = true := by simp; omega
    go_enter Tryz.func151, Tryz.ntmps151
    go_wp2
    go_ret
    exact ⟨rfl, Below.refl _ _⟩
  have d1 : decide ((l.length : Int) > 1024) = false := by simp; omega
  have d1' : decide (1024 < (l.length : Int)) = false := by simp; omega
  have d1n : decide (1024 < l.length) = false := by simp; omega
  have HYES : Hid (rightF true 0 0 l = true → chk l = 0) := Lib.hid (fun h => by rw [chk, if_neg h1, if_pos h])
  have HNO : Hid (rightF true 0 0 l = false → Ending.returned (.int .i64 20) = .returned (.int .i64 (chk l))) := Lib.hid (fun h => by rw [chk, if_neg h1, h]; rfl)
  clear h1
  go_enter Tryz.func151, Tryz.ntmps151
  go_wp2
  go_loopw [3, 4, 5] (fun t n i wr => ∃ (k : Nat) (a m : Int), k ≤ l.length ∧ i = .int .i64 k ∧ t = .int .i64 a ∧ n = .int .i64 m ∧ -1048576 ≤ a ∧ a ≤ 1048577 ∧ 0 ≤ m ∧ m ≤ 4096 ∧ Hid (k = 0 → a = 0) ∧ Hid (rightF true 0 0 l = rightF (decide (k = 0)) a m (l.drop k)) ∧ Below w.heap.size w wr) (fun _ _ i _ => l.length - (intOf i).toNat)
  case atStart => exact ⟨0, 0, 0, by omega, rfl, rfl, rfl, by omega, by omega, by omega, by omega, Lib.hid (fun _ => rfl), Lib.hid rfl, Below.refl _ _⟩
  case round =>
    obtain ⟨k, a, m, hk, rfl, rfl, rfl, ha1, ha2, hm1, hm2, hz, hd, hb⟩ := hrel
    have HB := Lib.hid hb
    have hsz := hb.size
    by_cases hlt : k < l.length
    · obtain ⟨ad, hA, c0, c1⟩ := (HR.out.below hb).at_ k hlt
      subst hA
      have HD := Lib.hid (show l.drop k = l[k] :: l.drop (k + 1) from List.drop_eq_getElem_cons hlt)
      obtain ⟨s, hs⟩ : ∃ s, s = l[k] := ⟨_, rfl⟩
      rw [← hs] at c0 c1 HD
      obtain ⟨o, q⟩ := s
      simp only at c0 c1
      have HX := Lib.hid (right_step k a m o q (l.drop (k + 1)))
      have HZ : Hid (0 < k ∨ a = 0) := Lib.hid (by rcases Nat.eq_zero_or_pos k with h | h; exact .inr (hz.out h); exact .inl h)
      clear hs hb
      by_cases hg : -1048576 ≤ o ∧ o ≤ 2097152 ∧ (k = 0 → o ≤ 1048576) ∧ (0 < k → 0 ≤ o) ∧ 0 ≤ q ∧ q ≤ 4096
      · obtain ⟨g1, g2, g3, g4, g5, g6⟩ := hg
        obtain ⟨Q, rfl⟩ := Int.eq_ofNat_of_zero_le g5
        have t1 : decide (o < -1048576) = false := by simp; omega
        have t2 : decide (o > 2097152) = false := by simp; omega
        have t2' : decide (2097152 < o) = false := by simp; omega
        have t5 : decide ((Q : Int) < 0) = false := by simp
        have t6 : decide ((Q : Int) > 4096) = false := by simp; omega
        have t6' : decide (4096 < (Q : Int)) = false := by simp; omega
        have t6n : decide (4096 < Q) = false := by simp; omega
        have hz0 := HZ.out
        have ho1 : -1048576 ≤ a + o ∨ True := .inr trivial
        have HK : Hid (∀ (K : Bool), K = decide (k = 0) → True) := Lib.hid (fun _ _ => trivial)
        by_cases hat : -1048576 ≤ a + o ∧ a + o ≤ 1048576
        · obtain ⟨D, hD⟩ : ∃ D, D = a + o := ⟨_, rfl⟩
          have HF : Hid (1048577 < D + (Q : Int) ∨ 4096 < m + (Q : Int) → rightF true 0 0 l = false) := Lib.hid (fun h => by
            rw [hd.out, HD.out, HX.out, decide_eq_false (by omega)]; rfl)
          have HT : Hid (D + (Q : Int) ≤ 1048577 → m + (Q : Int) ≤ 4096 → rightF true 0 0 l = rightF (decide (k + 1 = 0)) (D + (Q : Int)) (m + (Q : Int)) (l.drop (k + 1))) := Lib.hid (fun h h' => by
            rw [hd.out, HD.out, HX.out, decide_eq_true (by omega), ← hD]; rfl)
          rw [← hD] at hat
          obtain ⟨hat1, hat2⟩ := hat
          have u1 : decide (D < -1048576) = false := by simp; omega
          have u2 : decide (D > 1048576) = false := by simp; omega
          have u2' : decide (1048576 < D) = false := by simp; omega
          have hDD := hD
          have HCONT : Hid (∀ (wq : World), Below w.heap.size w wq → D + (Q : Int) ≤ 1048577 → m + (Q : Int) ≤ 4096 → ∃ (k' : Nat) (a' m' : Int), k' ≤ l.length ∧ Value.int .i64 ((k : Int) + 1) = .int .i64 k' ∧ Value.int .i64 (D + (Q : Int)) = .int .i64 a' ∧ Value.int .i64 (m + (Q : Int)) = .int .i64 m' ∧ -1048576 ≤ a' ∧ a' ≤ 1048577 ∧ 0 ≤ m' ∧ m' ≤ 4096 ∧ Hid (k' = 0 → a' = 0) ∧ Hid (rightF true 0 0 l = rightF (decide (k' = 0)) a' m' (l.drop k')) ∧ Below w.heap.size w wq) := Lib.hid (by
            intro wq h1 h2 h3
            exact ⟨k + 1, D + (Q : Int), m + (Q : Int), by omega, by go_num, rfl, rfl, by omega, by omega, by omega, by omega, Lib.hid (fun h => by omega), Lib.hid (HT.out h2 h3), h1⟩)
          clear hz HX HZ HD hd HK ho1 HT
          have HDD := Lib.hid hD
          obtain ⟨wo, rfl⟩ : ∃ wo : World, wo = wr := ⟨_, rfl⟩
          have hcase : (((k : Int) == 0) = true ∧ decide ((k : Int) > 0) = false ∧ decide (0 < (k : Int)) = false ∧ decide (0 < k) = false ∧ decide (o > 1048576) = false ∧ decide (1048576 < o) = false) ∨
              (((k : Int) == 0) = false ∧ decide ((k : Int) > 0) = true ∧ decide (0 < (k : Int)) = true ∧ decide (0 < k) = true ∧ decide (o < 0) = false ∧ decide (0 > o) = false) := by
            by_cases hk0 : k = 0
            · have := g3 hk0
              left; simp; omega
            · have := g4 (by omega)
              right; simp; omega
          have hao1 : -1048576 ≤ a + o := by omega
          have hao2 : a + o ≤ 1048576 := by omega
          clear g3 g4 hz0 hD hDD
          rcases hcase with ⟨e1, e2, e3, e4, e5, e6⟩ | ⟨e1, e2, e3, e4, e5, e6⟩
          all_goals
            go_wp2_with (fail)
            rw [← HDD.out]
            go_loop [3, 4, 7] (fun t n i => ∃ j : Nat, j ≤ Q ∧ i = .int .i64 j ∧ t = .int .i64 (D + (j : Int)) ∧ n = .int .i64 (m + (j : Int)) ∧ D + (j : Int) ≤ 1048577) (fun _ _ i => Q - (intOf i).toNat)
            case atStart => exact ⟨0, by omega, rfl, by simp, by simp, by omega⟩
            case round =>
              obtain ⟨j, hj, rfl, rfl, rfl, hDj⟩ := hrel
              by_cases hjl : j < Q
              · by_cases hbig : D + (j : Int) = 1048577
                · have v1 : decide (D + (j : Int) > 1048576) = true := by simp; omega
                  have v1' : decide (1048576 < D + (j : Int)) = true := by simp; omega
                  have HN := Lib.hid (HNO.out (HF.out (.inl (by omega))))
                  clear hbig
                  go_wp2
                  go_ret
                  exact ⟨HN.out, HB.out.alloc hsz _⟩
                · have v1 : decide (D + (j : Int) > 1048576) = false := by simp; omega
                  have v1' : decide (1048576 < D + (j : Int)) = false := by simp; omega
                  have hbb : D + (j : Int) ≤ 1048576 := by omega
                  clear hbig
                  go_wp2
                  go_round
                  case rel => exact ⟨j + 1, by omega, by go_num, by go_num, by go_num, by omega⟩
                  case measure => simp [intOf]; omega
              · obtain rfl : j = Q := by omega
                by_cases hbig : 4096 < m + (j : Int)
                · have v1 : decide (m + (j : Int) > 4096) = true := by simp; omega
                  have v1' : decide (4096 < m + (j : Int)) = true := by simp; omega
                  have HN := Lib.hid (HNO.out (HF.out (.inr (by omega))))
                  clear hbig
                  go_wp2
                  go_ret
                  exact ⟨HN.out, HB.out.alloc hsz _⟩
                · have v1 : decide (m + (j : Int) > 4096) = false := by simp; omega
                  have v1' : decide (4096 < m + (j : Int)) = false := by simp; omega
                  have hbb : m + (j : Int) ≤ 4096 := by omega
                  clear hbig
                  go_wp2
                  go_roundw
                  case rel => exact HCONT.out _ (HB.out.alloc hsz _) hDj hbb
                  case measure => simp [intOf]; omega
        · have HN := Lib.hid (HNO.out (by rw [hd.out, HD.out, HX.out, decide_eq_false (by omega)]; rfl))
          have hcase : (((k : Int) == 0) = true ∧ decide ((k : Int) > 0) = false ∧ decide (0 < (k : Int)) = false ∧ decide (0 < k) = false ∧ decide (o > 1048576) = false ∧ decide (1048576 < o) = false) ∨
              (((k : Int) == 0) = false ∧ decide ((k : Int) > 0) = true ∧ decide (0 < (k : Int)) = true ∧ decide (0 < k) = true ∧ decide (o < 0) = false ∧ decide (0 > o) = false) := by
            by_cases hk0 : k = 0
            · have := g3 hk0
              left; simp; omega
            · have := g4 (by omega)
              right; simp; omega
          by_cases hlo : a + o < -1048576
          · have u1 : decide (a + o < -1048576) = true := by simpa using hlo
            clear g3 g4 hz0 hat hz hd HD HX HZ HK ho1 hlo
            rcases hcase with ⟨e1, e2, e3, e4, e5, e6⟩ | ⟨e1, e2, e3, e4, e5, e6⟩
            all_goals
              go_wp2
              go_ret
              exact ⟨HN.out, HB.out.alloc hsz _⟩
          · have u1 : decide (a + o < -1048576) = false := by simp; omega
            have u2 : decide (a + o > 1048576) = true := by simp; omega
            have u2' : decide (1048576 < a + o) = true := by simp; omega
            clear g3 g4 hz0 hat hz hd HD HX HZ HK ho1 hlo
            rcases hcase with ⟨e1, e2, e3, e4, e5, e6⟩ | ⟨e1, e2, e3, e4, e5, e6⟩
            all_goals
              go_wp2
              go_ret
              exact ⟨HN.out, HB.out.alloc hsz _⟩
      · have hz0 := HZ.out
        have HN := Lib.hid (HNO.out (by rw [hd.out, HD.out, HX.out, decide_eq_false (by omega)]; rfl))
        have HG := Lib.hid hg
        clear hz hd HD HX HZ hg hz0
        go_wp2
        all_goals first
          | (go_ret
             exact ⟨HN.out, HB.out.alloc hsz _⟩)
          | (exfalso
             exact HG.out (by omega))
    · obtain rfl : k = l.length := by omega
      have HF : Hid (chk l = 0) := Lib.hid (HYES.out (by rw [hd.out, List.drop_length]; rfl))
      clear hd hz hb
      go_wp2
      go_ret
      exact ⟨by rw [HF.out]; rfl, HB.out⟩
end Go.Proofs.YtjfekjbmgckkcaaGreatDoor.Ref06K
