/- the reference of layer 6: place by place. -/
import Derived.Test.YtaenincbmlcjiaaSpanG
namespace Go.Proofs.Ytaenincbmlcjiaa.Ref06
open Go.RowKit Go.Proofs.YtaenincbmlcjiaaW.PrintWords
open Go.Proofs.Ytaenincbmlcjiaa.Base Go.Proofs.Ytaenincbmlcjiaa.SpanPure Go.Proofs.Ytaenincbmlcjiaa.SpanPure2 Go.Proofs.Ytaenincbmlcjiaa.SpanBase Go.Proofs.Ytaenincbmlcjiaa.SpanA Go.Proofs.Ytaenincbmlcjiaa.SpanB Go.Proofs.Ytaenincbmlcjiaa.SpanD Go.Proofs.Ytaenincbmlcjiaa.SpanG

theorem q_end {w : World} {n : Nat} : Drawn0 w (w.drewN n) := ⟨⟨n, rfl⟩⟩

set_option maxHeartbeats 1600000 in
theorem same_calls (A1 A2 : Option Addr) (c1 c2 : Nat) (xs ys : List Int) (w : World) (h1 : RdI .i64 w A1 xs) (h2 : RdI .i64 w A2 ys) (hm : xs.length ≤ 1000000000) (hm2 : ys.length ≤ 1000000000) :
    Calls Try.prog 19 #[.slice A1 xs.length c1, .slice A2 ys.length c2] w fun e w' => e = .returned (.bool (decide (xs = ys))) ∧ Drawn0 w w' := by
  have H1 := Lib.hid h1
  have H2 := Lib.hid h2
  by_cases hl : xs.length = ys.length
  · have d : ((xs.length : Int) != (ys.length : Int)) = false := by simp [hl]
    have HL := Lib.hid hl
    clear h1 h2 hl
    go_enter Try.func19, Try.ntmps19
    go_wp2
    go_loopw [5] (fun i wr => ∃ k m : Nat, k ≤ xs.length ∧ i = .int .i64 k ∧ Hid (xs.take k = ys.take k) ∧ wr = w.drewN m) (fun i _ => xs.length - (intOf i).toNat)
    case atStart => exact ⟨0, 0, by omega, rfl, Lib.hid (by simp), rfl⟩
    case round =>
      obtain ⟨k, m, hk, rfl, ht, rfl⟩ := hrel
      by_cases hlt : k < xs.length
      · have hlt2 : k < ys.length := by have := HL.out; omega
        obtain ⟨ad, hA, c0⟩ := RdI.at_ H1.out k hlt
        obtain ⟨ad2, hA2, c02⟩ := RdI.at_ H2.out k hlt2
        subst hA hA2
        have b0 : (0 : Int) ≤ (k : Int) := by omega
        have b1 : (k : Int) < (xs.length : Int) := by omega
        have b2 : (k : Int) < (ys.length : Int) := by omega
        by_cases he : xs[k] = ys[k]
        · have HT : Hid (xs.take (k + 1) = ys.take (k + 1)) := Lib.hid (by rw [List.take_succ_eq_append_getElem hlt, List.take_succ_eq_append_getElem hlt2, ht.out, he])
          obtain ⟨x, hx⟩ : ∃ x, x = xs[k] := ⟨_, rfl⟩
          rw [← he, ← hx] at c02
          rw [← hx] at c0
          clear he hx ht
          go_wp2_with (fail)
          go_quiet (fail)
          go_wp2
          go_roundw
          case rel => exact ⟨k + 1, m + nq, by omega, by go_num, HT, by first | rfl | rw [World.drewN_drewN]⟩
          case measure => simp [intOf]; omega
        · have HF : Hid (decide (xs = ys) = false) := Lib.hid (by
            rw [decide_eq_false]
            rintro rfl
            exact he rfl)
          have de : (xs[k] != ys[k]) = true := by simpa using he
          obtain ⟨x, hx⟩ : ∃ x, x = xs[k] := ⟨_, rfl⟩
          obtain ⟨y, hy⟩ : ∃ y, y = ys[k] := ⟨_, rfl⟩
          rw [← hx] at c0 de
          rw [← hy] at c02 de
          clear he hx hy ht
          go_wp2_with (fail)
          go_quiet (fail)
          go_wp2
          go_ret
          exact ⟨by rw [HF.out]; rfl, by first | exact q_end | (rw [World.drewN_drewN]; exact q_end)⟩
      · obtain rfl : k = xs.length := by omega
        have HF : Hid (decide (xs = ys) = true) := Lib.hid (by
          rw [decide_eq_true]
          have := ht.out
          rwa [List.take_length, HL.out, List.take_length] at this)
        clear ht
        go_wp2
        go_ret
        exact ⟨by rw [HF.out]; rfl, q_end⟩
  · have d : ((xs.length : Int) != (ys.length : Int)) = true := by simp; omega
    have HF : Hid (decide (xs = ys) = false) := Lib.hid (by
      rw [decide_eq_false]
      rintro rfl
      exact hl rfl)
    clear h1 h2 hl
    go_enter Try.func19, Try.ntmps19
    go_wp2
    go_ret
    exact ⟨by rw [HF.out]; rfl, Drawn0.refl _⟩

set_option maxHeartbeats 3200000 in
theorem rising_calls (A : Option Addr) (c : Nat) (ps : List Int) (w : World) (hr : RdI .i64 w A ps) (hm : ps.length ≤ 1000000000) :
    Calls Try.prog 18 #[.slice A ps.length c] w fun e w' => e = .returned (.bool (rising ps)) ∧ Drawn0 w w' := by
  have HR := Lib.hid hr
  clear hr
  go_enter Try.func18, Try.ntmps18
  go_wp2
  go_loopw [3] (fun i wr => ∃ (k m : Nat) (f : Int), k ≤ ps.length ∧ i = .int .i64 k ∧ Hid (0 < k → f = ps.getD (k - 1) 0 + 1) ∧ Hid (rising ps = risingF (decide (k = 0)) f (ps.drop k)) ∧ wr = w.drewN m) (fun i _ => ps.length - (intOf i).toNat)
  case atStart => exact ⟨0, 0, 0, by omega, rfl, Lib.hid (fun h => absurd h (by omega)), Lib.hid rfl, rfl⟩
  case round =>
    obtain ⟨k, m, f, hk, rfl, hf, ht, rfl⟩ := hrel
    by_cases hlt : k < ps.length
    · obtain ⟨ad, hA, c0⟩ := RdI.at_ HR.out k hlt
      subst hA
      have HD := Lib.hid (show ps.drop k = ps[k] :: ps.drop (k + 1) from List.drop_eq_getElem_cons hlt)
      have HP := Lib.hid (show ps.getD k 0 = ps[k] by simp [List.getD_eq_getElem?_getD, hlt])
      have HX := Lib.hid (rising_step k f ps[k] (ps.drop (k + 1)))
      have b0 : (0 : Int) ≤ (k : Int) := by omega
      have b1 : (k : Int) < (ps.length : Int) := by omega
      by_cases hk0 : k = 0
      · have e0 : decide ((k : Int) > 0) = false := by simp; omega
        have e0' : decide (0 < (k : Int)) = false := by simp; omega
        have e0n : decide (0 < k) = false := by simp; omega
        obtain ⟨p, hp⟩ : ∃ p, p = ps[k] := ⟨_, rfl⟩
        rw [← hp] at c0 HD HX HP
        by_cases hg : -1048576 ≤ p ∧ p ≤ 1048576
        · have d1 : decide (p < -1048576) = false := by simp; omega
          have d2 : decide (p > 1048576) = false := by simp; omega
          have d2' : decide (1048576 < p) = false := by simp; omega
          have HT : Hid (rising ps = risingF (decide (k + 1 = 0)) (p + 1) (ps.drop (k + 1))) := Lib.hid (by rw [ht.out, HD.out, HX.out, decide_eq_true (by omega)]; rfl)
          clear hg hk0 hp hf ht
          go_wp2_with (fail)
          go_quiet (fail)
          go_wp2
          go_roundw
          case rel => exact ⟨k + 1, m + nq, p + 1, by omega, by go_num, Lib.hid (fun _ => by rw [Nat.add_sub_cancel, HP.out]), HT, by first | rfl | rw [World.drewN_drewN]⟩
          case measure => simp [intOf]; omega
        · have HF : Hid (rising ps = false) := Lib.hid (by rw [ht.out, HD.out, HX.out, decide_eq_false (by omega)]; rfl)
          by_cases hg1 : p < -1048576
          · have d1 : decide (p < -1048576) = true := by simp; omega
            clear hg hg1 hk0 hp hf ht
            go_wp2_with (fail)
            go_quiet (fail)
            go_wp2
            go_ret
            exact ⟨by rw [HF.out]; rfl, by first | exact q_end | (rw [World.drewN_drewN]; exact q_end)⟩
          · have d1 : decide (p < -1048576) = false := by simp; omega
            have d2 : decide (p > 1048576) = true := by simp; omega
            have d2' : decide (1048576 < p) = true := by simp; omega
            clear hg hg1 hk0 hp hf ht
            go_wp2_with (fail)
            go_quiet (fail)
            go_wp2
            go_ret
            exact ⟨by rw [HF.out]; rfl, by first | exact q_end | (rw [World.drewN_drewN]; exact q_end)⟩
      · have e0 : decide ((k : Int) > 0) = true := by simp; omega
        have e0' : decide (0 < (k : Int)) = true := by simp; omega
        have e0n : decide (0 < k) = true := by simp; omega
        have hfe := hf.out (by omega)
        have h9 : k - 1 < ps.length := by omega
        rw [List.getD_eq_getElem?_getD, List.getElem?_eq_getElem h9, Option.getD_some] at hfe
        obtain ⟨ad', hA', c1⟩ := RdI.at_ HR.out (k - 1) h9
        injection hA' with hA'
        subst hA'
        obtain ⟨j, hj⟩ : ∃ j, j = k - 1 := ⟨_, rfl⟩
        obtain ⟨p, hp⟩ : ∃ p, p = ps[k] := ⟨_, rfl⟩
        rw [← hp] at c0 HD HX HP
        obtain ⟨u, hu⟩ : ∃ u, u = ps[k - 1] := ⟨_, rfl⟩
        rw [← hu] at c1 hfe
        rw [← hj] at c1
        have ej : (k : Int) - 1 = (j : Int) := by omega
        have wj : IntKind.i64.wrap (j : Int) = (j : Int) := by rw [IntKind.wrap_i64]; omega
        have bj0 : (0 : Int) ≤ (j : Int) := by omega
        have bj1 : (j : Int) < (ps.length : Int) := by omega
        by_cases hg : -1048576 ≤ p ∧ p ≤ 1048576
        · have d1 : decide (p < -1048576) = false := by simp; omega
          have d2 : decide (p > 1048576) = false := by simp; omega
          have d2' : decide (1048576 < p) = false := by simp; omega
          by_cases hle : p ≤ u
          · have d3 : decide (p ≤ u) = true := by simpa using hle
            have HF : Hid (rising ps = false) := Lib.hid (by rw [ht.out, HD.out, HX.out, decide_eq_false (by omega)]; rfl)
            clear hg hk0 hp hf ht hfe hu hj h9 hle
            go_wp2_with (fail)
            go_quiet (fail)
            go_wp2
            go_ret
            exact ⟨by rw [HF.out]; rfl, by first | exact q_end | (rw [World.drewN_drewN]; exact q_end)⟩
          · have d3 : decide (p ≤ u) = false := by simpa using hle
            have HT : Hid (rising ps = risingF (decide (k + 1 = 0)) (p + 1) (ps.drop (k + 1))) := Lib.hid (by rw [ht.out, HD.out, HX.out, decide_eq_true (by omega)]; rfl)
            clear hg hk0 hp hf ht hfe hu hj h9 hle
            go_wp2_with (fail)
            go_quiet (fail)
            go_wp2
            go_roundw
            case rel => exact ⟨k + 1, m + nq, p + 1, by omega, by go_num, Lib.hid (fun _ => by rw [Nat.add_sub_cancel, HP.out]), HT, by first | rfl | rw [World.drewN_drewN]⟩
            case measure => simp [intOf]; omega
        · have HF : Hid (rising ps = false) := Lib.hid (by rw [ht.out, HD.out, HX.out, decide_eq_false (by omega)]; rfl)
          by_cases hg1 : p < -1048576
          · have d1 : decide (p < -1048576) = true := by simp; omega
            clear hg hg1 hk0 hp hf ht hfe hu hj h9
            go_wp2_with (fail)
            go_quiet (fail)
            go_wp2
            go_ret
            exact ⟨by rw [HF.out]; rfl, by first | exact q_end | (rw [World.drewN_drewN]; exact q_end)⟩
          · have d1 : decide (p < -1048576) = false := by simp; omega
            have d2 : decide (p > 1048576) = true := by simp; omega
            have d2' : decide (1048576 < p) = true := by simp; omega
            clear hg hg1 hk0 hp hf ht hfe hu hj h9
            go_wp2_with (fail)
            go_quiet (fail)
            go_wp2
            go_ret
            exact ⟨by rw [HF.out]; rfl, by first | exact q_end | (rw [World.drewN_drewN]; exact q_end)⟩
    · obtain rfl : k = ps.length := by omega
      have HF : Hid (rising ps = true) := Lib.hid (by rw [ht.out, List.drop_length]; rfl)
      clear ht hf
      go_wp2
      go_ret
      exact ⟨by rw [HF.out]; rfl, q_end⟩
end Go.Proofs.Ytaenincbmlcjiaa.Ref06
