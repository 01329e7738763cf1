/- the reference of layer 6: runs, places, the union. -/
import Derived.Test.YtaenincbmlcjiaaRef06
namespace Go.Proofs.Ytaenincbmlcjiaa.Ref06B
open Go.RowKit Go.Proofs.YtaenincbmlcjiaaW.PrintWords
open Go.Proofs.Ytaenincbmlcjiaa.Base Go.Proofs.Ytaenincbmlcjiaa.SpanPure Go.Proofs.Ytaenincbmlcjiaa.SpanPure2 Go.Proofs.Ytaenincbmlcjiaa.SpanBase Go.Proofs.Ytaenincbmlcjiaa.SpanA Go.Proofs.Ytaenincbmlcjiaa.SpanB Go.Proofs.Ytaenincbmlcjiaa.SpanD Go.Proofs.Ytaenincbmlcjiaa.SpanG Go.Proofs.Ytaenincbmlcjiaa.Ref06

theorem runsF_step (k : Nat) (f p : Int) (t : List Int) : runsF (decide (k = 0)) f (p :: t) = (if k = 0 ∨ p ≠ f then 1 else 0) + runsF (decide (k + 1 = 0)) (p + 1) t := by
  rw [runsF, decide_eq_false (Nat.succ_ne_zero k)]
  simp
set_option maxHeartbeats 1600000 in
theorem runs_calls (A : Option Addr) (c : Nat) (ps : List Int) (w : World) (hr : RdI .i64 w A ps) (hm : ps.length ≤ 1000000000) (hin : ∀ x ∈ ps, -1048576 ≤ x ∧ x ≤ 1048576) :
    Calls Try.prog 20 #[.slice A ps.length c] w fun e w' => e = .returned (.int .i64 (runs ps)) ∧ Drawn0 w w' := by
  have HR := Lib.hid hr
  have HIN := Lib.hid hin
  clear hr hin
  go_enter Try.func20, Try.ntmps20
  go_wp2
  go_loopw [3, 4] (fun s i wr => ∃ (k m n : Nat) (f : Int), k ≤ ps.length ∧ i = .int .i64 k ∧ s = .int .i64 n ∧ n ≤ k ∧ Hid (0 < k → f = ps.getD (k - 1) 0 + 1) ∧ Hid (runs ps = n + runsF (decide (k = 0)) f (ps.drop k)) ∧ wr = w.drewN m) (fun _ i _ => ps.length - (intOf i).toNat)
  case atStart => exact ⟨0, 0, 0, 0, by omega, rfl, rfl, by omega, Lib.hid (fun h => absurd h (by omega)), Lib.hid (by simp [runs]), rfl⟩
  case round =>
    obtain ⟨k, m, n, f, hk, rfl, rfl, hnk, hf, ht, rfl⟩ := hrel
    by_cases hlt : k < ps.length
    · obtain ⟨ad, hA, c0⟩ := RdI.at_ HR.out k hlt
      subst hA
      have HD := Lib.hid (show ps.drop k = ps[k] :: ps.drop (k + 1) from List.drop_eq_getElem_cons hlt)
      have HP := Lib.hid (show ps.getD k 0 = ps[k] by simp [List.getD_eq_getElem?_getD, hlt])
      have HX := Lib.hid (runsF_step k f ps[k] (ps.drop (k + 1)))
      have b0 : (0 : Int) ≤ (k : Int) := by omega
      have b1 : (k : Int) < (ps.length : Int) := by omega
      by_cases hk0 : k = 0
      · have e1 : ((k : Int) == 0) = true := by simp; omega
        have HT : Hid (runs ps = (n + 1) + runsF (decide (k + 1 = 0)) (ps[k] + 1) (ps.drop (k + 1))) := Lib.hid (by rw [ht.out, HD.out, HX.out, if_pos (.inl hk0)]; omega)
        obtain ⟨p, hp⟩ : ∃ p, p = ps[k] := ⟨_, rfl⟩
        rw [← hp] at c0 HP HT
        clear hk0 hp hf ht HX HD
        go_wp2_with (fail)
        go_quiet (fail)
        go_wp2
        go_roundw
        case rel => exact ⟨k + 1, m + nq, n + 1, p + 1, by omega, by go_num, by go_num, by omega, Lib.hid (fun _ => by rw [Nat.add_sub_cancel, HP.out]), HT, by first | rfl | rw [World.drewN_drewN]⟩
        case measure => simp [intOf]; omega
      · have e1 : ((k : Int) == 0) = false := by simp; omega
        have hfe := hf.out (by omega)
        have h9 : k - 1 < ps.length := by omega
        rw [List.getD_eq_getElem?_getD, List.getElem?_eq_getElem h9, Option.getD_some] at hfe
        obtain ⟨ad', hA', c1⟩ := RdI.at_ HR.out (k - 1) h9
        injection hA' with hA'
        subst hA'
        have hub := HIN.out _ (List.getElem_mem h9)
        obtain ⟨j, hj⟩ : ∃ j, j = k - 1 := ⟨_, rfl⟩
        have HTA : Hid (∀ b : Prop, [Decidable b] → (b ↔ ps[k] ≠ f) → runs ps = (n + (if b then 1 else 0)) + runsF (decide (k + 1 = 0)) (ps[k] + 1) (ps.drop (k + 1))) := Lib.hid (by
          intro b _ hb
          rw [ht.out, HD.out, HX.out]
          by_cases h : ps[k] ≠ f
          · rw [if_pos (.inr h), if_pos (hb.2 h)]; omega
          · rw [if_neg (by omega), if_neg (fun h' => h (hb.1 h'))]; omega)
        obtain ⟨p, hp⟩ : ∃ p, p = ps[k] := ⟨_, rfl⟩
        rw [← hp] at c0 HP HTA
        obtain ⟨u, hu⟩ : ∃ u, u = ps[k - 1] := ⟨_, rfl⟩
        rw [← hu] at c1 hfe hub
        rw [← hj] at c1
        have ej : (k : Int) - 1 = (j : Int) := by omega
        have wj : IntKind.i64.wrap (j : Int) = (j : Int) := by rw [IntKind.wrap_i64]; omega
        have bj0 : (0 : Int) ≤ (j : Int) := by omega
        have bj1 : (j : Int) < (ps.length : Int) := by omega
        have wu : IntKind.i64.wrap (u + 1) = u + 1 := by rw [IntKind.wrap_i64]; omega
        rw [hfe] at HTA
        by_cases hne : p = u + 1
        · have d1 : (p != u + 1) = false := by simp [hne]
          have HT : Hid (runs ps = n + runsF (decide (k + 1 = 0)) (p + 1) (ps.drop (k + 1))) := Lib.hid (by have := HTA.out False (by simp [hne]); rwa [if_neg id, Nat.add_zero] at this)
          clear hk0 hp hf ht HX HD hfe hu hj h9 hne HTA hub
          go_wp2_with (fail)
          go_quiet (fail)
          go_wp2
          go_roundw
          case rel => exact ⟨k + 1, m + nq, n, p + 1, by omega, by go_num, by go_num, by omega, Lib.hid (fun _ => by rw [Nat.add_sub_cancel, HP.out]), HT, by first | rfl | rw [World.drewN_drewN]⟩
          case measure => simp [intOf]; omega
        · have d1 : (p != u + 1) = true := by simp [hne]
          have HT : Hid (runs ps = (n + 1) + runsF (decide (k + 1 = 0)) (p + 1) (ps.drop (k + 1))) := Lib.hid (by have := HTA.out True (by simp [hne]); rwa [if_pos trivial] at this)
          clear hk0 hp hf ht HX HD hfe hu hj h9 hne HTA hub
          go_wp2_with (fail)
          go_quiet (fail)
          go_wp2
          go_roundw
          case rel => exact ⟨k + 1, m + nq, n + 1, p + 1, by omega, by go_num, by go_num, by omega, Lib.hid (fun _ => by rw [Nat.add_sub_cancel, HP.out]), HT, by first | rfl | rw [World.drewN_drewN]⟩
          case measure => simp [intOf]; omega
    · obtain rfl : k = ps.length := by omega
      have HF : Hid (runs ps = n) := Lib.hid (by rw [ht.out, List.drop_length]; rfl)
      clear ht hf
      go_wp2
      go_ret
      exact ⟨by rw [HF.out]; rfl, q_end⟩

set_option maxHeartbeats 1600000 in
theorem places_calls (A : Option Addr) (c : Nat) (l : List Sp) (w : World) (hr : RdSp w A l) (hm : l.length ≤ 1000000000) (h0 : chk l = 0) :
    Calls Try.prog 15 #[.slice A l.length c] w fun e w' => ∃ v, e = .returned v ∧ OwI 3 .i64 w' w.heap.size v (places l) ∧ Below w.heap.size w w' := by
  have HR := Lib.hid hr
  have hR := right_of h0
  have HRR := Lib.hid hR
  have hpl := places_len hR
  clear hr h0 hR
  go_enter Try.func15, Try.ntmps15
  go_wp2
  go_loopw [3, 4, 5] (fun v a i wr => ∃ (k : Nat) (E : Int), k ≤ l.length ∧ i = .int .i64 k ∧ a = .int .i64 E ∧ Hid (E = endF 0 (l.take k)) ∧ OwI 3 .i64 wr w.heap.size v (placesF 0 (l.take k)) ∧ Below w.heap.size w wr) (fun _ _ i _ => l.length - (intOf i).toNat)
  case atStart => exact ⟨0, 0, by omega, rfl, rfl, Lib.hid rfl, OwI.nil _ _ _ _, Below.refl _ _⟩
  case round =>
    obtain ⟨k, E, hk, rfl, rfl, hE, ho, hb⟩ := hrel
    have HO := Lib.hid ho
    have HB := Lib.hid hb
    have hsz := hb.size
    by_cases hlt : k < l.length
    · obtain ⟨ad, hA, c0, c1⟩ := (HR.out.below hb).at_ k hlt
      have HRA := Lib.hid HR.out
      subst hA
      obtain ⟨r1, r2, r3, r4, r5, r6⟩ := right_at HRR.out k hlt
      have HPT := Lib.hid (placesF_take l k hlt)
      have HET := Lib.hid (endF_take l k hlt)
      have HPX := Lib.hid (places_prefix l k hlt)
      have HAT := Lib.hid (fun W (h : Below w.heap.size w W) => (HR.out.below h).at_ k hlt)
      obtain ⟨s, hs⟩ : ∃ s, s = l[k] := ⟨_, rfl⟩
      rw [← hs] at c0 c1 r1 r2 r3 r4 HPT HET HPX HAT
      rw [← hE.out] at r3 r4 r5 r6 HPT HET HPX
      obtain ⟨o, q⟩ := s
      simp only at c0 c1 r1 r2 r3 r4 HPT HET HPX HAT
      obtain ⟨Q, rfl⟩ := Int.eq_ofNat_of_zero_le r1
      rw [Int.toNat_natCast] at HPT HPX
      obtain ⟨D, hD⟩ : ∃ D, D = E + o := ⟨_, rfl⟩
      rw [← hD] at r3 r4 HPT HET HPX
      clear hs ho hb
      obtain ⟨wo, rfl⟩ : ∃ wo : World, wo = wr := ⟨_, rfl⟩
      go_wp2_with (fail)
      rw [← hD]
      have HD := Lib.hid hD
      clear hD
      go_loopw [3, 4, 6] (fun v a i wr => ∃ j : Nat, j ≤ Q ∧ i = .int .i64 j ∧ a = .int .i64 (D + (j : Int)) ∧ OwI 3 .i64 wr w.heap.size v (placesF 0 (l.take k) ++ runP D j) ∧ Below w.heap.size w wr) (fun _ _ i _ => Q - (intOf i).toNat)
      case atStart => exact ⟨0, by omega, rfl, by simp, by rw [runP_zero, List.append_nil]; exact HO.out, HB.out⟩
      case round =>
        clear HO HB hsz c0 c1
        obtain ⟨j, hj, rfl, rfl, ho, hb⟩ := hrel
        have HO := Lib.hid ho
        have HB := Lib.hid hb
        have hsz := hb.size
        obtain ⟨ad', hA', c0, c1⟩ := HAT.out _ hb
        injection hA' with hA'
        subst hA'
        clear ho hb
        by_cases hjl : j < Q
        · have hlen := (HPX.out (j + 1) (by omega)).length_le
          rw [List.length_append, runP_length] at hlen
          go_wp2_with (at_builtin; refine append_one (w0 := w) w.heap.size rfl (.tmp 29) (.tmp 31) 25 3 .i64 8 rfl Try.underlying25 infoInt (by decide) _ (placesF 0 (l.take k) ++ runP D j) (D + (j : Int)) rfl rfl HO.out HB.out hsz (by rw [List.length_append, runP_length]; omega) ?_; intro v2 w2 ho2 hb2 _ _; have HO2 := Lib.hid ho2; have HB2 := Lib.hid hb2; clear ho2 hb2)
          go_roundw
          case rel => exact ⟨j + 1, by omega, by go_num, by go_num, by rw [runP_snoc, ← List.append_assoc]; exact HO2.out, HB2.out⟩
          case measure => simp [intOf]; omega
        · obtain rfl : j = Q := by omega
          rw [← HPT.out] at HO
          have HE1 : Hid (D + (j : Int) = endF 0 (l.take (k + 1))) := Lib.hid (by rw [HET.out])
          go_wp2_with (fail)
          go_roundw
          case rel => exact ⟨k + 1, D + (j : Int), by omega, by go_num, rfl, HE1, HO.out, HB.out⟩
          case measure => simp [intOf]; omega
    · obtain rfl : k = l.length := by omega
      rw [List.take_length] at HO
      obtain ⟨A1, c1, rfl, -, -⟩ := HO.out.reads
      clear ho hb
      go_wp2
      go_ret
      exact ⟨_, rfl, HO.out, HB.out⟩
end Go.Proofs.Ytaenincbmlcjiaa.Ref06B
