/- law 06: the canonical list of any one has the same places, and no list with them is shorter. -/
import Derived.Test.YtaenincbmlcjiaaSpanFrom
import Derived.Test.YtaenincbmlcjiaaOpenSp
namespace Go.Proofs.Ytaenincbmlcjiaa.SpanCanon
open Go.RowKit Go.Proofs.YtaenincbmlcjiaaW.PrintWords
open Go.Proofs.Ytaenincbmlcjiaa.Base Go.Proofs.Ytaenincbmlcjiaa.SpanPure Go.Proofs.Ytaenincbmlcjiaa.SpanPure2 Go.Proofs.Ytaenincbmlcjiaa.SpanBase Go.Proofs.Ytaenincbmlcjiaa.SpanA Go.Proofs.Ytaenincbmlcjiaa.SpanB Go.Proofs.Ytaenincbmlcjiaa.SpanD Go.Proofs.Ytaenincbmlcjiaa.SpanG Go.Proofs.Ytaenincbmlcjiaa.Ref06 Go.Proofs.Ytaenincbmlcjiaa.Law06A Go.Proofs.Ytaenincbmlcjiaa.Law06B Go.Proofs.Ytaenincbmlcjiaa.LawBase Go.Proofs.Ytaenincbmlcjiaa.OpenSp Go.Proofs.Ytaenincbmlcjiaa.SpanFrom

theorem canon_facts {l : List Sp} (h : chk l = 0) : chk (fromL (places l)) = 0 ∧ places (fromL (places l)) = places l ∧ canonical (fromL (places l)) = true ∧ (fromL (places l)).length ≤ l.length := by
  have h1 := places_rising (right_of h)
  have h2 := from_len h
  have h3 := places_len (right_of h)
  obtain ⟨k1, k2, k3, k4⟩ := fromL_facts h1 h3 (by omega)
  exact ⟨k1, k2, k4, h2.1⟩

set_option maxRecDepth 100000 in
set_option maxHeartbeats 3200000 in
theorem core (A : Option Addr) (c : Nat) (l : List Sp) (w : World) (hr : RdSp w A l) (hm : l.length ≤ 1000000000) (hc : l.length ≤ c) (hA : A = none → c = 0) (hs : small l = true) :
    Calls Try.prog 5 #[.slice A l.length c] w fun e w' => e = .returned (.bool true) ∧ Below w.heap.size w w' := by
  have HR := Lib.hid hr
  have hsm := small_calls A c l w hr (by omega)
  rw [hs] at hsm
  have HSM := Lib.hid hsm
  have HCN := Lib.hid (fun W (h : Below w.heap.size w W) => canon_calls A c l W (hr.below h) hm hc hA)
  have HCK := Lib.hid (fun W (h : Below w.heap.size w W) => SpanA.check_calls A c l W (hr.below h) hm)
  have HAW := Lib.hid (fun W (h : Below w.heap.size w W) => lift h h.size (awake_calls W))
  have hl6 := small_len hs
  clear hr hsm hs
  go_enter Try.func5, Try.ntmps5
  go_wp2_with (go_at_call 11; refine HSM.out.mono ?_; rintro e w1 ⟨rfl, hb1⟩; have HB1 := Lib.hid hb1; clear hb1)
  refine (HCN.out _ HB1.out).mono ?_
  rintro e w2 ⟨hb2, ⟨h0, rfl⟩ | ⟨h0, v, rfl, ho⟩⟩
  · have HB2 := Lib.hid (below_then HB1.out HB1.out.size hb2)
    have e1 : ((chk l : Int) != 0) = true := by simp; exact h0
    clear hb2 h0
    go_wp2_with (first
      | (go_at_call 23; refine (HCK.out _ HB2.out).mono ?_; rintro e w3 ⟨rfl, hb3⟩; have HB3 := Lib.hid (below_then HB2.out HB2.out.size hb3); clear hb3)
      | (go_at_call 12; refine (HAW.out _ HB3.out).mono ?_; rintro e w9 ⟨rfl, hb9⟩))
    go_ret
    exact ⟨rfl, hb9⟩
  · obtain ⟨k1, k2, k3, k4⟩ := canon_facts h0
    obtain ⟨L, hL⟩ : ∃ L, L = fromL (places l) := ⟨_, rfl⟩
    rw [← hL] at ho k1 k2 k3 k4
    have HB2 := Lib.hid (below_then HB1.out HB1.out.size hb2)
    obtain ⟨A1, c1, rfl, hc1, hA1, hr1⟩ := ho.reads
    have HR1 := Lib.hid hr1
    have HCK2 := Lib.hid (HCK.out _ HB2.out)
    rw [h0] at HCK2
    have HFL : Hid (fromL (places L) = L) := Lib.hid (by rw [k2, ← hL])
    have HCN2 := Lib.hid (fun W (h : Below w2.heap.size w2 W) => canon_calls A1 c1 L W (hr1.below h) (by omega) hc1 hA1)
    have HEQ := Lib.hid (fun W (h : Below w.heap.size w W) (h' : Below w2.heap.size w2 W) => SpanG.equal_calls A1 A c1 c L l W (hr1.below h') (HR.out.below h) (by omega) hm hc1 hc hA1 hA)
    rw [show decide (chk L = 0 ∧ chk l = 0 ∧ places L = places l) = true from by simp [k1, h0, k2]] at HEQ
    have HCA := Lib.hid (fun W (h' : Below w2.heap.size w2 W) => canonical_calls A1 c1 L W (hr1.below h') (by omega))
    rw [k3] at HCA
    have K1 := Lib.hid k1
    clear hb2 h0 ho hr1 k1 k2 k3 hL hA1
    go_wp2_with (go_at_call 23; refine HCK2.out.mono ?_; rintro e w3 ⟨rfl, hb3⟩; have HB3 := Lib.hid (below_then HB2.out HB2.out.size hb3); have HC3 := Lib.hid hb3; clear hb3)
    refine (HCN2.out _ HC3.out).mono ?_
    rintro e w4 ⟨hb4, ⟨g0, -⟩ | ⟨-, v4, rfl, ho4⟩⟩
    · exact absurd K1.out g0
    · rw [HFL.out] at ho4
      have HB4 := Lib.hid (below_then HB3.out HB3.out.size hb4)
      have HC4 := Lib.hid (below_then HC3.out HC3.out.size hb4)
      obtain ⟨A4, c4, rfl, -, -, hr4⟩ := ho4.reads
      have HR4 := Lib.hid hr4
      clear hb4 ho4 hr4
      have d4 : decide ((L.length : Int) ≤ (l.length : Int)) = true := by simp; omega
      have d4n : decide (L.length ≤ l.length) = true := by simp; omega
      go_wp2_with (fail)
      go_loopw [53] (fun i wr => ∃ k m : Nat, k ≤ L.length ∧ i = .int .i64 k ∧ wr = w4.drewN m) (fun i _ => L.length - (intOf i).toNat)
      case atStart => exact ⟨0, 0, by omega, rfl, rfl⟩
      case round =>
        obtain ⟨k, m, hk, rfl, rfl⟩ := hrel
        by_cases hlt : k < L.length
        · obtain ⟨ad, hA, c0, c1'⟩ := (HR1.out.below HC4.out).at_ k hlt
          obtain ⟨ad2, hA2, c02, c12⟩ := HR4.out.at_ k hlt
          subst hA hA2
          have b0 : (0 : Int) ≤ (k : Int) := by omega
          have b1 : (k : Int) < (L.length : Int) := by omega
          obtain ⟨s, hs⟩ : ∃ s, s = L[k] := ⟨_, rfl⟩
          rw [← hs] at c0 c1' c02 c12
          obtain ⟨o, q⟩ := s
          simp only at c0 c1' c02 c12
          clear hs
          go_wp2_with (fail)
          go_quiet (fail)
          go_wp2
          go_roundw
          case rel => exact ⟨k + 1, m + nq, by omega, by go_num, by first | rfl | rw [World.drewN_drewN]⟩
          case measure => simp [intOf]; omega
        · obtain rfl : k = L.length := by omega
          have HB5 := Lib.hid (pw_below_drewN HB4.out m)
          have HC5 := Lib.hid (pw_below_drewN HC4.out m)
          generalize w4.drewN m = w5 at *
          go_wp2_with (first
            | (go_at_call 21; refine (HCA.out _ HC5.out).mono ?_; rintro e w6 ⟨rfl, hb6⟩; have HB6 := Lib.hid (below_then HB5.out HB5.out.size hb6); have HC6 := Lib.hid (below_then HC5.out HC5.out.size hb6); clear hb6)
            | (go_at_call 24; refine (HEQ.out _ HB6.out HC6.out).mono ?_; rintro e w7 ⟨rfl, hb7⟩; have HB7 := Lib.hid (below_then HB6.out HB6.out.size hb7); clear hb7)
            | (go_at_call 12; refine (HAW.out _ HB7.out).mono ?_; rintro e w9 ⟨rfl, hb9⟩))
          go_ret
          exact ⟨rfl, hb9⟩

set_option maxHeartbeats 400000 in
theorem narrow (A : Option Addr) (c : Nat) (l : List Sp) (w : World) (hr : RdSp w A l) (hm : l.length ≤ 9223372036854775807) (hs : small l = false) :
    Calls Try.prog 5 #[.slice A l.length c] w fun e w' => e = .returned (.bool true) ∧ Below w.heap.size w w' := by
  have hsm := small_calls A c l w hr hm
  rw [hs] at hsm
  have HSM := Lib.hid hsm
  have HAW := Lib.hid (fun W (h : Below w.heap.size w W) => lift h h.size (awake_calls W))
  clear hr hsm hs
  go_enter Try.func5, Try.ntmps5
  go_wp2_with (first
    | (go_at_call 11; refine HSM.out.mono ?_; rintro e w1 ⟨rfl, hb1⟩; have HB1 := Lib.hid hb1; clear hb1)
    | (go_at_call 12; refine (HAW.out _ HB1.out).mono ?_; rintro e w9 ⟨rfl, hb9⟩))
  go_ret
  exact ⟨rfl, hb9⟩
theorem walk (A : Option Addr) (len c : Nat) (l : List Sp) (w : World) (h : IsSps w A len c l) :
    Calls Try.prog 5 #[.slice A len c] w fun e w' => e = .returned (.bool true) ∧ Below w.heap.size w w' := by
  obtain ⟨hr, hl, hc, hA, hm, -⟩ := h
  subst hl
  unfold maxLen at hm
  cases hs : small l with
  | false => exact narrow A c l w hr (by omega) hs
  | true => exact core A c l w hr (by have := small_len hs; omega) hc hA hs
end Go.Proofs.Ytaenincbmlcjiaa.SpanCanon
