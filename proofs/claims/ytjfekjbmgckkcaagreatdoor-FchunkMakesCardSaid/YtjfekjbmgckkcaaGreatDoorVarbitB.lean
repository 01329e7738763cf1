/- varbit's walks: put, PutS, PutU. -/
import Derived.Test.YtjfekjbmgckkcaaGreatDoorVarbitA
namespace Go.Proofs.YtjfekjbmgckkcaaGreatDoor.VarbitB
open Go.RowKit Go.Proofs.YtjfekjbmgckkcaaGreatDoorW.PrintWords
open Go.Proofs.YtjfekjbmgckkcaaGreatDoor.Bits Go.Proofs.YtjfekjbmgckkcaaGreatDoor.Base Go.Proofs.YtjfekjbmgckkcaaGreatDoor.VarPure Go.Proofs.YtjfekjbmgckkcaaGreatDoor.VarbitA Go.Proofs.YtjfekjbmgckkcaaGreatDoor.StreamA Go.Proofs.YtjfekjbmgckkcaaGreatDoor.StreamBit

theorem not_turned {w : World} {G : Nat} {S S1 : Nat → Prop} (hG : G < w.heap.size) (hn : ¬ S G) (h : ∀ k, S1 k → S k ∨ w.heap.size ≤ k) : ¬ S1 G := by
  intro h1
  rcases h G h1 with h2 | h2
  · exact hn h2
  · omega

set_option maxHeartbeats 1600000 in
theorem put_calls (g k : Nat) (S : Nat → Prop) (l : List Bool) (x : Nat) (w : World) (hT : Tab w) (hG : ¬ S 1) (h : Wr w g S l) (hm : l.length ≤ 10000000000) (hk : k < 9) (hx : x < 18446744073709551616) :
    Calls Tryz.prog 147 #[.pointer (some ⟨g, 0, none⟩), .int .i64 k, .int .u64 x] w fun e w' => e = .returned (.tuple #[]) ∧ Upd (fun w S => Wr w g S (l ++ enc k x)) S w w' := by
  have HT := Lib.hid hT
  have HX := Lib.hid hx
  have HH := Lib.hid h
  have HNG := Lib.hid hG
  clear hT hx h hG
  go_enter Tryz.func147, Tryz.ntmps147
  go_wp2
  go_loopw [7] (fun i wr => ∃ j : Nat, j ≤ k ∧ i = .int .i64 j ∧ Upd (fun w S => Wr w g S (l ++ List.replicate j true)) S w wr) (fun i _ => k - (intOf i).toNat)
  case atStart => exact ⟨0, by omega, rfl, S, by simpa using HH.out, fun k hk => .inl hk, Ch.refl _ _⟩
  case round =>
    obtain ⟨j, hj, rfl, S1, hw, hs, hc⟩ := hrel
    have HHS := Lib.hid hs
    have HHC := Lib.hid hc
    have HNG1 := Lib.hid (not_turned HT.out.lt HNG.out hs)
    have HT1 := Lib.hid (HT.out.ch hc HNG.out)
    by_cases hlt : j < k
    · have hl : (l ++ List.replicate j true).length ≤ 1000000000000 := by rw [List.length_append, List.length_replicate]; omega
      have HC := Lib.hid (bit_calls g S1 _ true wr hw hl)
      clear hw hs hc hl
      go_wp2_with (go_at_call 16; refine HC.out.mono ?_; rintro e w2 ⟨rfl, hu⟩; have HU := Lib.hid hu; clear hu)
      go_roundw
      case rel =>
        have hu := Upd.then HHS.out HHC.out HU.out
        rw [List.append_assoc, ← List.replicate_succ'] at hu
        exact ⟨j + 1, by omega, by go_num, hu⟩
      case measure => simp [intOf]; omega
    · obtain rfl : j = k := by omega
      by_cases h8 : j < 8
      · have hl : (l ++ List.replicate j true).length ≤ 1000000000000 := by rw [List.length_append, List.length_replicate]; omega
        have HC := Lib.hid (bit_calls g S1 _ false wr hw hl)
        have d1 : decide ((j : Int) < 8) = true := by simp; omega
        have d1n : decide (j < 8) = true := by simp; omega
        clear hw hs hc hl
        go_wp2_with (go_at_call 16; refine HC.out.mono ?_; rintro e w2 ⟨rfl, S2, hw2, hs2, hc2⟩; refine stop_here ?_)
        refine Lib.hid ?_
        have HT2 := Lib.hid (HT1.out.ch hc2 HNG1.out)
        have HB := Lib.hid (behind_calls j w2 HT2.out hk)
        have hl2 : (l ++ List.replicate j true ++ [false]).length ≤ 100000000000 := by rw [List.length_append, List.length_append, List.length_replicate, List.length_singleton]; omega
        have HP := Lib.hid (StreamBit.put_calls g S2 _ x (behind j) w2 hw2 hl2 behind_le HX.out)
        have HS2 := Lib.hid hs2
        have HC2 := Lib.hid hc2
        clear hw2 hs2 hc2 hl2
        go_wp2_with (first | (go_at_call 200; refine HB.out.mono ?_; rintro e w' ⟨rfl, rfl⟩) | (go_at_call 72; refine HP.out.mono ?_; rintro e w3 ⟨rfl, hu⟩; have HU := Lib.hid hu; clear hu))
        go_end0
        refine ⟨rfl, ?_⟩
        have hu := Upd.then HHS.out HHC.out (Upd.then HS2.out HC2.out HU.out)
        have e : l ++ List.replicate j true ++ [false] ++ nb x (behind j) = l ++ enc j x := by
          rw [enc, ones, if_pos h8]; simp
        rw [e] at hu
        exact hu
      · obtain rfl : j = 8 := by omega
        have HB := Lib.hid (behind_calls 8 wr HT1.out hk)
        have hl2 : (l ++ List.replicate 8 true).length ≤ 100000000000 := by rw [List.length_append, List.length_replicate]; omega
        have HP := Lib.hid (StreamBit.put_calls g S1 _ x (behind 8) wr hw hl2 behind_le HX.out)
        clear hw hs hc hl2
        go_wp2_with (first | (go_at_call 200; refine HB.out.mono ?_; rintro e w' ⟨rfl, rfl⟩) | (go_at_call 72; refine HP.out.mono ?_; rintro e w3 ⟨rfl, hu⟩; have HU := Lib.hid hu; clear hu))
        go_end0
        refine ⟨rfl, ?_⟩
        have hu := Upd.then HHS.out HHC.out HU.out
        have e : l ++ List.replicate 8 true ++ nb x (behind 8) = l ++ enc 8 x := by
          rw [enc, ones, if_neg (by decide)]; simp
        rw [e] at hu
        exact hu

theorem putU_calls (g : Nat) (S : Nat → Prop) (l : List Bool) (x : Nat) (w : World) (hT : Tab w) (hG : ¬ S 1) (h : Wr w g S l) (hm : l.length ≤ 10000000000) (hx : x < 18446744073709551616) :
    Calls Tryz.prog 150 #[.pointer (some ⟨g, 0, none⟩), .int .u64 x] w fun e w' => e = .returned (.tuple #[]) ∧ Upd (fun w S => Wr w g S (l ++ encU x)) S w w' := by
  have HG := Lib.hid (groupU_calls x w hT hx)
  have h8 : gU x ≤ 8 := first_le _
  have HP := Lib.hid (put_calls g (gU x) S l x w hT hG h hm (by omega) hx)
  clear hT hG h hx
  go_enter Tryz.func150, Tryz.ntmps150
  go_wp2_with (first | (go_at_call 203; refine HG.out.mono ?_; rintro e w' ⟨rfl, rfl⟩) | (go_at_call 147; refine HP.out.mono ?_; rintro e w3 ⟨rfl, hu⟩; have HU := Lib.hid hu; clear hu))
  go_end0
  exact ⟨rfl, HU.out⟩
theorem wrap_u64 (v : Int) : IntKind.u64.wrap v = (u64 v : Int) := by
  rw [IntKind.wrap_u64, u64]
  have := Int.emod_nonneg v (show (18446744073709551616 : Int) ≠ 0 by decide)
  omega
theorem putS_calls (g : Nat) (S : Nat → Prop) (l : List Bool) (v : Int) (w : World) (hT : Tab w) (hG : ¬ S 1) (h : Wr w g S l) (hm : l.length ≤ 10000000000) (h1 : -9223372036854775808 ≤ v) (h2 : v ≤ 9223372036854775807) :
    Calls Tryz.prog 73 #[.pointer (some ⟨g, 0, none⟩), .int .i64 v] w fun e w' => e = .returned (.tuple #[]) ∧ Upd (fun w S => Wr w g S (l ++ encS v)) S w w' := by
  have HG := Lib.hid (groupS_calls v w hT h1 h2)
  have h8 : gS v ≤ 8 := first_le _
  have HP := Lib.hid (put_calls g (gS v) S l (u64 v) w hT hG h hm (by omega) (u64_lt v))
  have hw := wrap_u64 v
  clear hT hG h
  go_enter Tryz.func73, Tryz.ntmps73
  go_wp2_with (first | (go_at_call 148; refine HG.out.mono ?_; rintro e w' ⟨rfl, rfl⟩) | (go_at_call 147; refine HP.out.mono ?_; rintro e w3 ⟨rfl, hu⟩; have HU := Lib.hid hu; clear hu))
  go_end0
  exact ⟨rfl, HU.out⟩
end Go.Proofs.YtjfekjbmgckkcaaGreatDoor.VarbitB
