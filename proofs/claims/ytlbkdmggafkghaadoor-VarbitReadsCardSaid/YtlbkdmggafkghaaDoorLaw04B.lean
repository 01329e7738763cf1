/- law 04: shorter. -/
import Derived.Test.YtlbkdmggafkghaaDoorLaw04A
namespace Go.Proofs.YtlbkdmggafkghaaDoor.Law04B
open Go.RowKit Go.Proofs.YtlbkdmggafkghaaDoorW.PrintWords
open Go.Proofs.YtlbkdmggafkghaaDoor.Bits Go.Proofs.YtlbkdmggafkghaaDoor.Base Go.Proofs.YtlbkdmggafkghaaDoor.VarPure Go.Proofs.YtlbkdmggafkghaaDoor.VarbitA Go.Proofs.YtlbkdmggafkghaaDoor.VarbitD Go.Proofs.YtlbkdmggafkghaaDoor.VarKit Go.Proofs.YtlbkdmggafkghaaDoor.Ref01 Go.Proofs.YtlbkdmggafkghaaDoor.Ref04 Go.Proofs.YtlbkdmggafkghaaDoor.Law04A

set_option maxHeartbeats 3200000 in
theorem shorter_calls (k : Nat) (x : List Bool) (used : Nat) (w : World) (hk : k < 9) (hx : x.length = behind k) :
    Calls Tryd.prog 30 #[.string (txt x), .int .i64 used] w fun e w' => e = .returned (.bool (decide ((encS (sgd (val x) (behind k))).length < used))) ∧ Below w.heap.size w w' := by
  have hv : val x < 2 ^ behind k := by rw [← hx]; exact val_lt x
  have hr := sgd_range _ _ hk hv
  have HV := Lib.hid (value_calls x w (by rw [hx]; exact behind_le))
  have HS := Lib.hid (S_calls (sgd (val x) (behind k)) w hr.1 hr.2)
  have hsz := txt_size x
  rw [hx] at hsz
  have hz := txt_size (encS (sgd (val x) (behind k)))
  obtain ⟨s, hs⟩ : ∃ s, s = txt x := ⟨_, rfl⟩
  obtain ⟨y, hy0⟩ : ∃ y, y = val x := ⟨_, rfl⟩
  obtain ⟨u, hu⟩ : ∃ u, u = txt (encS (sgd (val x) (behind k))) := ⟨_, rfl⟩
  obtain ⟨m, hm⟩ : ∃ m, m = (encS (sgd (val x) (behind k))).length := ⟨_, rfl⟩
  rw [← hm] at hz
  rw [← hu] at hz
  rw [← hu] at HS
  rw [← hm]
  rw [← hs] at hsz HV ⊢
  rw [← hy0] at HS HV hv hr
  have HZ : decide ((m : Int) < (used : Int)) = decide (m < used) := by rw [decide_eq_decide]; omega
  obtain ⟨d, hd⟩ : ∃ d, d = decide (m < used) := ⟨_, rfl⟩
  rw [← hd] at HZ ⊢
  have HZN : decide (m < used) = d := hd.symm
  clear hs hy0 hu hm hx hd hr
  have : k = 0 ∨ k = 1 ∨ k = 2 ∨ k = 3 ∨ k = 4 ∨ k = 5 ∨ k = 6 ∨ k = 7 ∨ k = 8 := by omega
  rcases this with rfl | rfl | rfl | rfl | rfl | rfl | rfl | rfl | rfl
  · obtain rfl : y = 0 := by simpa [behind] using hv
    rw [show behind 0 = 0 from rfl] at hsz
    rw [show sgd 0 (behind 0) = 0 from rfl] at HS
    clear hv
    go_enter Tryd.func30, Tryd.ntmps30
    go_wp2_with (first | (go_at_call 29; refine HV.out.mono ?_; rintro e w' ⟨rfl, rfl⟩) | (go_at_call 15; refine HS.out.mono ?_; rintro e w1 ⟨rfl, hb⟩))
    go_ret
    exact ⟨rfl, hb⟩
  · rw [show behind 1 = 3 from rfl] at hv hsz HS
    have hy2 : y < 8 := hv
    have hw : IntKind.i64.wrap (y : Int) = y := by rw [IntKind.wrap_i64]; omega
    by_cases ha : 4 < y
    · have d1 : decide ((y : Int) > 4) = true := by simp; omega
      have d1' : decide (4 < (y : Int)) = true := by simp; omega
      have d1n : decide (4 < y) = true := by simp; omega
      have hs : sgd y 3 = (y : Int) - 8 := by simp [sgd, ha]
      rw [hs] at HS
      clear hs hv ha
      go_enter Tryd.func30, Tryd.ntmps30
      go_wp2_with (first | (go_at_call 29; refine HV.out.mono ?_; rintro e w' ⟨rfl, rfl⟩) | (go_at_call 15; refine HS.out.mono ?_; rintro e w1 ⟨rfl, hb⟩))
      go_ret
      exact ⟨rfl, hb⟩
    · have d1 : decide ((y : Int) > 4) = false := by simp; omega
      have d1' : decide (4 < (y : Int)) = false := by simp; omega
      have d1n : decide (4 < y) = false := by simp; omega
      have hs : sgd y 3 = (y : Int) := by simp [sgd]; omega
      rw [hs] at HS
      clear hs hv ha
      go_enter Tryd.func30, Tryd.ntmps30
      go_wp2_with (first | (go_at_call 29; refine HV.out.mono ?_; rintro e w' ⟨rfl, rfl⟩) | (go_at_call 15; refine HS.out.mono ?_; rintro e w1 ⟨rfl, hb⟩))
      go_ret
      exact ⟨rfl, hb⟩
  · rw [show behind 2 = 6 from rfl] at hv hsz HS
    have hy2 : y < 64 := hv
    have hw : IntKind.i64.wrap (y : Int) = y := by rw [IntKind.wrap_i64]; omega
    by_cases ha : 32 < y
    · have d1 : decide ((y : Int) > 32) = true := by simp; omega
      have d1' : decide (32 < (y : Int)) = true := by simp; omega
      have d1n : decide (32 < y) = true := by simp; omega
      have hs : sgd y 6 = (y : Int) - 64 := by simp [sgd, ha]
      rw [hs] at HS
      clear hs hv ha
      go_enter Tryd.func30, Tryd.ntmps30
      go_wp2_with (first | (go_at_call 29; refine HV.out.mono ?_; rintro e w' ⟨rfl, rfl⟩) | (go_at_call 15; refine HS.out.mono ?_; rintro e w1 ⟨rfl, hb⟩))
      go_ret
      exact ⟨rfl, hb⟩
    · have d1 : decide ((y : Int) > 32) = false := by simp; omega
      have d1' : decide (32 < (y : Int)) = false := by simp; omega
      have d1n : decide (32 < y) = false := by simp; omega
      have hs : sgd y 6 = (y : Int) := by simp [sgd]; omega
      rw [hs] at HS
      clear hs hv ha
      go_enter Tryd.func30, Tryd.ntmps30
      go_wp2_with (first | (go_at_call 29; refine HV.out.mono ?_; rintro e w' ⟨rfl, rfl⟩) | (go_at_call 15; refine HS.out.mono ?_; rintro e w1 ⟨rfl, hb⟩))
      go_ret
      exact ⟨rfl, hb⟩
  · rw [show behind 3 = 9 from rfl] at hv hsz HS
    have hy2 : y < 512 := hv
    have hw : IntKind.i64.wrap (y : Int) = y := by rw [IntKind.wrap_i64]; omega
    by_cases ha : 256 < y
    · have d1 : decide ((y : Int) > 256) = true := by simp; omega
      have d1' : decide (256 < (y : Int)) = true := by simp; omega
      have d1n : decide (256 < y) = true := by simp; omega
      have hs : sgd y 9 = (y : Int) - 512 := by simp [sgd, ha]
      rw [hs] at HS
      clear hs hv ha
      go_enter Tryd.func30, Tryd.ntmps30
      go_wp2_with (first | (go_at_call 29; refine HV.out.mono ?_; rintro e w' ⟨rfl, rfl⟩) | (go_at_call 15; refine HS.out.mono ?_; rintro e w1 ⟨rfl, hb⟩))
      go_ret
      exact ⟨rfl, hb⟩
    · have d1 : decide ((y : Int) > 256) = false := by simp; omega
      have d1' : decide (256 < (y : Int)) = false := by simp; omega
      have d1n : decide (256 < y) = false := by simp; omega
      have hs : sgd y 9 = (y : Int) := by simp [sgd]; omega
      rw [hs] at HS
      clear hs hv ha
      go_enter Tryd.func30, Tryd.ntmps30
      go_wp2_with (first | (go_at_call 29; refine HV.out.mono ?_; rintro e w' ⟨rfl, rfl⟩) | (go_at_call 15; refine HS.out.mono ?_; rintro e w1 ⟨rfl, hb⟩))
      go_ret
      exact ⟨rfl, hb⟩
  · rw [show behind 4 = 12 from rfl] at hv hsz HS
    have hy2 : y < 4096 := hv
    have hw : IntKind.i64.wrap (y : Int) = y := by rw [IntKind.wrap_i64]; omega
    by_cases ha : 2048 < y
    · have d1 : decide ((y : Int) > 2048) = true := by simp; omega
      have d1' : decide (2048 < (y : Int)) = true := by simp; omega
      have d1n : decide (2048 < y) = true := by simp; omega
      have hs : sgd y 12 = (y : Int) - 4096 := by simp [sgd, ha]
      rw [hs] at HS
      clear hs hv ha
      go_enter Tryd.func30, Tryd.ntmps30
      go_wp2_with (first | (go_at_call 29; refine HV.out.mono ?_; rintro e w' ⟨rfl, rfl⟩) | (go_at_call 15; refine HS.out.mono ?_; rintro e w1 ⟨rfl, hb⟩))
      go_ret
      exact ⟨rfl, hb⟩
    · have d1 : decide ((y : Int) > 2048) = false := by simp; omega
      have d1' : decide (2048 < (y : Int)) = false := by simp; omega
      have d1n : decide (2048 < y) = false := by simp; omega
      have hs : sgd y 12 = (y : Int) := by simp [sgd]; omega
      rw [hs] at HS
      clear hs hv ha
      go_enter Tryd.func30, Tryd.ntmps30
      go_wp2_with (first | (go_at_call 29; refine HV.out.mono ?_; rintro e w' ⟨rfl, rfl⟩) | (go_at_call 15; refine HS.out.mono ?_; rintro e w1 ⟨rfl, hb⟩))
      go_ret
      exact ⟨rfl, hb⟩
  · rw [show behind 5 = 18 from rfl] at hv hsz HS
    have hy2 : y < 262144 := hv
    have hw : IntKind.i64.wrap (y : Int) = y := by rw [IntKind.wrap_i64]; omega
    by_cases ha : 131072 < y
    · have d1 : decide ((y : Int) > 131072) = true := by simp; omega
      have d1' : decide (131072 < (y : Int)) = true := by simp; omega
      have d1n : decide (131072 < y) = true := by simp; omega
      have hs : sgd y 18 = (y : Int) - 262144 := by simp [sgd, ha]
      rw [hs] at HS
      clear hs hv ha
      go_enter Tryd.func30, Tryd.ntmps30
      go_wp2_with (first | (go_at_call 29; refine HV.out.mono ?_; rintro e w' ⟨rfl, rfl⟩) | (go_at_call 15; refine HS.out.mono ?_; rintro e w1 ⟨rfl, hb⟩))
      go_ret
      exact ⟨rfl, hb⟩
    · have d1 : decide ((y : Int) > 131072) = false := by simp; omega
      have d1' : decide (131072 < (y : Int)) = false := by simp; omega
      have d1n : decide (131072 < y) = false := by simp; omega
      have hs : sgd y 18 = (y : Int) := by simp [sgd]; omega
      rw [hs] at HS
      clear hs hv ha
      go_enter Tryd.func30, Tryd.ntmps30
      go_wp2_with (first | (go_at_call 29; refine HV.out.mono ?_; rintro e w' ⟨rfl, rfl⟩) | (go_at_call 15; refine HS.out.mono ?_; rintro e w1 ⟨rfl, hb⟩))
      go_ret
      exact ⟨rfl, hb⟩
  · rw [show behind 6 = 25 from rfl] at hv hsz HS
    have hy2 : y < 33554432 := hv
    have hw : IntKind.i64.wrap (y : Int) = y := by rw [IntKind.wrap_i64]; omega
    by_cases ha : 16777216 < y
    · have d1 : decide ((y : Int) > 16777216) = true := by simp; omega
      have d1' : decide (16777216 < (y : Int)) = true := by simp; omega
      have d1n : decide (16777216 < y) = true := by simp; omega
      have hs : sgd y 25 = (y : Int) - 33554432 := by simp [sgd, ha]
      rw [hs] at HS
      clear hs hv ha
      go_enter Tryd.func30, Tryd.ntmps30
      go_wp2_with (first | (go_at_call 29; refine HV.out.mono ?_; rintro e w' ⟨rfl, rfl⟩) | (go_at_call 15; refine HS.out.mono ?_; rintro e w1 ⟨rfl, hb⟩))
      go_ret
      exact ⟨rfl, hb⟩
    · have d1 : decide ((y : Int) > 16777216) = false := by simp; omega
      have d1' : decide (16777216 < (y : Int)) = false := by simp; omega
      have d1n : decide (16777216 < y) = false := by simp; omega
      have hs : sgd y 25 = (y : Int) := by simp [sgd]; omega
      rw [hs] at HS
      clear hs hv ha
      go_enter Tryd.func30, Tryd.ntmps30
      go_wp2_with (first | (go_at_call 29; refine HV.out.mono ?_; rintro e w' ⟨rfl, rfl⟩) | (go_at_call 15; refine HS.out.mono ?_; rintro e w1 ⟨rfl, hb⟩))
      go_ret
      exact ⟨rfl, hb⟩
  · rw [show behind 7 = 56 from rfl] at hv hsz HS
    have hy2 : y < 72057594037927936 := hv
    have hw : IntKind.i64.wrap (y : Int) = y := by rw [IntKind.wrap_i64]; omega
    by_cases ha : 36028797018963968 < y
    · have d1 : decide ((y : Int) > 36028797018963968) = true := by simp; omega
      have d1' : decide (36028797018963968 < (y : Int)) = true := by simp; omega
      have d1n : decide (36028797018963968 < y) = true := by simp; omega
      have hs : sgd y 56 = (y : Int) - 72057594037927936 := by simp [sgd, ha]
      rw [hs] at HS
      clear hs hv ha
      go_enter Tryd.func30, Tryd.ntmps30
      go_wp2_with (first | (go_at_call 29; refine HV.out.mono ?_; rintro e w' ⟨rfl, rfl⟩) | (go_at_call 15; refine HS.out.mono ?_; rintro e w1 ⟨rfl, hb⟩))
      go_ret
      exact ⟨rfl, hb⟩
    · have d1 : decide ((y : Int) > 36028797018963968) = false := by simp; omega
      have d1' : decide (36028797018963968 < (y : Int)) = false := by simp; omega
      have d1n : decide (36028797018963968 < y) = false := by simp; omega
      have hs : sgd y 56 = (y : Int) := by simp [sgd]; omega
      rw [hs] at HS
      clear hs hv ha
      go_enter Tryd.func30, Tryd.ntmps30
      go_wp2_with (first | (go_at_call 29; refine HV.out.mono ?_; rintro e w' ⟨rfl, rfl⟩) | (go_at_call 15; refine HS.out.mono ?_; rintro e w1 ⟨rfl, hb⟩))
      go_ret
      exact ⟨rfl, hb⟩
  · rw [show behind 8 = 64 from rfl] at hv hsz HS
    have hw := wrap_i64 y hv
    rw [show sgd y 64 = i64 y from rfl] at HS
    clear hv
    go_enter Tryd.func30, Tryd.ntmps30
    go_wp2_with (first | (go_at_call 29; refine HV.out.mono ?_; rintro e w' ⟨rfl, rfl⟩) | (go_at_call 15; refine HS.out.mono ?_; rintro e w1 ⟨rfl, hb⟩))
    go_ret
    exact ⟨rfl, hb⟩
end Go.Proofs.YtlbkdmggafkghaaDoor.Law04B
