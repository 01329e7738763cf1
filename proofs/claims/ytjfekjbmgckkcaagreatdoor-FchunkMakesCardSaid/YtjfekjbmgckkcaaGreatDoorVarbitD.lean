/- varbit's walks: signed, GetU, GetS. -/
import Derived.Test.YtjfekjbmgckkcaaGreatDoorVarbitC
import Derived.Test.YtjfekjbmgckkcaaGreatDoorVarParse
namespace Go.Proofs.YtjfekjbmgckkcaaGreatDoor.VarbitD
open Go.RowKit Go.Proofs.YtjfekjbmgckkcaaGreatDoorW.PrintWords
open Go.Proofs.YtjfekjbmgckkcaaGreatDoor.Bits Go.Proofs.YtjfekjbmgckkcaaGreatDoor.Base Go.Proofs.YtjfekjbmgckkcaaGreatDoor.VarPure Go.Proofs.YtjfekjbmgckkcaaGreatDoor.VarbitA Go.Proofs.YtjfekjbmgckkcaaGreatDoor.VarbitB Go.Proofs.YtjfekjbmgckkcaaGreatDoor.VarbitC Go.Proofs.YtjfekjbmgckkcaaGreatDoor.StreamA Go.Proofs.YtjfekjbmgckkcaaGreatDoor.StreamR

theorem wrap_i64 (y : Nat) (h : y < 18446744073709551616) : IntKind.i64.wrap (y : Int) = i64 y := by
  rw [IntKind.wrap_i64, i64]
  split <;> omega

set_option maxHeartbeats 1600000 in
theorem signed_calls (g y : Nat) (w : World) (hg : g < 9) (hy : y < 2 ^ behind g) :
    Calls Tryz.prog 205 #[.int .u64 y, .int .i64 (behind g)] w fun e w' => e = .returned (.int .i64 (sgd y (behind g))) ∧ w = w' := by
  have : g = 0 ∨ g = 1 ∨ g = 2 ∨ g = 3 ∨ g = 4 ∨ g = 5 ∨ g = 6 ∨ g = 7 ∨ g = 8 := by omega
  rcases this with rfl | rfl | rfl | rfl | rfl | rfl | rfl | rfl | rfl
  · obtain rfl : y = 0 := by simpa [behind] using hy
    rw [show behind 0 = 0 from rfl, show sgd 0 0 = 0 from rfl]
    go_enter Tryz.func205, Tryz.ntmps205
    go_wp2
    go_ret
    exact ⟨rfl, rfl⟩
  · rw [show behind 1 = 3 from rfl] at hy ⊢
    have hy2 : y < 8 := hy
    have hw : IntKind.i64.wrap (y : Int) = y := by rw [IntKind.wrap_i64]; omega
    by_cases ha : 4 < y
    · have d1 : decide ((y : Int) > 4) = true := by simp; omega
      have d1' : decide (4 < (y : Int)) = true := by simp; omega
      have d1n : decide (4 < y) = true := by simp; omega
      have hs : sgd y 3 = (y : Int) - 8 := by simp [sgd, ha]
      rw [hs]
      clear hs hy ha
      go_enter Tryz.func205, Tryz.ntmps205
      go_wp2
      go_ret
      exact ⟨by go_num, rfl⟩
    · have d1 : decide ((y : Int) > 4) = false := by simp; omega
      have d1' : decide (4 < (y : Int)) = false := by simp; omega
      have d1n : decide (4 < y) = false := by simp; omega
      have hs : sgd y 3 = (y : Int) := by simp [sgd]; omega
      rw [hs]
      clear hs hy ha
      go_enter Tryz.func205, Tryz.ntmps205
      go_wp2
      go_ret
      exact ⟨by go_num, rfl⟩
  · rw [show behind 2 = 6 from rfl] at hy ⊢
    have hy2 : y < 64 := hy
    have hw : IntKind.i64.wrap (y : Int) = y := by rw [IntKind.wrap_i64]; omega
    by_cases ha : 32 < y
    · have d1 : decide ((y : Int) > 32) = true := by simp; omega
      have d1' : decide (32 < (y : Int)) = true := by simp; omega
      have d1n : decide (32 < y) = true := by simp; omega
      have hs : sgd y 6 = (y : Int) - 64 := by simp [sgd, ha]
      rw [hs]
      clear hs hy ha
      go_enter Tryz.func205, Tryz.ntmps205
      go_wp2
      go_ret
      exact ⟨by go_num, rfl⟩
    · have d1 : decide ((y : Int) > 32) = false := by simp; omega
      have d1' : decide (32 < (y : Int)) = false := by simp; omega
      have d1n : decide (32 < y) = false := by simp; omega
      have hs : sgd y 6 = (y : Int) := by simp [sgd]; omega
      rw [hs]
      clear hs hy ha
      go_enter Tryz.func205, Tryz.ntmps205
      go_wp2
      go_ret
      exact ⟨by go_num, rfl⟩
  · rw [show behind 3 = 9 from rfl] at hy ⊢
    have hy2 : y < 512 := hy
    have hw : IntKind.i64.wrap (y : Int) = y := by rw [IntKind.wrap_i64]; omega
    by_cases ha : 256 < y
    · have d1 : decide ((y : Int) > 256) = true := by simp; omega
      have d1' : decide (256 < (y : Int)) = true := by simp; omega
      have d1n : decide (256 < y) = true := by simp; omega
      have hs : sgd y 9 = (y : Int) - 512 := by simp [sgd, ha]
      rw [hs]
      clear hs hy ha
      go_enter Tryz.func205, Tryz.ntmps205
      go_wp2
      go_ret
      exact ⟨by go_num, rfl⟩
    · have d1 : decide ((y : Int) > 256) = false := by simp; omega
      have d1' : decide (256 < (y : Int)) = false := by simp; omega
      have d1n : decide (256 < y) = false := by simp; omega
      have hs : sgd y 9 = (y : Int) := by simp [sgd]; omega
      rw [hs]
      clear hs hy ha
      go_enter Tryz.func205, Tryz.ntmps205
      go_wp2
      go_ret
      exact ⟨by go_num, rfl⟩
  · rw [show behind 4 = 12 from rfl] at hy ⊢
    have hy2 : y < 4096 := hy
    have hw : IntKind.i64.wrap (y : Int) = y := by rw [IntKind.wrap_i64]; omega
    by_cases ha : 2048 < y
    · have d1 : decide ((y : Int) > 2048) = true := by simp; omega
      have d1' : decide (2048 < (y : Int)) = true := by simp; omega
      have d1n : decide (2048 < y) = true := by simp; omega
      have hs : sgd y 12 = (y : Int) - 4096 := by simp [sgd, ha]
      rw [hs]
      clear hs hy ha
      go_enter Tryz.func205, Tryz.ntmps205
      go_wp2
      go_ret
      exact ⟨by go_num, rfl⟩
    · have d1 : decide ((y : Int) > 2048) = false := by simp; omega
      have d1' : decide (2048 < (y : Int)) = false := by simp; omega
      have d1n : decide (2048 < y) = false := by simp; omega
      have hs : sgd y 12 = (y : Int) := by simp [sgd]; omega
      rw [hs]
      clear hs hy ha
      go_enter Tryz.func205, Tryz.ntmps205
      go_wp2
      go_ret
      exact ⟨by go_num, rfl⟩
  · rw [show behind 5 = 18 from rfl] at hy ⊢
    have hy2 : y < 262144 := hy
    have hw : IntKind.i64.wrap (y : Int) = y := by rw [IntKind.wrap_i64]; omega
    by_cases ha : 131072 < y
    · have d1 : decide ((y : Int) > 131072) = true := by simp; omega
      have d1' : decide (131072 < (y : Int)) = true := by simp; omega
      have d1n : decide (131072 < y) = true := by simp; omega
      have hs : sgd y 18 = (y : Int) - 262144 := by simp [sgd, ha]
      rw [hs]
      clear hs hy ha
      go_enter Tryz.func205, Tryz.ntmps205
      go_wp2
      go_ret
      exact ⟨by go_num, rfl⟩
    · have d1 : decide ((y : Int) > 131072) = false := by simp; omega
      have d1' : decide (131072 < (y : Int)) = false := by simp; omega
      have d1n : decide (131072 < y) = false := by simp; omega
      have hs : sgd y 18 = (y : Int) := by simp [sgd]; omega
      rw [hs]
      clear hs hy ha
      go_enter Tryz.func205, Tryz.ntmps205
      go_wp2
      go_ret
      exact ⟨by go_num, rfl⟩
  · rw [show behind 6 = 25 from rfl] at hy ⊢
    have hy2 : y < 33554432 := hy
    have hw : IntKind.i64.wrap (y : Int) = y := by rw [IntKind.wrap_i64]; omega
    by_cases ha : 16777216 < y
    · have d1 : decide ((y : Int) > 16777216) = true := by simp; omega
      have d1' : decide (16777216 < (y : Int)) = true := by simp; omega
      have d1n : decide (16777216 < y) = true := by simp; omega
      have hs : sgd y 25 = (y : Int) - 33554432 := by simp [sgd, ha]
      rw [hs]
      clear hs hy ha
      go_enter Tryz.func205, Tryz.ntmps205
      go_wp2
      go_ret
      exact ⟨by go_num, rfl⟩
    · have d1 : decide ((y : Int) > 16777216) = false := by simp; omega
      have d1' : decide (16777216 < (y : Int)) = false := by simp; omega
      have d1n : decide (16777216 < y) = false := by simp; omega
      have hs : sgd y 25 = (y : Int) := by simp [sgd]; omega
      rw [hs]
      clear hs hy ha
      go_enter Tryz.func205, Tryz.ntmps205
      go_wp2
      go_ret
      exact ⟨by go_num, rfl⟩
  · rw [show behind 7 = 56 from rfl] at hy ⊢
    have hy2 : y < 72057594037927936 := hy
    have hw : IntKind.i64.wrap (y : Int) = y := by rw [IntKind.wrap_i64]; omega
    by_cases ha : 36028797018963968 < y
    · have d1 : decide ((y : Int) > 36028797018963968) = true := by simp; omega
      have d1' : decide (36028797018963968 < (y : Int)) = true := by simp; omega
      have d1n : decide (36028797018963968 < y) = true := by simp; omega
      have hs : sgd y 56 = (y : Int) - 72057594037927936 := by simp [sgd, ha]
      rw [hs]
      clear hs hy ha
      go_enter Tryz.func205, Tryz.ntmps205
      go_wp2
      go_ret
      exact ⟨by go_num, rfl⟩
    · have d1 : decide ((y : Int) > 36028797018963968) = false := by simp; omega
      have d1' : decide (36028797018963968 < (y : Int)) = false := by simp; omega
      have d1n : decide (36028797018963968 < y) = false := by simp; omega
      have hs : sgd y 56 = (y : Int) := by simp [sgd]; omega
      rw [hs]
      clear hs hy ha
      go_enter Tryz.func205, Tryz.ntmps205
      go_wp2
      go_ret
      exact ⟨by go_num, rfl⟩
  · rw [show behind 8 = 64 from rfl] at hy ⊢
    have hw := wrap_i64 y hy
    rw [show sgd y 64 = i64 y from rfl]
    clear hy
    go_enter Tryz.func205, Tryz.ntmps205
    go_wp2
    go_ret
    exact ⟨rfl, rfl⟩

/-- what get has told, of what stands there. -/
def Got (P : Nat → List Bool → Value) (few : Value) (g a : Nat) (S : Nat → Prop) (q : List Bool) (w : World) (e : Ending) (w' : World) : Prop :=
  Ch S w w' ∧ ((parse q = none ∧ e = .returned few ∧ ∃ a', Rr w' g S a' [] true) ∨
    ∃ k x t, parse q = some (k, x, t) ∧ e = .returned (P k x) ∧ Rr w' g S (a + front k + behind k) t false)

theorem vget_calls (g a : Nat) (S : Nat → Prop) (q : List Bool) (w : World) (hT : Tab w) (hG : ¬ S 1) (h : Rr w g S a q false) :
    Calls Tryz.prog 204 #[.pointer (some ⟨g, 0, none⟩)] w (Got (fun k x => .tuple #[.int .i64 k, .int .u64 (val x), .int .i64 0]) (.tuple #[.int .i64 0, .int .u64 0, .int .i64 16]) g a S q w) := by
  rcases parse_cases q with ⟨k, h1, rfl, h3⟩ | ⟨k, y, h1, rfl, h3, h4⟩ | ⟨k, x, t, h1, rfl, h3, h4⟩
  · refine (vget_ones g a k S w hT hG h h1).mono ?_
    rintro e w' ⟨he, hr, hc⟩
    exact ⟨hc, .inl ⟨h3, he, hr⟩⟩
  · refine (vget_few g a k S y w hT hG h h1 h3).mono ?_
    rintro e w' ⟨he, hr, hc⟩
    exact ⟨hc, .inl ⟨h4, he, hr⟩⟩
  · refine (vget_ok g a k S x t w hT hG h h1 h3).mono ?_
    rintro e w' ⟨he, hr, hc⟩
    exact ⟨hc, .inr ⟨k, x, t, h4, he, hr⟩⟩

/-- a number without a sign, of a group. -/
def okU (k : Nat) (x : List Bool) : Bool := decide (gU (val x) = k)
def okS (k : Nat) (x : List Bool) : Bool := decide (gS (sgd (val x) (behind k)) = k)

set_option maxHeartbeats 800000 in
theorem getU_calls (g a : Nat) (S : Nat → Prop) (q : List Bool) (w : World) (hT : Tab w) (hG : ¬ S 1) (h : Rr w g S a q false) :
    Calls Tryz.prog 160 #[.pointer (some ⟨g, 0, none⟩)] w
      (Got (fun k x => if okU k x then .tuple #[.int .u64 (val x), .int .i64 0] else .tuple #[.int .u64 0, .int .i64 10]) (.tuple #[.int .u64 0, .int .i64 16]) g a S q w) := by
  have HV := Lib.hid (vget_calls g a S q w hT hG h)
  have HT := Lib.hid hT
  have HNG := Lib.hid hG
  clear h hT hG
  go_enter Tryz.func160, Tryz.ntmps160
  go_wp2_with (fail)
  refine HV.out.mono ?_
  rintro e w1 ⟨hc, ⟨hp, rfl, hr⟩ | ⟨k, x, t, hp, rfl, hr⟩⟩
  · have H1 := Lib.hid hc
    have H2 := Lib.hid hp
    have H3 := Lib.hid hr
    clear hc hp hr
    go_wp2
    go_ret2
    exact ⟨H1.out, .inl ⟨H2.out, rfl, H3.out⟩⟩
  · have hx := (parse_some hp).2.2
    have hv : val x < 18446744073709551616 := by
      have h1 := val_lt x
      have h2 : (2 : Nat) ^ x.length ≤ 2 ^ 64 := Nat.pow_le_pow_right (by decide) (by rw [hx]; exact behind_le)
      omega
    have HGU := Lib.hid (groupU_calls (val x) w1 (HT.out.ch hc HNG.out) hv)
    have H1 := Lib.hid hc
    have H2 := Lib.hid hp
    have H3 := Lib.hid hr
    obtain ⟨z, hz⟩ : ∃ z, z = val x := ⟨_, rfl⟩
    rw [← hz] at HGU hv
    dsimp only []
    rw [← hz]
    have HZ := Lib.hid hz
    obtain ⟨m, hm⟩ : ∃ m, m = gU z := ⟨_, rfl⟩
    rw [← hm] at HGU
    have HM := Lib.hid hm
    clear hc hp hr hx hz hm
    by_cases he : m = k
    · have d1 : ((m : Int) != (k : Int)) = false := by simp [he]
      have d2 : ((m : Int) == (k : Int)) = true := by simp [he]
      have HE := Lib.hid he
      clear he
      go_wp2_with (go_at_call 203; refine HGU.out.mono ?_; rintro e w' ⟨rfl, rfl⟩)
      go_ret2
      refine ⟨H1.out, .inr ⟨k, x, t, H2.out, ?_, H3.out⟩⟩
      have : okU k x = true := by rw [okU, ← HZ.out, ← HM.out]; exact decide_eq_true HE.out
      simp only [this, if_true]
      rw [← HZ.out]
      rfl
    · have d1 : ((m : Int) != (k : Int)) = true := by simp; omega
      have d2 : ((m : Int) == (k : Int)) = false := by simp; omega
      have HE := Lib.hid he
      clear he
      go_wp2_with (go_at_call 203; refine HGU.out.mono ?_; rintro e w' ⟨rfl, rfl⟩)
      go_ret2
      refine ⟨H1.out, .inr ⟨k, x, t, H2.out, ?_, H3.out⟩⟩
      have : okU k x = false := by rw [okU, ← HZ.out, ← HM.out]; exact decide_eq_false HE.out
      simp only [this]
      rfl

theorem sgd_range (y k : Nat) (hk : k < 9) (hy : y < 2 ^ behind k) : -9223372036854775808 ≤ sgd y (behind k) ∧ sgd y (behind k) ≤ 9223372036854775807 := by
  unfold sgd
  by_cases h8 : behind k = 64
  · rw [if_pos h8]
    rw [h8] at hy
    exact i64_range y hy
  · rw [if_neg h8]
    have h56 : behind k ≤ 56 := behind_lt (by rcases Nat.lt_or_ge k 8 with h | h
                                              · exact h
                                              · exact absurd (show behind k = 64 from by rw [show k = 8 from by omega]; rfl) h8)
    have hp : (2 : Nat) ^ behind k ≤ 2 ^ 56 := Nat.pow_le_pow_right (by decide) h56
    have hpi : ((2 : Int) ^ behind k) = ((2 ^ behind k : Nat) : Int) := by simp
    rw [hpi]
    generalize 2 ^ behind k = P at *
    split <;> omega

set_option maxHeartbeats 800000 in
theorem getS_calls (g a : Nat) (S : Nat → Prop) (q : List Bool) (w : World) (hT : Tab w) (hG : ¬ S 1) (h : Rr w g S a q false) :
    Calls Tryz.prog 158 #[.pointer (some ⟨g, 0, none⟩)] w
      (Got (fun k x => if okS k x then .tuple #[.int .i64 (sgd (val x) (behind k)), .int .i64 0] else .tuple #[.int .i64 0, .int .i64 10]) (.tuple #[.int .i64 0, .int .i64 16]) g a S q w) := by
  have HV := Lib.hid (vget_calls g a S q w hT hG h)
  have HT := Lib.hid hT
  have HNG := Lib.hid hG
  clear h hT hG
  go_enter Tryz.func158, Tryz.ntmps158
  go_wp2_with (fail)
  refine HV.out.mono ?_
  rintro e w1 ⟨hc, ⟨hp, rfl, hr⟩ | ⟨k, x, t, hp, rfl, hr⟩⟩
  · have H1 := Lib.hid hc
    have H2 := Lib.hid hp
    have H3 := Lib.hid hr
    clear hc hp hr
    go_wp2
    go_ret2
    exact ⟨H1.out, .inl ⟨H2.out, rfl, H3.out⟩⟩
  · have hx := (parse_some hp).2.2
    have hk := (parse_some hp).1
    have hv : val x < 2 ^ behind k := by rw [← hx]; exact val_lt x
    have hT1 := HT.out.ch hc HNG.out
    have hsr := sgd_range _ _ hk hv
    have HSG := Lib.hid (signed_calls k (val x) w1 hk hv)
    have HGU := Lib.hid (groupS_calls (sgd (val x) (behind k)) w1 hT1 hsr.1 hsr.2)
    have HBE := Lib.hid (behind_calls k w1 hT1 hk)
    have H1 := Lib.hid hc
    have H2 := Lib.hid hp
    have H3 := Lib.hid hr
    obtain ⟨z, hz⟩ : ∃ z, z = sgd (val x) (behind k) := ⟨_, rfl⟩
    rw [← hz] at HGU HSG
    have HZ := Lib.hid hz
    obtain ⟨m, hm⟩ : ∃ m, m = gS z := ⟨_, rfl⟩
    rw [← hm] at HGU
    have HM := Lib.hid hm
    clear hc hp hr hx hz hm hT1 hsr hv
    by_cases he : m = k
    · have d1 : ((m : Int) != (k : Int)) = false := by simp [he]
      have d2 : ((m : Int) == (k : Int)) = true := by simp [he]
      have HE := Lib.hid he
      clear he
      go_wp2_with (first | (go_at_call 148; refine HGU.out.mono ?_; rintro e w' ⟨rfl, rfl⟩) | (go_at_call 200; refine HBE.out.mono ?_; rintro e w' ⟨rfl, rfl⟩) | (go_at_call 205; refine HSG.out.mono ?_; rintro e w' ⟨rfl, rfl⟩))
      go_ret2
      refine ⟨H1.out, .inr ⟨k, x, t, H2.out, ?_, H3.out⟩⟩
      have : okS k x = true := by rw [okS, ← HZ.out, ← HM.out]; exact decide_eq_true HE.out
      simp only [this, if_true]
      rw [← HZ.out]
      rfl
    · have d1 : ((m : Int) != (k : Int)) = true := by simp; omega
      have d2 : ((m : Int) == (k : Int)) = false := by simp; omega
      have HE := Lib.hid he
      clear he
      go_wp2_with (first | (go_at_call 148; refine HGU.out.mono ?_; rintro e w' ⟨rfl, rfl⟩) | (go_at_call 200; refine HBE.out.mono ?_; rintro e w' ⟨rfl, rfl⟩) | (go_at_call 205; refine HSG.out.mono ?_; rintro e w' ⟨rfl, rfl⟩))
      go_ret2
      refine ⟨H1.out, .inr ⟨k, x, t, H2.out, ?_, H3.out⟩⟩
      have : okS k x = false := by rw [okS, ← HZ.out, ← HM.out]; exact decide_eq_false HE.out
      simp only [this]
      rfl
end Go.Proofs.YtjfekjbmgckkcaaGreatDoor.VarbitD
