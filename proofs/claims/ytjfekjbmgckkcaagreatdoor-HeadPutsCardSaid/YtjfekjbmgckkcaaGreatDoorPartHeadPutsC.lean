/- what HeadPuts stands on, part 3: VarbitD, ReadP, ThrPure, ThrA, SpanA, SpanB, FailAs, FailB, FailC, FailD, FailE. -/
import Derived.Test.YtjfekjbmgckkcaaGreatDoorPartHeadPutsB
import Derived.Test.YtjfekjbmgckkcaaGreatDoorPartHeadPutsA
import Derived.Test.YtjfekjbmgckkcaaGreatDoorProg
import Derived.WalkSpells
import Derived.WalkLawsBesides
import Derived.Deep.QuietTactic
import Derived.BigQuiet
import Derived.WalkKit
import Derived.LaidEql
import Derived.Stop.Asserts
import Derived.RowKitTokens
import Derived.Deep.LoopGhost
import Derived.RegionTactic
import Derived.OneCell
import Derived.BigRegion
import Derived.Deep.RegionHeld3

/- varbit's walks: signed, GetU, GetS. -/
namespace Go.Proofs.YtjfekjbmgckkcaaGreatDoor.VarbitD
open Go.RowKit Go.Proofs.YtjfekjbmgckkcaaGreatDoorW.PrintWords
open Go.Proofs.YtjfekjbmgckkcaaGreatDoor.Bits Go.Proofs.YtjfekjbmgckkcaaGreatDoor.Base Go.Proofs.YtjfekjbmgckkcaaGreatDoor.VarPure Go.Proofs.YtjfekjbmgckkcaaGreatDoor.VarbitA Go.Proofs.YtjfekjbmgckkcaaGreatDoor.VarbitB Go.Proofs.YtjfekjbmgckkcaaGreatDoor.VarbitC Go.Proofs.YtjfekjbmgckkcaaGreatDoor.StreamA Go.Proofs.YtjfekjbmgckkcaaGreatDoor.StreamR

theorem wrap_i64 (y : Nat) (h : y < 18446744073709551616) : IntKind.i64.wrap (y : Int) = i64 y := by
  rw [IntKind.wrap_i64, i64]
  split <;> omega

set_option maxHeartbeats 1600000 in
theorem signed_calls (g y : Nat) (w : World) (hg : g < 9) (hy : y < 2 ^ behind g) :
    Calls Tryz.prog 205 #[.int .u64 y, .int .i64 (behind g)] w fun e w' => e = .returned (.int .i64 (sgd y (behind g))) ∧ w = w' := by
  have : g = 0 ∨ g = 1 ∨ g = 2 ∨ g = 3 ∨ g = 4 ∨ g = 5 ∨ g = 6 ∨ g = 7 ∨ g = 8 := by omega
  rcases this with rfl | rfl | rfl | rfl | rfl | rfl | rfl | rfl | rfl
  · obtain rfl : y = 0 := by simpa [behind] using hy
    rw [show behind 0 = 0 from rfl, show sgd 0 0 = 0 from rfl]
    go_enter Tryz.func205, Tryz.ntmps205
    go_wp2
    go_ret
    exact ⟨rfl, rfl⟩
  · rw [show behind 1 = 3 from rfl] at hy ⊢
    have hy2 : y < 8 := hy
    have hw : IntKind.i64.wrap (y : Int) = y := by rw [IntKind.wrap_i64]; omega
    by_cases ha : 4 < y
    · have d1 : decide ((y : Int) > 4) = true := by simp; omega
      have d1' : decide (4 < (y : Int)) = true := by simp; omega
      have d1n : decide (4 < y) = true := by simp; omega
      have hs : sgd y 3 = (y : Int) - 8 := by simp [sgd, ha]
      rw [hs]
      clear hs hy ha
      go_enter Tryz.func205, Tryz.ntmps205
      go_wp2
      go_ret
      exact ⟨by go_num, rfl⟩
    · have d1 : decide ((y : Int) > 4) = false := by simp; omega
      have d1' : decide (4 < (y : Int)) = false := by simp; omega
      have d1n : decide (4 < y) = false := by simp; omega
      have hs : sgd y 3 = (y : Int) := by simp [sgd]; omega
      rw [hs]
      clear hs hy ha
      go_enter Tryz.func205, Tryz.ntmps205
      go_wp2
      go_ret
      exact ⟨by go_num, rfl⟩
  · rw [show behind 2 = 6 from rfl] at hy ⊢
    have hy2 : y < 64 := hy
    have hw : IntKind.i64.wrap (y : Int) = y := by rw [IntKind.wrap_i64]; omega
    by_cases ha : 32 < y
    · have d1 : decide ((y : Int) > 32) = true := by simp; omega
      have d1' : decide (32 < (y : Int)) = true := by simp; omega
      have d1n : decide (32 < y) = true := by simp; omega
      have hs : sgd y 6 = (y : Int) - 64 := by simp [sgd, ha]
      rw [hs]
      clear hs hy ha
      go_enter Tryz.func205, Tryz.ntmps205
      go_wp2
      go_ret
      exact ⟨by go_num, rfl⟩
    · have d1 : decide ((y : Int) > 32) = false := by simp; omega
      have d1' : decide (32 < (y : Int)) = false := by simp; omega
      have d1n : decide (32 < y) = false := by simp; omega
      have hs : sgd y 6 = (y : Int) := by simp [sgd]; omega
      rw [hs]
      clear hs hy ha
      go_enter Tryz.func205, Tryz.ntmps205
      go_wp2
      go_ret
      exact ⟨by go_num, rfl⟩
  · rw [show behind 3 = 9 from rfl] at hy ⊢
    have hy2 : y < 512 := hy
    have hw : IntKind.i64.wrap (y : Int) = y := by rw [IntKind.wrap_i64]; omega
    by_cases ha : 256 < y
    · have d1 : decide ((y : Int) > 256) = true := by simp; omega
      have d1' : decide (256 < (y : Int)) = true := by simp; omega
      have d1n : decide (256 < y) = true := by simp; omega
      have hs : sgd y 9 = (y : Int) - 512 := by simp [sgd, ha]
      rw [hs]
      clear hs hy ha
      go_enter Tryz.func205, Tryz.ntmps205
      go_wp2
      go_ret
      exact ⟨by go_num, rfl⟩
    · have d1 : decide ((y : Int) > 256) = false := by simp; omega
      have d1' : decide (256 < (y : Int)) = false := by simp; omega
      have d1n : decide (256 < y) = false := by simp; omega
      have hs : sgd y 9 = (y : Int) := by simp [sgd]; omega
      rw [hs]
      clear hs hy ha
      go_enter Tryz.func205, Tryz.ntmps205
      go_wp2
      go_ret
      exact ⟨by go_num, rfl⟩
  · rw [show behind 4 = 12 from rfl] at hy ⊢
    have hy2 : y < 4096 := hy
    have hw : IntKind.i64.wrap (y : Int) = y := by rw [IntKind.wrap_i64]; omega
    by_cases ha : 2048 < y
    · have d1 : decide ((y : Int) > 2048) = true := by simp; omega
      have d1' : decide (2048 < (y : Int)) = true := by simp; omega
      have d1n : decide (2048 < y) = true := by simp; omega
      have hs : sgd y 12 = (y : Int) - 4096 := by simp [sgd, ha]
      rw [hs]
      clear hs hy ha
      go_enter Tryz.func205, Tryz.ntmps205
      go_wp2
      go_ret
      exact ⟨by go_num, rfl⟩
    · have d1 : decide ((y : Int) > 2048) = false := by simp; omega
      have d1' : decide (2048 < (y : Int)) = false := by simp; omega
      have d1n : decide (2048 < y) = false := by simp; omega
      have hs : sgd y 12 = (y : Int) := by simp [sgd]; omega
      rw [hs]
      clear hs hy ha
      go_enter Tryz.func205, Tryz.ntmps205
      go_wp2
      go_ret
      exact ⟨by go_num, rfl⟩
  · rw [show behind 5 = 18 from rfl] at hy ⊢
    have hy2 : y < 262144 := hy
    have hw : IntKind.i64.wrap (y : Int) = y := by rw [IntKind.wrap_i64]; omega
    by_cases ha : 131072 < y
    · have d1 : decide ((y : Int) > 131072) = true := by simp; omega
      have d1' : decide (131072 < (y : Int)) = true := by simp; omega
      have d1n : decide (131072 < y) = true := by simp; omega
      have hs : sgd y 18 = (y : Int) - 262144 := by simp [sgd, ha]
      rw [hs]
      clear hs hy ha
      go_enter Tryz.func205, Tryz.ntmps205
      go_wp2
      go_ret
      exact ⟨by go_num, rfl⟩
    · have d1 : decide ((y : Int) > 131072) = false := by simp; omega
      have d1' : decide (131072 < (y : Int)) = false := by simp; omega
      have d1n : decide (131072 < y) = false := by simp; omega
      have hs : sgd y 18 = (y : Int) := by simp [sgd]; omega
      rw [hs]
      clear hs hy ha
      go_enter Tryz.func205, Tryz.ntmps205
      go_wp2
      go_ret
      exact ⟨by go_num, rfl⟩
  · rw [show behind 6 = 25 from rfl] at hy ⊢
    have hy2 : y < 33554432 := hy
    have hw : IntKind.i64.wrap (y : Int) = y := by rw [IntKind.wrap_i64]; omega
    by_cases ha : 16777216 < y
    · have d1 : decide ((y : Int) > 16777216) = true := by simp; omega
      have d1' : decide (16777216 < (y : Int)) = true := by simp; omega
      have d1n : decide (16777216 < y) = true := by simp; omega
      have hs : sgd y 25 = (y : Int) - 33554432 := by simp [sgd, ha]
      rw [hs]
      clear hs hy ha
      go_enter Tryz.func205, Tryz.ntmps205
      go_wp2
      go_ret
      exact ⟨by go_num, rfl⟩
    · have d1 : decide ((y : Int) > 16777216) = false := by simp; omega
      have d1' : decide (16777216 < (y : Int)) = false := by simp; omega
      have d1n : decide (16777216 < y) = false := by simp; omega
      have hs : sgd y 25 = (y : Int) := by simp [sgd]; omega
      rw [hs]
      clear hs hy ha
      go_enter Tryz.func205, Tryz.ntmps205
      go_wp2
      go_ret
      exact ⟨by go_num, rfl⟩
  · rw [show behind 7 = 56 from rfl] at hy ⊢
    have hy2 : y < 72057594037927936 := hy
    have hw : IntKind.i64.wrap (y : Int) = y := by rw [IntKind.wrap_i64]; omega
    by_cases ha : 36028797018963968 < y
    · have d1 : decide ((y : Int) > 36028797018963968) = true := by simp; omega
      have d1' : decide (36028797018963968 < (y : Int)) = true := by simp; omega
      have d1n : decide (36028797018963968 < y) = true := by simp; omega
      have hs : sgd y 56 = (y : Int) - 72057594037927936 := by simp [sgd, ha]
      rw [hs]
      clear hs hy ha
      go_enter Tryz.func205, Tryz.ntmps205
      go_wp2
      go_ret
      exact ⟨by go_num, rfl⟩
    · have d1 : decide ((y : Int) > 36028797018963968) = false := by simp; omega
      have d1' : decide (36028797018963968 < (y : Int)) = false := by simp; omega
      have d1n : decide (36028797018963968 < y) = false := by simp; omega
      have hs : sgd y 56 = (y : Int) := by simp [sgd]; omega
      rw [hs]
      clear hs hy ha
      go_enter Tryz.func205, Tryz.ntmps205
      go_wp2
      go_ret
      exact ⟨by go_num, rfl⟩
  · rw [show behind 8 = 64 from rfl] at hy ⊢
    have hw := wrap_i64 y hy
    rw [show sgd y 64 = i64 y from rfl]
    clear hy
    go_enter Tryz.func205, Tryz.ntmps205
    go_wp2
    go_ret
    exact ⟨rfl, rfl⟩

/-- what get has told, of what stands there. -/
def Got (P : Nat → List Bool → Value) (few : Value) (g a : Nat) (S : Nat → Prop) (q : List Bool) (w : World) (e : Ending) (w' : World) : Prop :=
  Ch S w w' ∧ ((parse q = none ∧ e = .returned few ∧ ∃ a', Rr w' g S a' [] true) ∨
    ∃ k x t, parse q = some (k, x, t) ∧ e = .returned (P k x) ∧ Rr w' g S (a + front k + behind k) t false)

theorem vget_calls (g a : Nat) (S : Nat → Prop) (q : List Bool) (w : World) (hT : Tab w) (hG : ¬ S 1) (h : Rr w g S a q false) :
    Calls Tryz.prog 204 #[.pointer (some ⟨g, 0, none⟩)] w (Got (fun k x => .tuple #[.int .i64 k, .int .u64 (val x), .int .i64 0]) (.tuple #[.int .i64 0, .int .u64 0, .int .i64 16]) g a S q w) := by
  rcases parse_cases q with ⟨k, h1, rfl, h3⟩ | ⟨k, y, h1, rfl, h3, h4⟩ | ⟨k, x, t, h1, rfl, h3, h4⟩
  · refine (vget_ones g a k S w hT hG h h1).mono ?_
    rintro e w' ⟨he, hr, hc⟩
    exact ⟨hc, .inl ⟨h3, he, hr⟩⟩
  · refine (vget_few g a k S y w hT hG h h1 h3).mono ?_
    rintro e w' ⟨he, hr, hc⟩
    exact ⟨hc, .inl ⟨h4, he, hr⟩⟩
  · refine (vget_ok g a k S x t w hT hG h h1 h3).mono ?_
    rintro e w' ⟨he, hr, hc⟩
    exact ⟨hc, .inr ⟨k, x, t, h4, he, hr⟩⟩

/-- a number without a sign, of a group. -/
def okU (k : Nat) (x : List Bool) : Bool := decide (gU (val x) = k)
def okS (k : Nat) (x : List Bool) : Bool := decide (gS (sgd (val x) (behind k)) = k)

set_option maxHeartbeats 800000 in
theorem getU_calls (g a : Nat) (S : Nat → Prop) (q : List Bool) (w : World) (hT : Tab w) (hG : ¬ S 1) (h : Rr w g S a q false) :
    Calls Tryz.prog 160 #[.pointer (some ⟨g, 0, none⟩)] w
      (Got (fun k x => if okU k x then .tuple #[.int .u64 (val x), .int .i64 0] else .tuple #[.int .u64 0, .int .i64 10]) (.tuple #[.int .u64 0, .int .i64 16]) g a S q w) := by
  have HV := Lib.hid (vget_calls g a S q w hT hG h)
  have HT := Lib.hid hT
  have HNG := Lib.hid hG
  clear h hT hG
  go_enter Tryz.func160, Tryz.ntmps160
  go_wp2_with (fail)
  refine HV.out.mono ?_
  rintro e w1 ⟨hc, ⟨hp, rfl, hr⟩ | ⟨k, x, t, hp, rfl, hr⟩⟩
  · have H1 := Lib.hid hc
    have H2 := Lib.hid hp
    have H3 := Lib.hid hr
    clear hc hp hr
    go_wp2
    go_ret2
    exact ⟨H1.out, .inl ⟨H2.out, rfl, H3.out⟩⟩
  · have hx := (parse_some hp).2.2
    have hv : val x < 18446744073709551616 := by
      have h1 := val_lt x
      have h2 : (2 : Nat) ^ x.length ≤ 2 ^ 64 := Nat.pow_le_pow_right (by decide) (by rw [hx]; exact behind_le)
      omega
    have HGU := Lib.hid (groupU_calls (val x) w1 (HT.out.ch hc HNG.out) hv)
    have H1 := Lib.hid hc
    have H2 := Lib.hid hp
    have H3 := Lib.hid hr
    obtain ⟨z, hz⟩ : ∃ z, z = val x := ⟨_, rfl⟩
    rw [← hz] at HGU hv
    dsimp only []
    rw [← hz]
    have HZ := Lib.hid hz
    obtain ⟨m, hm⟩ : ∃ m, m = gU z := ⟨_, rfl⟩
    rw [← hm] at HGU
    have HM := Lib.hid hm
    clear hc hp hr hx hz hm
    by_cases he : m = k
    · have d1 : ((m : Int) != (k : Int)) = false := by simp [he]
      have d2 : ((m : Int) == (k : Int)) = true := by simp [he]
      have HE := Lib.hid he
      clear he
      go_wp2_with (go_at_call 203; refine HGU.out.mono ?_; rintro e w' ⟨rfl, rfl⟩)
      go_ret2
      refine ⟨H1.out, .inr ⟨k, x, t, H2.out, ?_, H3.out⟩⟩
      have : okU k x = true := by rw [okU, ← HZ.out, ← HM.out]; exact decide_eq_true HE.out
      simp only [this, if_true]
      rw [← HZ.out]
      rfl
    · have d1 : ((m : Int) != (k : Int)) = true := by simp; omega
      have d2 : ((m : Int) == (k : Int)) = false := by simp; omega
      have HE := Lib.hid he
      clear he
      go_wp2_with (go_at_call 203; refine HGU.out.mono ?_; rintro e w' ⟨rfl, rfl⟩)
      go_ret2
      refine ⟨H1.out, .inr ⟨k, x, t, H2.out, ?_, H3.out⟩⟩
      have : okU k x = false := by rw [okU, ← HZ.out, ← HM.out]; exact decide_eq_false HE.out
      simp only [this]
      rfl

theorem sgd_range (y k : Nat) (hk : k < 9) (hy : y < 2 ^ behind k) : -9223372036854775808 ≤ sgd y (behind k) ∧ sgd y (behind k) ≤ 9223372036854775807 := by
  unfold sgd
  by_cases h8 : behind k = 64
  · rw [if_pos h8]
    rw [h8] at hy
    exact i64_range y hy
  · rw [if_neg h8]
    have h56 : behind k ≤ 56 := behind_lt (by rcases Nat.lt_or_ge k 8 with h | h
                                              · exact h
                                              · exact absurd (show behind k = 64 from by rw [show k = 8 from by omega]; rfl) h8)
    have hp : (2 : Nat) ^ behind k ≤ 2 ^ 56 := Nat.pow_le_pow_right (by decide) h56
    have hpi : ((2 : Int) ^ behind k) = ((2 ^ behind k : Nat) : Int) := by simp
    rw [hpi]
    generalize 2 ^ behind k = P at *
    split <;> omega

set_option maxHeartbeats 800000 in
theorem getS_calls (g a : Nat) (S : Nat → Prop) (q : List Bool) (w : World) (hT : Tab w) (hG : ¬ S 1) (h : Rr w g S a q false) :
    Calls Tryz.prog 158 #[.pointer (some ⟨g, 0, none⟩)] w
      (Got (fun k x => if okS k x then .tuple #[.int .i64 (sgd (val x) (behind k)), .int .i64 0] else .tuple #[.int .i64 0, .int .i64 10]) (.tuple #[.int .i64 0, .int .i64 16]) g a S q w) := by
  have HV := Lib.hid (vget_calls g a S q w hT hG h)
  have HT := Lib.hid hT
  have HNG := Lib.hid hG
  clear h hT hG
  go_enter Tryz.func158, Tryz.ntmps158
  go_wp2_with (fail)
  refine HV.out.mono ?_
  rintro e w1 ⟨hc, ⟨hp, rfl, hr⟩ | ⟨k, x, t, hp, rfl, hr⟩⟩
  · have H1 := Lib.hid hc
    have H2 := Lib.hid hp
    have H3 := Lib.hid hr
    clear hc hp hr
    go_wp2
    go_ret2
    exact ⟨H1.out, .inl ⟨H2.out, rfl, H3.out⟩⟩
  · have hx := (parse_some hp).2.2
    have hk := (parse_some hp).1
    have hv : val x < 2 ^ behind k := by rw [← hx]; exact val_lt x
    have hT1 := HT.out.ch hc HNG.out
    have hsr := sgd_range _ _ hk hv
    have HSG := Lib.hid (signed_calls k (val x) w1 hk hv)
    have HGU := Lib.hid (groupS_calls (sgd (val x) (behind k)) w1 hT1 hsr.1 hsr.2)
    have HBE := Lib.hid (behind_calls k w1 hT1 hk)
    have H1 := Lib.hid hc
    have H2 := Lib.hid hp
    have H3 := Lib.hid hr
    obtain ⟨z, hz⟩ : ∃ z, z = sgd (val x) (behind k) := ⟨_, rfl⟩
    rw [← hz] at HGU HSG
    have HZ := Lib.hid hz
    obtain ⟨m, hm⟩ : ∃ m, m = gS z := ⟨_, rfl⟩
    rw [← hm] at HGU
    have HM := Lib.hid hm
    clear hc hp hr hx hz hm hT1 hsr hv
    by_cases he : m = k
    · have d1 : ((m : Int) != (k : Int)) = false := by simp [he]
      have d2 : ((m : Int) == (k : Int)) = true := by simp [he]
      have HE := Lib.hid he
      clear he
      go_wp2_with (first | (go_at_call 148; refine HGU.out.mono ?_; rintro e w' ⟨rfl, rfl⟩) | (go_at_call 200; refine HBE.out.mono ?_; rintro e w' ⟨rfl, rfl⟩) | (go_at_call 205; refine HSG.out.mono ?_; rintro e w' ⟨rfl, rfl⟩))
      go_ret2
      refine ⟨H1.out, .inr ⟨k, x, t, H2.out, ?_, H3.out⟩⟩
      have : okS k x = true := by rw [okS, ← HZ.out, ← HM.out]; exact decide_eq_true HE.out
      simp only [this, if_true]
      rw [← HZ.out]
      rfl
    · have d1 : ((m : Int) != (k : Int)) = true := by simp; omega
      have d2 : ((m : Int) == (k : Int)) = false := by simp; omega
      have HE := Lib.hid he
      clear he
      go_wp2_with (first | (go_at_call 148; refine HGU.out.mono ?_; rintro e w' ⟨rfl, rfl⟩) | (go_at_call 200; refine HBE.out.mono ?_; rintro e w' ⟨rfl, rfl⟩) | (go_at_call 205; refine HSG.out.mono ?_; rintro e w' ⟨rfl, rfl⟩))
      go_ret2
      refine ⟨H1.out, .inr ⟨k, x, t, H2.out, ?_, H3.out⟩⟩
      have : okS k x = false := by rw [okS, ← HZ.out, ← HM.out]; exact decide_eq_false HE.out
      simp only [this]
      rfl
end Go.Proofs.YtjfekjbmgckkcaaGreatDoor.VarbitD

/- what is read from bits: an error's number, a value, how many bits it has, what is left; in one form for all readers. -/
namespace Go.Proofs.YtjfekjbmgckkcaaGreatDoor.ReadP
open Go.RowKit Go.Proofs.YtjfekjbmgckkcaaGreatDoorW.PrintWords
open Go.Proofs.YtjfekjbmgckkcaaGreatDoor.Bits Go.Proofs.YtjfekjbmgckkcaaGreatDoor.Base Go.Proofs.YtjfekjbmgckkcaaGreatDoor.VarPure Go.Proofs.YtjfekjbmgckkcaaGreatDoor.VarbitA Go.Proofs.YtjfekjbmgckkcaaGreatDoor.VarbitD Go.Proofs.YtjfekjbmgckkcaaGreatDoor.StreamR

structure PR (α : Type) where
  err : Nat
  val : α
  used : Nat
  rest : List Bool
/-- what a reading hands back. -/
def RP {α : Type} (F : α → Value → World → Prop) (r : PR α) (g a : Nat) (S : Nat → Prop) (w : World) (e : Ending) (w' : World) : Prop :=
  Ch S w w' ∧ (∃ v, e = .returned (.tuple #[v, .int .i64 r.err]) ∧ F r.val v w') ∧
    ((r.err ≠ 0 ∧ ∃ a' q' sh, Rr w' g S a' q' sh) ∨ (r.err = 0 ∧ Rr w' g S (a + r.used) r.rest false))
def pU (q : List Bool) : PR Nat := match parse q with
  | none => ⟨16, 0, 0, []⟩
  | some (k, x, t) => if okU k x then ⟨0, Bits.val x, front k + behind k, t⟩ else ⟨10, 0, 0, []⟩
def pS (q : List Bool) : PR Int := match parse q with
  | none => ⟨16, 0, 0, []⟩
  | some (k, x, t) => if okS k x then ⟨0, sgd (Bits.val x) (behind k), front k + behind k, t⟩ else ⟨10, 0, 0, []⟩
def IsU (n : Nat) (v : Value) (_ : World) : Prop := v = .int .u64 n
def IsS (n : Int) (v : Value) (_ : World) : Prop := v = .int .i64 n
theorem getU_reads (g a : Nat) (S : Nat → Prop) (q : List Bool) (w : World) (hT : Tab w) (hG : ¬ S 1) (h : Rr w g S a q false) :
    Calls Tryz.prog 160 #[.pointer (some ⟨g, 0, none⟩)] w (RP IsU (pU q) g a S w) := by
  refine (getU_calls g a S q w hT hG h).mono ?_
  rintro e w' ⟨hc, ⟨hp, rfl, a', hr⟩ | ⟨k, x, t, hp, rfl, hr⟩⟩
  · have e : pU q = ⟨16, 0, 0, []⟩ := by unfold pU; rw [hp]
    rw [e]
    exact ⟨hc, ⟨_, rfl, rfl⟩, .inl ⟨by decide, _, _, _, hr⟩⟩
  · cases hk : okU k x with
    | true =>
      have e : pU q = ⟨0, Bits.val x, front k + behind k, t⟩ := by unfold pU; rw [hp]; exact if_pos hk
      rw [e]
      rw [Nat.add_assoc] at hr
      exact ⟨hc, ⟨.int .u64 (Bits.val x : Nat), by simp only [hk]; rfl, rfl⟩, .inr ⟨rfl, hr⟩⟩
    | false =>
      have e : pU q = ⟨10, 0, 0, []⟩ := by unfold pU; rw [hp]; exact if_neg (by simp [hk])
      rw [e]
      exact ⟨hc, ⟨.int .u64 0, by simp only [hk]; rfl, rfl⟩, .inl ⟨by decide, _, _, _, hr⟩⟩
theorem getS_reads (g a : Nat) (S : Nat → Prop) (q : List Bool) (w : World) (hT : Tab w) (hG : ¬ S 1) (h : Rr w g S a q false) :
    Calls Tryz.prog 158 #[.pointer (some ⟨g, 0, none⟩)] w (RP IsS (pS q) g a S w) := by
  refine (getS_calls g a S q w hT hG h).mono ?_
  rintro e w' ⟨hc, ⟨hp, rfl, a', hr⟩ | ⟨k, x, t, hp, rfl, hr⟩⟩
  · have e : pS q = ⟨16, 0, 0, []⟩ := by unfold pS; rw [hp]
    rw [e]
    exact ⟨hc, ⟨_, rfl, rfl⟩, .inl ⟨by decide, _, _, _, hr⟩⟩
  · cases hk : okS k x with
    | true =>
      have e : pS q = ⟨0, sgd (Bits.val x) (behind k), front k + behind k, t⟩ := by unfold pS; rw [hp]; exact if_pos hk
      rw [e]
      rw [Nat.add_assoc] at hr
      exact ⟨hc, ⟨.int .i64 (sgd (Bits.val x) (behind k)), by simp only [hk]; rfl, rfl⟩, .inr ⟨rfl, hr⟩⟩
    | false =>
      have e : pS q = ⟨10, 0, 0, []⟩ := by unfold pS; rw [hp]; exact if_neg (by simp [hk])
      rw [e]
      exact ⟨hc, ⟨.int .i64 0, by simp only [hk]; rfl, rfl⟩, .inl ⟨by decide, _, _, _, hr⟩⟩
end Go.Proofs.YtjfekjbmgckkcaaGreatDoor.ReadP

/- zero thresholds in few bits: no program in sight. -/
namespace Go.Proofs.YtjfekjbmgckkcaaGreatDoor.ThrPure
open Go.Proofs.YtjfekjbmgckkcaaGreatDoor.Bits

/-- is a threshold right? -/
def thrOk (v : Nat) : Bool := decide (v < 9218868437227405312)
/-- has it a power? -/
def pw (v : Nat) : Bool := decide (v % 4503599627370496 = 0 ∧ 780 ≤ v / 4503599627370496 ∧ v / 4503599627370496 ≤ 1033)
/-- its byte. -/
def codeT (v : Nat) : Nat := if v = 0 then 0 else if pw v then v / 4503599627370496 - 779 else 255
theorem codeT_lt (v : Nat) : codeT v ≤ 255 := by
  unfold codeT pw
  split
  · omega
  · split
    · rename_i h; simp at h; omega
    · omega
def encT (v : Nat) : List Bool := nb (codeT v) 8 ++ (if codeT v = 255 then nb v 64 else [])
theorem encT_length (v : Nat) : (encT v).length ≤ 72 := by
  unfold encT
  split <;> simp [nb_length]
/-- the threshold at the beginning of some bits: an error's number, the threshold, how many bits it has. -/
def parseT (q : List Bool) : Nat × Nat × Nat :=
  if q.length < 8 then (16, 0, 0)
  else if val (q.take 8) = 255 then
    if q.length < 72 then (16, 0, 0)
    else if thrOk (val ((q.drop 8).take 64)) = false then (11, 0, 0)
    else if codeT (val ((q.drop 8).take 64)) ≠ 255 then (10, 0, 0)
    else (0, val ((q.drop 8).take 64), 72)
  else if val (q.take 8) = 0 then (0, 0, 8)
  else (0, (val (q.take 8) + 779) * 4503599627370496, 8)
theorem val_lt8 (q : List Bool) : val (q.take 8) < 256 := by
  have := val_lt (q.take 8)
  have h : (q.take 8).length ≤ 8 := by rw [List.length_take]; omega
  have : 2 ^ (q.take 8).length ≤ 2 ^ 8 := Nat.pow_le_pow_right (by decide) h
  omega
theorem parseT_in (q : List Bool) : (parseT q).2.1 < 18446744073709551616 := by
  unfold parseT
  have h8 := val_lt8 q
  split
  · decide
  · split
    · split
      · decide
      · split
        · decide
        · split
          · decide
          · have := val_lt ((q.drop 8).take 64)
            have h : ((q.drop 8).take 64).length ≤ 64 := by rw [List.length_take]; omega
            have : 2 ^ ((q.drop 8).take 64).length ≤ 2 ^ 64 := Nat.pow_le_pow_right (by decide) h
            simp only
            omega
    · split
      · decide
      · simp only; omega
theorem parseT_used (q : List Bool) : (parseT q).2.2 ≤ q.length := by
  unfold parseT
  split
  · exact Nat.zero_le _
  · split
    · split
      · exact Nat.zero_le _
      · split
        · exact Nat.zero_le _
        · split
          · exact Nat.zero_le _
          · simp only; omega
    · split <;> (simp only; omega)
end Go.Proofs.YtjfekjbmgckkcaaGreatDoor.ThrPure

/- threshold's walks: Power, Of, code, Put, Get. -/
namespace Go.Proofs.YtjfekjbmgckkcaaGreatDoor.ThrA
open Go.RowKit Go.Proofs.YtjfekjbmgckkcaaGreatDoorW.PrintWords
open Go.Proofs.YtjfekjbmgckkcaaGreatDoor.Bits Go.Proofs.YtjfekjbmgckkcaaGreatDoor.Base Go.Proofs.YtjfekjbmgckkcaaGreatDoor.StreamPure Go.Proofs.YtjfekjbmgckkcaaGreatDoor.StreamA Go.Proofs.YtjfekjbmgckkcaaGreatDoor.StreamBit Go.Proofs.YtjfekjbmgckkcaaGreatDoor.StreamR Go.Proofs.YtjfekjbmgckkcaaGreatDoor.ThrPure

theorem ret_int {k : IntKind} {a b : Int} (h : a = b) : Ending.returned (.int k a) = .returned (.int k b) := by rw [h]
theorem ret_tup {k : IntKind} {a b : Int} {v : Value} (h : a = b) : Ending.returned (.tuple #[.int k a, v]) = .returned (.tuple #[.int k b, v]) := by rw [h]
theorem thr_calls (v : Nat) (w : World) : Calls Tryz.prog 143 #[.int .u64 v] w fun e w' => e = .returned (.bool (thrOk v)) ∧ w = w' := by
  have HF : Hid (thrOk v = decide (v < 9218868437227405312)) := Lib.hid rfl
  by_cases h : v < 9218868437227405312
  · have d1 : decide ((v : Int) < 9218868437227405312) = true := by simp; omega
    have d1n : decide (v < 9218868437227405312) = true := by simp; omega
    go_enter Tryz.func143, Tryz.ntmps143
    go_wp2
    go_ret
    exact ⟨by rw [HF.out, decide_eq_true h]; rfl, rfl⟩
  · have d1 : decide ((v : Int) < 9218868437227405312) = false := by simp; omega
    have d1n : decide (v < 9218868437227405312) = false := by simp; omega
    go_enter Tryz.func143, Tryz.ntmps143
    go_wp2
    go_ret
    exact ⟨by rw [HF.out, decide_eq_false h]; rfl, rfl⟩
/-- what Power hands back. -/
def PowPost (v : Nat) (w : World) (e : Ending) (w' : World) : Prop :=
  w = w' ∧ ((pw v = true ∧ e = .returned (.tuple #[.int .i64 ((v / 4503599627370496 : Nat) - 1023 : Int), .bool true])) ∨ (pw v = false ∧ e = .returned (.tuple #[.int .i64 0, .bool false])))
set_option maxHeartbeats 1600000 in
theorem power_calls (v : Nat) (w : World) (hv : v < 18446744073709551616) : Calls Tryz.prog 202 #[.int .u64 v] w (PowPost v w) := by
  obtain ⟨p, hp⟩ : ∃ p, p = v / 4503599627370496 := ⟨_, rfl⟩
  have ep : ((v : Int) / 4503599627370496) = (p : Int) := by omega
  have hp2 : p < 4096 := by omega
  by_cases h0 : v % 4503599627370496 = 0
  · have e1 : ((v : Int) % 4503599627370496 != 0) = false := by simp; omega
    by_cases h1 : 780 ≤ p
    · have d1 : decide ((p : Int) - 1023 < -243) = false := by simp; omega
      by_cases h2 : p ≤ 1033
      · have d2 : decide ((p : Int) - 1023 > 10) = false := by simp; omega
        have d2' : decide (10 < (p : Int) - 1023) = false := by simp; omega
        have HF : Hid (pw v = true) := Lib.hid (by unfold pw; rw [← hp, decide_eq_true ⟨h0, h1, h2⟩])
        have HP := Lib.hid hp
        clear h0 hp
        go_enter Tryz.func202, Tryz.ntmps202
        go_wp2
        go_ret2
        exact ⟨rfl, .inl ⟨HF.out, by rw [← HP.out]; rfl⟩⟩
      · have d2 : decide ((p : Int) - 1023 > 10) = true := by simp; omega
        have d2' : decide (10 < (p : Int) - 1023) = true := by simp; omega
        have HF : Hid (pw v = false) := Lib.hid (by unfold pw; rw [← hp, decide_eq_false (by omega)])
        clear h0 hp
        go_enter Tryz.func202, Tryz.ntmps202
        go_wp2
        go_ret2
        exact ⟨rfl, .inr ⟨HF.out, rfl⟩⟩
    · have d1 : decide ((p : Int) - 1023 < -243) = true := by simp; omega
      have HF : Hid (pw v = false) := Lib.hid (by unfold pw; rw [← hp, decide_eq_false (by omega)])
      clear h0 hp
      go_enter Tryz.func202, Tryz.ntmps202
      go_wp2
      go_ret2
      exact ⟨rfl, .inr ⟨HF.out, rfl⟩⟩
  · have e1 : ((v : Int) % 4503599627370496 != 0) = true := by simp; omega
    have HF : Hid (pw v = false) := Lib.hid (by unfold pw; rw [decide_eq_false (by omega)])
    clear h0 hp
    go_enter Tryz.func202, Tryz.ntmps202
    go_wp2
    go_ret2
    exact ⟨rfl, .inr ⟨HF.out, rfl⟩⟩
set_option maxHeartbeats 800000 in
/-- Of a byte's exponent. -/
theorem of_calls (c : Nat) (w : World) (h1 : 1 ≤ c) (h2 : c ≤ 254) : Calls Tryz.prog 207 #[.int .i64 ((c : Int) - 244)] w fun e w' => e = .returned (.tuple #[.int .u64 ((c + 779) * 4503599627370496 : Nat), .bool true]) ∧ w = w' := by
  have d1 : decide ((c : Int) - 244 < -243) = false := by simp; omega
  have d2 : decide ((c : Int) - 244 > 10) = false := by simp; omega
  have d2' : decide (10 < (c : Int) - 244) = false := by simp; omega
  go_enter Tryz.func207, Tryz.ntmps207
  go_wp2
  go_ret2
  exact ⟨ret_tup (a := ((c : Int) - 244 + 1023) * 4503599627370496) (by omega), rfl⟩
set_option maxHeartbeats 800000 in
theorem code_calls (v : Nat) (w : World) (hv : v < 18446744073709551616) : Calls Tryz.prog 149 #[.int .u64 v] w fun e w' => e = .returned (.int .u64 (codeT v)) ∧ w = w' := by
  by_cases h0 : v = 0
  · subst h0
    have HF : Hid (codeT 0 = 0) := Lib.hid rfl
    go_enter Tryz.func149, Tryz.ntmps149
    go_wp2
    go_ret
    exact ⟨by rw [HF.out]; rfl, rfl⟩
  · have e0 : ((v : Int) == 0) = false := by simp; omega
    have e0n : (v == 0) = false := by simp; omega
    have HP := Lib.hid (power_calls v w hv)
    have H0 := Lib.hid h0
    clear h0
    go_enter Tryz.func149, Tryz.ntmps149
    go_wp2_with (fail)
    refine HP.out.mono ?_
    rintro e w1 ⟨rfl, ⟨hp, rfl⟩ | ⟨hp, rfl⟩⟩
    · have hpp := hp
      unfold pw at hpp
      rw [decide_eq_true_eq] at hpp
      obtain ⟨p, hpq⟩ : ∃ p, p = v / 4503599627370496 := ⟨_, rfl⟩
      have HF : Hid (codeT v = p - 779) := Lib.hid (by unfold codeT; rw [if_neg H0.out, hp, if_pos rfl, hpq])
      rw [← hpq] at hpp ⊢
      obtain ⟨-, b1, b2⟩ := hpp
      clear hp hpq HP
      go_wp2
      go_ret
      rw [HF.out]
      exact ⟨ret_int (a := 244 + ((p : Int) - 1023)) (by omega), rfl⟩
    · have HF : Hid (codeT v = 255) := Lib.hid (by unfold codeT; rw [if_neg H0.out, hp]; rfl)
      clear hp HP
      go_wp2
      go_ret
      exact ⟨by rw [HF.out]; rfl, rfl⟩
/-- what Put hands back. -/
def PutPost (S : Nat → Prop) (g : Nat) (l : List Bool) (v : Nat) (w : World) (e : Ending) (w' : World) : Prop :=
  (thrOk v = true ∧ e = .returned (.int .i64 0) ∧ Upd (fun w S => Wr w g S (l ++ encT v)) S w w') ∨ (thrOk v = false ∧ e = .returned (.int .i64 11) ∧ w = w')
set_option maxHeartbeats 1600000 in
theorem put_calls (g : Nat) (S : Nat → Prop) (l : List Bool) (v : Nat) (w : World) (h : Wr w g S l) (hm : l.length ≤ 10000000000) (hv : v < 18446744073709551616) :
    Calls Tryz.prog 74 #[.pointer (some ⟨g, 0, none⟩), .int .u64 v] w (PutPost S g l v w) := by
  have HT := Lib.hid (thr_calls v w)
  cases hk : thrOk v with
  | false =>
    rw [hk] at HT
    have HK := Lib.hid hk
    clear hk h
    go_enter Tryz.func74, Tryz.ntmps74
    go_wp2_with (go_at_call 143; refine HT.out.mono ?_; rintro e w' ⟨rfl, rfl⟩)
    go_ret
    exact .inr ⟨HK.out, rfl, rfl⟩
  | true =>
    rw [hk] at HT
    have HK := Lib.hid hk
    have HC := Lib.hid (code_calls v w hv)
    have hcl := codeT_lt v
    have HE : Hid (encT v = nb (codeT v) 8 ++ (if codeT v = 255 then nb v 64 else [])) := Lib.hid rfl
    obtain ⟨c, hc⟩ : ∃ c, c = codeT v := ⟨_, rfl⟩
    rw [← hc] at HC hcl HE
    have HP := Lib.hid (StreamBit.put_calls g S l c 8 w h (by omega) (by omega) (by omega))
    clear hk h hc
    go_enter Tryz.func74, Tryz.ntmps74
    go_wp2_with (first
      | (go_at_call 143; refine HT.out.mono ?_; rintro e w' ⟨rfl, rfl⟩)
      | (go_at_call 149; refine HC.out.mono ?_; rintro e w' ⟨rfl, rfl⟩))
    refine HP.out.mono ?_
    rintro e w1 ⟨rfl, hu⟩
    by_cases h5 : c = 255
    · subst h5
      rw [if_pos rfl] at HE
      obtain ⟨S1, hw1, hs1, hc1⟩ := hu
      have HQ := Lib.hid (StreamBit.put_calls g S1 (l ++ nb 255 8) v 64 w1 hw1 (by rw [List.length_append, nb_length]; omega) (by omega) hv)
      have HS := Lib.hid hs1
      have HCH := Lib.hid hc1
      clear hw1 hs1 hc1 HP HT HC
      go_wp2_with (go_at_call 72; refine HQ.out.mono ?_; rintro e w2 ⟨rfl, hu2⟩; have HU := Lib.hid hu2; clear hu2)
      go_ret
      refine .inl ⟨HK.out, rfl, ?_⟩
      rw [HE.out, ← List.append_assoc]
      exact Upd.then HS.out HCH.out HU.out
    · have e5 : ((c : Int) == 255) = false := by simp; omega
      have e5n : (c == 255) = false := by simp; omega
      rw [if_neg h5, List.append_nil] at HE
      have HU := Lib.hid hu
      clear hu h5
      go_wp2
      go_ret
      refine .inl ⟨HK.out, rfl, ?_⟩
      rw [HE.out]
      exact HU.out
/-- what Get hands back. -/
def GetPost (g a : Nat) (S : Nat → Prop) (q : List Bool) (w : World) (e : Ending) (w' : World) : Prop :=
  Ch S w w' ∧ (((parseT q).1 ≠ 0 ∧ e = .returned (.tuple #[.int .u64 0, .int .i64 (parseT q).1]) ∧ ∃ a' q' sh, Rr w' g S a' q' sh) ∨
    ((parseT q).1 = 0 ∧ e = .returned (.tuple #[.int .u64 (parseT q).2.1, .int .i64 0]) ∧ Rr w' g S (a + (parseT q).2.2) (q.drop (parseT q).2.2) false))
set_option maxHeartbeats 3200000 in
/-- far, behind a byte 255. -/
theorem far_calls (g a : Nat) (S : Nat → Prop) (q : List Bool) (w : World) (h : Rr w g S (a + 8) (q.drop 8) false) (h8 : 8 ≤ q.length) (h5 : val (q.take 8) = 255) :
    Calls Tryz.prog 206 #[.pointer (some ⟨g, 0, none⟩)] w (GetPost g a S q w) := by
  by_cases hs : q.length < 72
  · have HP : Hid (parseT q = (16, 0, 0)) := Lib.hid (by unfold parseT; rw [if_neg (by omega), if_pos h5, if_pos hs])
    have HG := Lib.hid (get_short g (a + 8) 64 S (q.drop 8) false w h (by omega) (by omega) (by rw [List.length_drop]; omega))
    clear h h5
    go_enter Tryz.func206, Tryz.ntmps206
    go_wp2_with (fail)
    refine HG.out.mono ?_
    rintro e w1 ⟨rfl, hr, hc⟩
    have HR := Lib.hid hr
    have HC := Lib.hid hc
    have HS := Lib.hid (short_calls g (a + 8) S [] true w1 hr)
    clear hr hc HG
    go_wp2_with (go_at_call 157; refine HS.out.mono ?_; rintro e w' ⟨rfl, rfl⟩)
    go_ret2
    exact ⟨HC.out, .inl ⟨by rw [HP.out]; decide, by rw [HP.out]; rfl, _, _, _, HR.out⟩⟩
  · have HG := Lib.hid (get_calls g (a + 8) 64 S (q.drop 8) false w h (by omega) (by omega) (by rw [List.length_drop]; omega))
    obtain ⟨v, hv⟩ : ∃ v, v = val ((q.drop 8).take 64) := ⟨_, rfl⟩
    have hvl : v < 18446744073709551616 := by
      have := val_lt ((q.drop 8).take 64)
      have h' : ((q.drop 8).take 64).length ≤ 64 := by rw [List.length_take]; omega
      have : 2 ^ ((q.drop 8).take 64).length ≤ 2 ^ 64 := Nat.pow_le_pow_right (by decide) h'
      rw [hv]; omega
    rw [← hv] at HG
    have HP : Hid (parseT q = if thrOk v = false then (11, 0, 0) else if codeT v ≠ 255 then (10, 0, 0) else (0, v, 72)) := Lib.hid (by unfold parseT; rw [if_neg (by omega), if_pos h5, if_neg hs, ← hv])
    have HT := Lib.hid (fun W => thr_calls v W)
    have HCD := Lib.hid (fun W => code_calls v W hvl)
    clear h h5 hv
    cases hk : thrOk v with
    | false =>
      rw [hk] at HT
      rw [hk, if_pos rfl] at HP
      clear hk
      go_enter Tryz.func206, Tryz.ntmps206
      go_wp2_with (fail)
      refine HG.out.mono ?_
      rintro e w1 ⟨rfl, hr, hc⟩
      have HR := Lib.hid hr
      have HC := Lib.hid hc
      have HS := Lib.hid (short_calls g (a + 8 + 64) S _ false w1 hr)
      clear hr hc HG
      go_wp2_with (first
        | (go_at_call 157; refine HS.out.mono ?_; rintro e w' ⟨rfl, rfl⟩)
        | (go_at_call 143; refine (HT.out _).mono ?_; rintro e w' ⟨rfl, rfl⟩))
      go_ret2
      exact ⟨HC.out, .inl ⟨by rw [HP.out]; decide, by rw [HP.out]; rfl, _, _, _, HR.out⟩⟩
    | true =>
      rw [hk] at HT
      rw [hk, if_neg (by decide)] at HP
      clear hk
      by_cases hcd : codeT v = 255
      · rw [hcd] at HCD
        rw [if_neg (by omega)] at HP
        clear hcd
        go_enter Tryz.func206, Tryz.ntmps206
        go_wp2_with (fail)
        refine HG.out.mono ?_
        rintro e w1 ⟨rfl, hr, hc⟩
        have HR := Lib.hid hr
        have HC := Lib.hid hc
        have HS := Lib.hid (short_calls g (a + 8 + 64) S _ false w1 hr)
        clear hr hc HG
        go_wp2_with (first
          | (go_at_call 157; refine HS.out.mono ?_; rintro e w' ⟨rfl, rfl⟩)
          | (go_at_call 143; refine (HT.out _).mono ?_; rintro e w' ⟨rfl, rfl⟩)
          | (go_at_call 149; refine (HCD.out _).mono ?_; rintro e w' ⟨rfl, rfl⟩))
        go_ret2
        refine ⟨HC.out, .inr ⟨by rw [HP.out], by rw [HP.out]; rfl, ?_⟩⟩
        rw [HP.out]
        have := HR.out
        rwa [List.drop_drop] at this
      · have HN : Hid ((parseT q).1 = 10) := Lib.hid (by rw [HP.out, if_pos hcd])
        obtain ⟨c, hc9⟩ : ∃ c, c = codeT v := ⟨_, rfl⟩
        rw [← hc9] at HCD hcd
        have e5 : ((c : Int) != 255) = true := by simp; omega
        have e5n : (c != 255) = true := by simp; omega
        clear hcd hc9
        go_enter Tryz.func206, Tryz.ntmps206
        go_wp2_with (fail)
        refine HG.out.mono ?_
        rintro e w1 ⟨rfl, hr, hc⟩
        have HR := Lib.hid hr
        have HC := Lib.hid hc
        have HS := Lib.hid (short_calls g (a + 8 + 64) S _ false w1 hr)
        clear hr hc HG
        go_wp2_with (first
          | (go_at_call 157; refine HS.out.mono ?_; rintro e w' ⟨rfl, rfl⟩)
          | (go_at_call 143; refine (HT.out _).mono ?_; rintro e w' ⟨rfl, rfl⟩)
          | (go_at_call 149; refine (HCD.out _).mono ?_; rintro e w' ⟨rfl, rfl⟩))
        go_ret2
        exact ⟨HC.out, .inl ⟨by rw [HN.out]; decide, by rw [HN.out]; rfl, _, _, _, HR.out⟩⟩
set_option maxHeartbeats 3200000 in
theorem get_calls' (g a : Nat) (S : Nat → Prop) (q : List Bool) (w : World) (h : Rr w g S a q false) :
    Calls Tryz.prog 159 #[.pointer (some ⟨g, 0, none⟩)] w (GetPost g a S q w) := by
  by_cases hs : q.length < 8
  · have HP : Hid (parseT q = (16, 0, 0)) := Lib.hid (by unfold parseT; rw [if_pos hs])
    have HG := Lib.hid (get_short g a 8 S q false w h (by omega) (by omega) hs)
    clear h
    go_enter Tryz.func159, Tryz.ntmps159
    go_wp2_with (fail)
    refine HG.out.mono ?_
    rintro e w1 ⟨rfl, hr, hc⟩
    have HR := Lib.hid hr
    have HC := Lib.hid hc
    have HS := Lib.hid (short_calls g a S [] true w1 hr)
    clear hr hc HG
    go_wp2_with (go_at_call 157; refine HS.out.mono ?_; rintro e w' ⟨rfl, rfl⟩)
    go_ret2
    exact ⟨HC.out, .inl ⟨by rw [HP.out]; decide, by rw [HP.out]; rfl, _, _, _, HR.out⟩⟩
  · have HG := Lib.hid (StreamR.get_calls g a 8 S q false w h (by omega) (by omega) (by omega))
    have hv8 := val_lt8 q
    obtain ⟨c, hc⟩ : ∃ c, c = val (q.take 8) := ⟨_, rfl⟩
    by_cases h5 : val (q.take 8) = 255
    · rw [h5] at HG
      have H5 := Lib.hid h5
      clear h hc h5
      go_enter Tryz.func159, Tryz.ntmps159
      go_wp2_with (fail)
      refine HG.out.mono ?_
      rintro e w1 ⟨rfl, hr, hc⟩
      have HC := Lib.hid hc
      have HS := Lib.hid (short_calls g (a + 8) S _ false w1 hr)
      have HF := Lib.hid (far_calls g a S q w1 hr (by omega) H5.out)
      clear hr hc HG
      go_wp2_with (go_at_call 157; refine HS.out.mono ?_; rintro e w' ⟨rfl, rfl⟩)
      refine HF.out.mono ?_
      rintro e w2 ⟨hc2, ⟨h1, rfl, hrr⟩ | ⟨h1, rfl, hrr⟩⟩
      · have HC2 := Lib.hid (HC.out.trans hc2 fun _ _ h => h)
        have H1 := Lib.hid h1
        have HRR := Lib.hid hrr
        clear hc2 h1 hrr HF
        go_wp2
        go_ret2
        exact ⟨HC2.out, .inl ⟨H1.out, rfl, HRR.out⟩⟩
      · have HC2 := Lib.hid (HC.out.trans hc2 fun _ _ h => h)
        have H1 := Lib.hid h1
        have HRR := Lib.hid hrr
        clear hc2 h1 hrr HF
        go_wp2
        go_ret2
        exact ⟨HC2.out, .inr ⟨H1.out, rfl, HRR.out⟩⟩
    · rw [← hc] at HG hv8 h5
      have e5 : ((c : Int) == 255) = false := by simp; omega
      have e5n : (c == 255) = false := by simp; omega
      by_cases h0 : c = 0
      · subst h0
        have HP : Hid (parseT q = (0, 0, 8)) := Lib.hid (by unfold parseT; rw [if_neg (by omega), ← hc, if_neg (by decide), if_pos rfl])
        clear h h5 hc
        go_enter Tryz.func159, Tryz.ntmps159
        go_wp2_with (fail)
        refine HG.out.mono ?_
        rintro e w1 ⟨rfl, hr, hc⟩
        have HR := Lib.hid hr
        have HC := Lib.hid hc
        have HS := Lib.hid (short_calls g (a + 8) S _ false w1 hr)
        clear hr hc HG
        go_wp2_with (go_at_call 157; refine HS.out.mono ?_; rintro e w' ⟨rfl, rfl⟩)
        go_ret2
        exact ⟨HC.out, .inr ⟨by rw [HP.out], by rw [HP.out]; rfl, by rw [HP.out]; exact HR.out⟩⟩
      · have e0 : ((c : Int) == 0) = false := by simp; omega
        have e0n : (c == 0) = false := by simp; omega
        have HP : Hid (parseT q = (0, (c + 779) * 4503599627370496, 8)) := Lib.hid (by unfold parseT; rw [if_neg (by omega), ← hc, if_neg h5, if_neg h0])
        have HO := Lib.hid (fun W => of_calls c W (by omega) (by omega))
        clear h h5 hc h0
        go_enter Tryz.func159, Tryz.ntmps159
        go_wp2_with (fail)
        refine HG.out.mono ?_
        rintro e w1 ⟨rfl, hr, hc⟩
        have HR := Lib.hid hr
        have HC := Lib.hid hc
        have HS := Lib.hid (short_calls g (a + 8) S _ false w1 hr)
        clear hr hc HG
        go_wp2_with (first
          | (go_at_call 157; refine HS.out.mono ?_; rintro e w' ⟨rfl, rfl⟩)
          | (go_at_call 207; refine (HO.out _).mono ?_; rintro e w' ⟨rfl, rfl⟩))
        go_ret2
        exact ⟨HC.out, .inr ⟨by rw [HP.out], by rw [HP.out]; rfl, by rw [HP.out]; exact HR.out⟩⟩
end Go.Proofs.YtjfekjbmgckkcaaGreatDoor.ThrA

/- span's walks: what is right, what is canonical, how many places. -/
namespace Go.Proofs.YtjfekjbmgckkcaaGreatDoor.SpanA
open Go.RowKit Go.Proofs.YtjfekjbmgckkcaaGreatDoorW.PrintWords
open Go.Proofs.YtjfekjbmgckkcaaGreatDoor.Base Go.Proofs.YtjfekjbmgckkcaaGreatDoor.SpanPure Go.Proofs.YtjfekjbmgckkcaaGreatDoor.SpanBase

set_option maxHeartbeats 400000 in
theorem in_calls (p : Int) (w : World) :
    Calls Tryz.prog 183 #[.int .i64 p] w fun e w' => e = .returned (.bool (decide (-1048576 ≤ p ∧ p ≤ 1048576))) ∧ w = w' := by
  by_cases h1 : -1048576 ≤ p
  · have d1 : decide (p ≥ -1048576) = true := by simp; omega
    have d1' : decide (-1048576 ≤ p) = true := by simp; omega
    have hd : decide (-1048576 ≤ p ∧ p ≤ 1048576) = decide (p ≤ 1048576) := by simp [h1]
    rw [hd]
    go_enter Tryz.func183, Tryz.ntmps183
    go_wp2
    go_ret
    exact ⟨rfl, rfl⟩
  · have d1 : decide (p ≥ -1048576) = false := by simp; omega
    have d1' : decide (-1048576 ≤ p) = false := by simp; omega
    have hd : decide (-1048576 ≤ p ∧ p ≤ 1048576) = false := by simp [h1]
    rw [hd]
    go_enter Tryz.func183, Tryz.ntmps183
    go_wp2
    go_ret
    exact ⟨rfl, rfl⟩

theorem right_step (k : Nat) (a m o q : Int) (t : List Sp) :
    rightF (decide (k = 0)) a m ((o, q) :: t) = (decide (0 ≤ q ∧ q ≤ 4096 ∧ o ≤ 2097152 ∧ (0 < k → 0 ≤ o) ∧ -1048576 ≤ a + o ∧ a + o ≤ 1048576 ∧ a + o + q ≤ 1048577 ∧ m + q ≤ 4096) && rightF (decide (k + 1 = 0)) (a + o + q) (m + q) t) := by
  rw [rightF, okS1, decide_eq_false (Nat.succ_ne_zero k)]
  congr 1
  rw [Bool.eq_iff_iff, decide_eq_true_iff, decide_eq_true_iff]
  have : (decide (k = 0) = false) ↔ 0 < k := by simp; omega
  simp only [this]

set_option maxHeartbeats 3200000 in
theorem right_calls (A : Option Addr) (c : Nat) (l : List Sp) (w : World) (hr : RdSp w A l) (hm : l.length ≤ 1000000000) :
    Calls Tryz.prog 208 #[.slice A l.length c] w fun e w' => e = .returned (.bool (rightF true 0 0 l)) ∧ Below w.heap.size w w' := by
  have HR := Lib.hid hr
  clear hr
  go_enter Tryz.func208, Tryz.ntmps208
  go_wp2
  go_loopw [3, 4, 9] (fun t n i wr => ∃ (k : Nat) (a m : Int), k ≤ l.length ∧ i = .int .i64 k ∧ t = .int .i64 a ∧ n = .int .i64 m ∧ -1048576 ≤ a ∧ a ≤ 1048577 ∧ 0 ≤ m ∧ m ≤ 4096 ∧ Hid (k = 0 → a = 0) ∧ Hid (rightF true 0 0 l = rightF (decide (k = 0)) a m (l.drop k)) ∧ Below w.heap.size w wr) (fun _ _ i _ => l.length - (intOf i).toNat)
  case atStart => exact ⟨0, 0, 0, by omega, rfl, rfl, rfl, by omega, by omega, by omega, by omega, Lib.hid (fun _ => rfl), Lib.hid rfl, Below.refl _ _⟩
  case round =>
    obtain ⟨k, a, m, hk, rfl, rfl, rfl, ha1, ha2, hm1, hm2, hz, hd, hb⟩ := hrel
    have HB := Lib.hid hb
    have hsz := hb.size
    by_cases hlt : k < l.length
    · obtain ⟨ad, hA, c0, c1⟩ := (HR.out.below hb).at_ k hlt
      subst hA
      have HD := Lib.hid (show l.drop k = l[k] :: l.drop (k + 1) from List.drop_eq_getElem_cons hlt)
      obtain ⟨s, hs⟩ : ∃ s, s = l[k] := ⟨_, rfl⟩
      rw [← hs] at c0 c1 HD
      obtain ⟨o, q⟩ := s
      simp only at c0 c1
      have HX := Lib.hid (right_step k a m o q (l.drop (k + 1)))
      have HZ : Hid (0 < k ∨ a = 0) := Lib.hid (by rcases Nat.eq_zero_or_pos k with h | h; exact .inr (hz.out h); exact .inl h)
      clear hs hb
      by_cases hlow : o < -1048576
      · have d5 : decide (-1048576 ≤ o ∧ o ≤ 1048576) = false := by simp; omega
        have HF : Hid (rightF true 0 0 l = false) := Lib.hid (by
          have := HZ.out
          rw [hd.out, HD.out, HX.out, decide_eq_false (by omega)]; rfl)
        go_wp2_with (go_at_call 183; refine (in_calls _ _).mono ?_; rintro e w' ⟨rfl, rfl⟩)
        all_goals
          go_ret
          exact ⟨by rw [HF.out]; rfl, HB.out.alloc hsz _⟩
      · have hlow' : -1048576 ≤ o := by omega
        clear hlow
        go_wp2_with (go_at_call 183; refine (in_calls _ _).mono ?_; rintro e w' ⟨rfl, rfl⟩)
        all_goals
          have hz0 := HZ.out
          first
          | (have HF : rightF true 0 0 l = false := by
               rw [hd.out, HD.out, HX.out, decide_eq_false (by omega)]; rfl
             go_ret
             exact ⟨by rw [HF]; rfl, HB.out.alloc hsz _⟩)
          | (exfalso
             rename_i h
             simp only [Bool.not_eq_true', decide_eq_false_iff_not] at h
             omega)
          | (have HF : rightF true 0 0 l = rightF (decide (k + 1 = 0)) (a + o + q) (m + q) (l.drop (k + 1)) := by
               rw [hd.out, HD.out, HX.out, decide_eq_true (by omega)]; rfl
             go_roundw
             case rel => exact ⟨k + 1, a + o + q, m + q, by omega, by go_num, rfl, rfl, by omega, by omega, by omega, by omega, Lib.hid (fun h => by omega), Lib.hid HF, HB.out.alloc hsz _⟩
             case measure => simp [intOf]; omega)
    · obtain rfl : k = l.length := by omega
      have HF : Hid (rightF true 0 0 l = true) := Lib.hid (by rw [hd.out, List.drop_length]; rfl)
      go_wp2
      go_ret
      exact ⟨by rw [HF.out]; rfl, HB.out⟩

set_option maxHeartbeats 400000 in
theorem check_calls (A : Option Addr) (c : Nat) (l : List Sp) (w : World) (hr : RdSp w A l) (hm : l.length ≤ 1000000000) :
    Calls Tryz.prog 166 #[.slice A l.length c] w fun e w' => e = .returned (.int .i64 (chk l)) ∧ Below w.heap.size w w' := by
  have HC := Lib.hid (right_calls A c l w hr hm)
  rcases chk_cases l with ⟨h, h1⟩ | ⟨h, h1, h2⟩ | ⟨h, h1, h2⟩
  · rw [h]
    have d1 : decide ((l.length : Int) > 1024) = true := by simp; omega
    have d1' : decide (1024 < (l.length : Int)) = true := by simp; omega
    have d1n : decide (1024 < l.length) = true := by simp; omega
    clear h hr
    go_enter Tryz.func166, Tryz.ntmps166
    go_wp2
    go_ret
    exact ⟨rfl, Below.refl _ _⟩
  all_goals
    rw [h]
    rw [h2] at HC
    have d1 : decide ((l.length : Int) > 1024) = false := by simp; omega
    have d1' : decide (1024 < (l.length : Int)) = false := by simp; omega
    have d1n : decide (1024 < l.length) = false := by simp; omega
    clear h h2 hr
    go_enter Tryz.func166, Tryz.ntmps166
    go_wp2_with (go_at_call 208; refine HC.out.mono ?_; rintro e w1 ⟨rfl, hb⟩)
    go_ret
    exact ⟨rfl, hb⟩
end Go.Proofs.YtjfekjbmgckkcaaGreatDoor.SpanA

/- span's walks: what is canonical, the canonical list of places. -/
namespace Go.Proofs.YtjfekjbmgckkcaaGreatDoor.SpanB
open Go.RowKit Go.Proofs.YtjfekjbmgckkcaaGreatDoorW.PrintWords
open Go.Proofs.YtjfekjbmgckkcaaGreatDoor.Base Go.Proofs.YtjfekjbmgckkcaaGreatDoor.SpanPure Go.Proofs.YtjfekjbmgckkcaaGreatDoor.SpanBase Go.Proofs.YtjfekjbmgckkcaaGreatDoor.SpanA

theorem infoSp : (Tryz.prog.info? 119).map (fun i => (i.zero, i.size, i.bytes)) = some (some (.agg #[.int .i64 0, .int .i64 0]), 2, 16) := by kernel_rfl

set_option maxHeartbeats 1600000 in
theorem canonical_calls (A : Option Addr) (c : Nat) (l : List Sp) (w : World) (hr : RdSp w A l) (hm : l.length ≤ 1000000000) :
    Calls Tryz.prog 199 #[.slice A l.length c] w fun e w' => e = .returned (.bool (canonical l)) ∧ Below w.heap.size w w' := by
  have HR := Lib.hid hr
  have HC := Lib.hid (fun W (h : Below w.heap.size w W) => check_calls A c l W (hr.below h) hm)
  clear hr
  go_enter Tryz.func199, Tryz.ntmps199
  go_wp2
  go_loopw [7] (fun i wr => ∃ (k : Nat), k ≤ l.length ∧ i = .int .i64 k ∧ Hid (canonF true l = canonF (decide (k = 0)) (l.drop k)) ∧ Below w.heap.size w wr) (fun i _ => l.length - (intOf i).toNat)
  case atStart => exact ⟨0, by omega, rfl, Lib.hid rfl, Below.refl _ _⟩
  case round =>
    obtain ⟨k, hk, rfl, hd, hb⟩ := hrel
    have HB := Lib.hid hb
    have hsz := hb.size
    by_cases hlt : k < l.length
    · obtain ⟨ad, hA, c0, c1⟩ := (HR.out.below hb).at_ k hlt
      subst hA
      have HD := Lib.hid (show l.drop k = l[k] :: l.drop (k + 1) from List.drop_eq_getElem_cons hlt)
      obtain ⟨s, hs⟩ : ∃ s, s = l[k] := ⟨_, rfl⟩
      rw [← hs] at c0 c1 HD
      obtain ⟨o, q⟩ := s
      simp only at c0 c1
      have HX : Hid (canonF (decide (k = 0)) ((o, q) :: l.drop (k + 1)) = (decide (q ≠ 0 ∧ (0 < k → o ≠ 0)) && canonF (decide (k + 1 = 0)) (l.drop (k + 1)))) := Lib.hid (by
        rw [canonF, decide_eq_false (Nat.succ_ne_zero k)]
        congr 1
        rw [Bool.eq_iff_iff, Bool.and_eq_true, Bool.or_eq_true, decide_eq_true_iff, decide_eq_true_iff, decide_eq_true_iff, decide_eq_true_iff]
        simp only
        omega)
      clear hs hb
      by_cases h1 : q = 0
      · have e1 : (q == 0) = true := by simpa using h1
        have HF : Hid (canonical l = false) := Lib.hid (by rw [canonical, hd.out, HD.out, HX.out, decide_eq_false (by omega)]; rfl)
        clear h1
        go_wp2
        go_ret
        exact ⟨by rw [HF.out]; rfl, HB.out.alloc hsz _⟩
      · have e1 : (q == 0) = false := by simpa using h1
        by_cases h2 : 0 < k
        · have e2 : decide ((k : Int) > 0) = true := by simp; omega
          have e2' : decide (0 < (k : Int)) = true := by simp; omega
          have e2n : decide (0 < k) = true := by simp; omega
          by_cases h3 : o = 0
          · have e3 : (o == 0) = true := by simpa using h3
            have HF : Hid (canonical l = false) := Lib.hid (by rw [canonical, hd.out, HD.out, HX.out, decide_eq_false (by omega)]; rfl)
            clear h1 h3
            go_wp2
            go_ret
            exact ⟨by rw [HF.out]; rfl, HB.out.alloc hsz _⟩
          · have e3 : (o == 0) = false := by simpa using h3
            have HF : Hid (canonF true l = canonF (decide (k + 1 = 0)) (l.drop (k + 1))) := Lib.hid (by rw [hd.out, HD.out, HX.out, decide_eq_true (by omega)]; rfl)
            clear h1 h3
            go_wp2
            go_roundw
            case rel => exact ⟨k + 1, by omega, by go_num, HF, HB.out.alloc hsz _⟩
            case measure => simp [intOf]; omega
        · have e2 : decide ((k : Int) > 0) = false := by simp; omega
          have e2' : decide (0 < (k : Int)) = false := by simp; omega
          have e2n : decide (0 < k) = false := by simp; omega
          have HF : Hid (canonF true l = canonF (decide (k + 1 = 0)) (l.drop (k + 1))) := Lib.hid (by rw [hd.out, HD.out, HX.out, decide_eq_true (by omega)]; rfl)
          clear h1
          go_wp2
          go_roundw
          case rel => exact ⟨k + 1, by omega, by go_num, HF, HB.out.alloc hsz _⟩
          case measure => simp [intOf]; omega
    · obtain rfl : k = l.length := by omega
      have HF : Hid (canonical l = decide (chk l = 0)) := Lib.hid (by rw [canonical, hd.out, List.drop_length]; rfl)
      have HCC := Lib.hid (HC.out wr HB.out)
      by_cases hc : chk l = 0
      · have e1 : ((chk l : Int) == 0) = true := by simp [hc]
        rw [decide_eq_true hc] at HF
        clear hc
        go_wp2_with (go_at_call 166; refine HCC.out.mono ?_; rintro e w1 ⟨rfl, hb1⟩)
        go_ret
        exact ⟨by rw [HF.out]; rfl, below_then HB.out hsz hb1⟩
      · have e1 : ((chk l : Int) == 0) = false := by simp; exact hc
        rw [decide_eq_false hc] at HF
        clear hc
        go_wp2_with (go_at_call 166; refine HCC.out.mono ?_; rintro e w1 ⟨rfl, hb1⟩)
        go_ret
        exact ⟨by rw [HF.out]; rfl, below_then HB.out hsz hb1⟩

/-- what From hands back. -/
def FromPost (ps : List Int) (w : World) (e : Ending) (w' : World) : Prop :=
  Below w.heap.size w w' ∧ ((rising ps = false ∧ e = .returned (.tuple #[.slice none 0 0, .int .i64 11])) ∨
    (rising ps = true ∧ (4096 < ps.length ∨ 1024 < (fromL ps).length) ∧ e = .returned (.tuple #[.slice none 0 0, .int .i64 12])) ∨
    (rising ps = true ∧ ps.length ≤ 4096 ∧ (fromL ps).length ≤ 1024 ∧ ∃ v, e = .returned (.tuple #[v, .int .i64 0]) ∧ OwSp 119 w' w.heap.size v (fromL ps)))
theorem buildF_cons_new (L : List Sp) (f p : Int) (ps : List Int) (h : L = [] ∨ f < p) : buildF L f (p :: ps) = buildF (L ++ [(p - f, 1)]) (p + 1) ps := by
  rw [buildF, addP, if_pos h]
theorem buildF_cons_old (i : List Sp) (s : Sp) (p : Int) (ps : List Int) : buildF (i ++ [s]) p (p :: ps) = buildF (i ++ [(s.1, s.2 + 1)]) (p + 1) ps := by
  rw [buildF, addP, if_neg (by simp)]
  simp
theorem rising_step (k : Nat) (f p : Int) (t : List Int) : risingF (decide (k = 0)) f (p :: t) = (decide (-1048576 ≤ p ∧ p ≤ 1048576 ∧ (0 < k → f ≤ p)) && risingF (decide (k + 1 = 0)) (p + 1) t) := by
  rw [risingF, decide_eq_false (Nat.succ_ne_zero k)]
  congr 1
  rw [Bool.eq_iff_iff, decide_eq_true_iff, decide_eq_true_iff, decide_eq_true_iff]
  omega

set_option maxHeartbeats 3200000 in
theorem from_calls (A : Option Addr) (c : Nat) (ps : List Int) (w : World) (hr : RdI .i64 w A ps) (hm : ps.length ≤ 100000000000) :
    Calls Tryz.prog 119 #[.slice A ps.length c] w (FromPost ps w) := by
  have HR := Lib.hid hr
  clear hr
  go_enter Tryz.func119, Tryz.ntmps119
  go_wp2
  go_loopw [4, 5, 10] (fun v t i wr => ∃ (k : Nat) (f : Int) (L : List Sp), k ≤ ps.length ∧ i = .int .i64 k ∧ t = .int .i64 f ∧ -1048576 ≤ f ∧ f ≤ 1048577 ∧ L.length ≤ k ∧ (0 < k → 0 < L.length) ∧ Hid (k = 0 → f = 0) ∧ (∀ s ∈ L, 0 ≤ s.2 ∧ s.2 ≤ k) ∧ OwSp 119 wr w.heap.size v L ∧
    Hid (rising ps = risingF (decide (k = 0)) f (ps.drop k)) ∧ Hid (fromL ps = buildF L f (ps.drop k)) ∧ Below w.heap.size w wr) (fun _ _ i _ => ps.length - (intOf i).toNat)
  case atStart => exact ⟨0, 0, [], by omega, rfl, rfl, by omega, by omega, by simp, by simp, Lib.hid (fun _ => rfl), by simp, OwSp.nil _ _ _, Lib.hid rfl, Lib.hid rfl, Below.refl _ _⟩
  case round =>
    obtain ⟨k, f, L, hk, rfl, rfl, hf1, hf2, hL, hL0, hz, hq, ho, hris, hfr, hb⟩ := hrel
    have HB := Lib.hid hb
    have HO := Lib.hid ho
    have HQ := Lib.hid hq
    have hsz := hb.size
    by_cases hlt : k < ps.length
    · obtain ⟨ad, hA, c0⟩ := (HR.out.below hb).at_ k hlt
      subst hA
      have HD := Lib.hid (show ps.drop k = ps[k] :: ps.drop (k + 1) from List.drop_eq_getElem_cons hlt)
      obtain ⟨p, hp⟩ : ∃ p, p = ps[k] := ⟨_, rfl⟩
      rw [← hp] at c0 HD
      have HX := Lib.hid (rising_step k f p (ps.drop (k + 1)))
      have hz0 : 0 < k ∨ f = 0 := by
        rcases Nat.eq_zero_or_pos k with h | h
        · exact .inr (hz.out h)
        · exact .inl h
      have HEND : Hid (∀ (w2 : World) (v2 : Value) (L2 : List Sp), rising ps = risingF (decide (k + 1 = 0)) (p + 1) (ps.drop (k + 1)) → fromL ps = buildF L2 (p + 1) (ps.drop (k + 1)) → OwSp 119 w2 w.heap.size v2 L2 → L2.length ≤ k + 1 → 0 < L2.length →
          (∀ s ∈ L2, 0 ≤ s.2 ∧ s.2 ≤ ((k + 1 : Nat) : Int)) → Below w.heap.size w w2 → -1048576 ≤ p → p ≤ 1048576 →
          ∃ (k' : Nat) (f' : Int) (L : List Sp), k' ≤ ps.length ∧ Value.int .i64 ((k : Int) + 1) = .int .i64 k' ∧ Value.int .i64 (p + 1) = .int .i64 f' ∧ -1048576 ≤ f' ∧ f' ≤ 1048577 ∧ L.length ≤ k' ∧ (0 < k' → 0 < L.length) ∧ Hid (k' = 0 → f' = 0) ∧ (∀ s ∈ L, 0 ≤ s.2 ∧ s.2 ≤ k') ∧ OwSp 119 w2 w.heap.size v2 L ∧
            Hid (rising ps = risingF (decide (k' = 0)) f' (ps.drop k')) ∧ Hid (fromL ps = buildF L f' (ps.drop k')) ∧ Below w.heap.size w w2) := Lib.hid (by
        intro w2 v2 L2 h1 h2 h3 h4 h5 h6 h7 h8 h9
        exact ⟨k + 1, p + 1, L2, by omega, by go_num, rfl, by omega, by omega, h4, fun _ => h5, Lib.hid (fun h => by omega), h6, h3, Lib.hid h1, Lib.hid h2, h7⟩)
      have hLk : L.length ≤ 100000000000 := by omega
      clear hp hb ho hq
      by_cases hin : -1048576 ≤ p ∧ p ≤ 1048576
      · have din : decide (-1048576 ≤ p ∧ p ≤ 1048576) = true := by simpa using hin
        obtain ⟨hin1, hin2⟩ := hin
        by_cases hbad : 0 < k ∧ p < f
        · have e1 : decide ((k : Int) > 0) = true := by simp; omega
          have e1' : decide (0 < (k : Int)) = true := by simp; omega
          have e1n : decide (0 < k) = true := by simp; omega
          have e2 : decide (p < f) = true := by simp; omega
          have HF : Hid (rising ps = false) := Lib.hid (by rw [hris.out, HD.out, HX.out, decide_eq_false (by omega)]; rfl)
          clear hbad
          go_wp2_with (go_at_call 183; refine (in_calls _ _).mono ?_; rintro e w' ⟨rfl, rfl⟩)
          go_ret2
          exact ⟨HB.out, .inl ⟨HF.out, rfl⟩⟩
        · have HR1 : Hid (rising ps = risingF (decide (k + 1 = 0)) (p + 1) (ps.drop (k + 1))) := Lib.hid (by rw [hris.out, HD.out, HX.out, decide_eq_true (by omega)]; rfl)
          by_cases hnew : k = 0 ∨ f < p
          · have HL : Hid (L = [] ∨ f < p) := Lib.hid (by
              rcases hnew with h | h
              · exact .inl (List.length_eq_zero_iff.1 (by omega))
              · exact .inr h)
            have HF1 : Hid (fromL ps = buildF (L ++ [(p - f, 1)]) (p + 1) (ps.drop (k + 1))) := Lib.hid (by rw [hfr.out, HD.out, buildF_cons_new _ _ _ _ HL.out])
            have HQ1 : Hid (∀ s ∈ L ++ [(p - f, (1 : Int))], 0 ≤ s.2 ∧ s.2 ≤ ((k + 1 : Nat) : Int)) := Lib.hid (by
              intro s hs
              rcases List.mem_append.1 hs with hs | hs
              · have := HQ.out s hs; omega
              · rw [List.mem_singleton.1 hs]; simp only; omega)
            by_cases hk0 : k = 0
            · have e0 : decide ((k : Int) > 0) = false := by simp; omega
              have e0' : decide (0 < (k : Int)) = false := by simp; omega
              have e0n : decide (0 < k) = false := by simp; omega
              have e1 : ((k : Int) == 0) = true := by simp; omega
              clear hbad hnew hL0 hz hz0 hk0
              go_wp2_with (first
                | (go_at_call 183; refine (in_calls _ _).mono ?_; rintro e w' ⟨rfl, rfl⟩)
                | (at_builtin; refine append_span (w0 := w) w.heap.size rfl (.tmp 34) (.tmp 39) 23 119 16 rfl Tryz.underlying23 infoSp _ L (p - f) 0 rfl rfl HO.out HB.out hsz (by omega) (by omega) ?_; intro g cap w1 ho1 hb1 hg1 hat1; have hl1 := ho1.last_; have hge := ho1.base_ g rfl; have HO1 := Lib.hid ho1; have HB1 := Lib.hid hb1; obtain ⟨hc1, hf1⟩ := hl1; simp only at hc1; clear ho1 hb1))
              go_roundw
              case rel => exact HEND.out _ _ _ HR1.out HF1.out HO1.out.setLast (by simp; omega) (by simp) HQ1.out (HB1.out.setCell hge _) hin1 hin2
              case measure => simp [intOf]; omega
            · have e0 : decide ((k : Int) > 0) = true := by simp; omega
              have e0' : decide (0 < (k : Int)) = true := by simp; omega
              have e0n : decide (0 < k) = true := by simp; omega
              have e1 : ((k : Int) == 0) = false := by simp; omega
              have e2 : decide (p < f) = false := by simp; omega
              have e3 : decide (p > f) = true := by simp; omega
              have e3' : decide (f < p) = true := by simp; omega
              clear hbad hnew hL0 hz hz0 hk0
              go_wp2_with (first
                | (go_at_call 183; refine (in_calls _ _).mono ?_; rintro e w' ⟨rfl, rfl⟩)
                | (at_builtin; refine append_span (w0 := w) w.heap.size rfl (.tmp 34) (.tmp 39) 23 119 16 rfl Tryz.underlying23 infoSp _ L (p - f) 0 rfl rfl HO.out HB.out hsz (by omega) (by omega) ?_; intro g cap w1 ho1 hb1 hg1 hat1; have hl1 := ho1.last_; have hge := ho1.base_ g rfl; have HO1 := Lib.hid ho1; have HB1 := Lib.hid hb1; obtain ⟨hc1, hf1⟩ := hl1; simp only at hc1; clear ho1 hb1))
              go_roundw
              case rel => exact HEND.out _ _ _ HR1.out HF1.out HO1.out.setLast (by simp; omega) (by simp) HQ1.out (HB1.out.setCell hge _) hin1 hin2
              case measure => simp [intOf]; omega
          · have hk0 : 0 < k := by omega
            obtain rfl : f = p := by omega
            obtain ⟨i, s, rfl, -, -⟩ := dropLast_snoc (l := L) (fun h => by rw [h] at hL0; have := hL0 hk0; simp at this)
            have HF1 : Hid (fromL ps = buildF (i ++ [(s.1, s.2 + 1)]) (f + 1) (ps.drop (k + 1))) := Lib.hid (by rw [hfr.out, HD.out, buildF_cons_old])
            have hs0 := HQ.out s (by simp)
            have HQ1 : Hid (∀ u ∈ i ++ [(s.1, s.2 + 1)], 0 ≤ u.2 ∧ u.2 ≤ ((k + 1 : Nat) : Int)) := Lib.hid (by
              intro u hu
              rcases List.mem_append.1 hu with hu | hu
              · have := HQ.out u (List.mem_append_left _ hu); omega
              · rw [List.mem_singleton.1 hu]; simp only; omega)
            obtain ⟨g, cap, rfl, hge, hgl, hcap⟩ := HO.out.form (by simp)
            rw [List.length_append, List.length_singleton] at HO hL hLk hcap ⊢
            have HO1 := Lib.hid HO.out
            obtain ⟨hc1, hf1⟩ := HO1.out.last_
            obtain ⟨x, q⟩ := s
            simp only at hc1 hs0
            obtain ⟨h01, h02⟩ := hs0
            have hi64 : q ≤ 100000000000 := by omega
            have e0 : decide ((k : Int) > 0) = true := by simp; omega
            have e0' : decide (0 < (k : Int)) = true := by simp; omega
            have e0n : decide (0 < k) = true := by simp; omega
            have e1 : ((k : Int) == 0) = false := by simp; omega
            clear hbad hnew hL0 hz hz0 h02 HO HQ
            go_wp2_with (go_at_call 183; refine (in_calls _ _).mono ?_; rintro e w' ⟨rfl, rfl⟩)
            go_roundw
            case rel => exact HEND.out _ _ _ HR1.out HF1.out HO1.out.setLast (by simp; omega) (by simp) HQ1.out (HB.out.setCell hge _) hin1 hin2
            case measure => simp [intOf]; omega
      · have din : decide (-1048576 ≤ p ∧ p ≤ 1048576) = false := by simpa using hin
        have HF : Hid (rising ps = false) := Lib.hid (by rw [hris.out, HD.out, HX.out, decide_eq_false (by omega)]; rfl)
        clear hin
        go_wp2_with (go_at_call 183; refine (in_calls _ _).mono ?_; rintro e w' ⟨rfl, rfl⟩)
        go_ret2
        exact ⟨HB.out, .inl ⟨HF.out, rfl⟩⟩
    · obtain rfl : k = ps.length := by omega
      have HR1 : Hid (rising ps = true) := Lib.hid (by rw [hris.out, List.drop_length]; rfl)
      have HF1 : Hid (fromL ps = L) := Lib.hid (by rw [hfr.out, List.drop_length]; rfl)
      obtain ⟨A1, c1, rfl, hc1, -, -⟩ := ho.reads
      clear hq ho hb hL0 hz hris hfr
      by_cases h1 : 4096 < ps.length
      · have d1 : decide ((ps.length : Int) > 4096) = true := by simp; omega
        have d1' : decide (4096 < (ps.length : Int)) = true := by simp; omega
        have d1n : decide (4096 < ps.length) = true := by simp; omega
        have HP : Hid (4096 < ps.length ∨ 1024 < (fromL ps).length) := Lib.hid (.inl h1)
        clear h1
        go_wp2
        go_ret2
        exact ⟨HB.out, .inr (.inl ⟨HR1.out, HP.out, rfl⟩)⟩
      · have d1 : decide ((ps.length : Int) > 4096) = false := by simp; omega
        have d1' : decide (4096 < (ps.length : Int)) = false := by simp; omega
        have d1n : decide (4096 < ps.length) = false := by simp; omega
        by_cases h2 : 1024 < L.length
        · have d2 : decide ((L.length : Int) > 1024) = true := by simp; omega
          have d2' : decide (1024 < (L.length : Int)) = true := by simp; omega
          have d2n : decide (1024 < L.length) = true := by simp; omega
          have HP : Hid (4096 < ps.length ∨ 1024 < (fromL ps).length) := Lib.hid (.inr (by rw [HF1.out]; exact h2))
          clear h1 h2
          go_wp2
          go_ret2
          exact ⟨HB.out, .inr (.inl ⟨HR1.out, HP.out, rfl⟩)⟩
        · have d2 : decide ((L.length : Int) > 1024) = false := by simp; omega
          have d2' : decide (1024 < (L.length : Int)) = false := by simp; omega
          have d2n : decide (1024 < L.length) = false := by simp; omega
          have HP1 : Hid (ps.length ≤ 4096) := Lib.hid (by omega)
          have HP2 : Hid ((fromL ps).length ≤ 1024) := Lib.hid (by rw [HF1.out]; omega)
          clear h1 h2
          go_wp2
          go_ret2
          exact ⟨HB.out, .inr (.inr ⟨HR1.out, HP1.out, HP2.out, _, rfl, by rw [HF1.out]; exact HO.out⟩)⟩
end Go.Proofs.YtjfekjbmgckkcaaGreatDoor.SpanB

/- errors.As at a target of type **fail.Error: nil; an *fail.Error; an errors.errorString. After the kit's worked text Toyas. -/
namespace Go.Proofs.YtjfekjbmgckkcaaGreatDoor.FailAs
open Go.RowKit Go.Extern.Stop Go.Stop Go.Extern Go.Proofs.YtjfekjbmgckkcaaGreatDoorW.PrintWords
open Go.Proofs.YtjfekjbmgckkcaaGreatDoor.Base

abbrev tE : Nat := 182
/-- errors.As(nil, target). -/
theorem as_nil (t : Value) (w : World) :
    Calls Tryz.prog 123 #[.nilIface, t] w fun e w' => e = .returned (.bool false) ∧ w = w' := by
  go_enter Tryz.func123, Tryz.ntmps123
  go_wp2
  go_ret
  exact ⟨rfl, rfl⟩

/-! ### closed facts -/
theorem valueOfPP (t : Addr) (w : World) : (ReflectliteValue.unpack (.iface 184 (.pointer (some t)))).run Tryz.prog w
    = .ok (.agg #[.pointer (some ⟨3, 184, none⟩), .pointer (some ⟨w.heap.size, 0, none⟩), .int .u64 150]) (w.alloc (.cells #[.pointer (some t)] 184)) := by kernel_rfl
theorem typePP (a : Addr) (w : World) : (ReflectliteValue.methodAny (ReflectliteValue.valueError "reflectlite.Value.Type" 0) (fun t _ _ _ => ReflectliteType.toType t) #[.agg #[.pointer (some ⟨3, 184, none⟩), .pointer (some a), .int .u64 150]]).run Tryz.prog w
    = .ok (.iface 290 (.agg #[.pointer (some ⟨3, 184, none⟩)])) w := by kernel_rfl
theorem methodKind (h : Value) (w : World) : (Go.method 473 290 (.agg #[h]) "Kind").run Tryz.prog w = .ok (266, h) w := by kernel_rfl
theorem kindPP (w : World) : ((ReflectliteType.abiMethod fun t => (fun a : Nat => Value.int IntKind.u8 (a : Int)) <$> Rtype.kind t) #[.pointer (some ⟨3, 184, none⟩)]).run Tryz.prog w = .ok (.int .u8 22) w := by kernel_rfl
theorem kindP (w : World) : ((ReflectliteType.abiMethod fun t => (fun a : Nat => Value.int IntKind.u8 (a : Int)) <$> Rtype.kind t) #[.pointer (some ⟨3, 182, none⟩)]).run Tryz.prog w = .ok (.int .u8 22) w := by kernel_rfl
theorem rlm (z : Sem Value) (f : TypeId → Addr → Nat → Nat → Sem Value) (v : Value) :
    ReflectliteValue.method z f #[v] = (do match ← ReflectliteValue.parts v with | none => z | some (t, a, fl) => f t a fl (fl % 32)) := rfl
theorem partsPP (a : Addr) (w : World) : (ReflectliteValue.parts (.agg #[.pointer (some ⟨3, 184, none⟩), .pointer (some a), .int .u64 150])).run Tryz.prog w = .ok (some (184, a, 150)) w := by kernel_rfl
theorem isNilPP (a p : Addr) (W : World) (ha : W.cell? a = some (.pointer (some p))) :
    (ReflectliteValue.method (ReflectliteValue.valueError "reflectlite.Value.IsNil" 0) ReflectliteValue.isNil #[.agg #[.pointer (some ⟨3, 184, none⟩), .pointer (some a), .int .u64 150]]).run Tryz.prog W = .ok (.bool false) W := by
  rw [rlm]
  simp only [Sem.run_bind, partsPP, Result.andThen]
  simp [ReflectliteValue.isNil, loadVar, isAgg, underlying, Tryz.underlying184, ha, Result.andThen]
theorem methodElem (h : Value) (w : World) : (Go.method 473 290 (.agg #[h]) "Elem").run Tryz.prog w = .ok (281, .agg #[h]) w := by kernel_rfl
theorem methodImplements (h : Value) (w : World) : (Go.method 473 290 (.agg #[h]) "Implements").run Tryz.prog w = .ok (282, .agg #[h]) w := by kernel_rfl
theorem methodAssignableTo (h : Value) (w : World) : (Go.method 473 290 (.agg #[h]) "AssignableTo").run Tryz.prog w = .ok (279, .agg #[h]) w := by kernel_rfl
theorem elemPP (w : World) : (ReflectliteType.method ReflectliteType.elem #[.agg #[.pointer (some ⟨3, 184, none⟩)]]).run Tryz.prog w = .ok (.iface 290 (.agg #[.pointer (some ⟨3, 182, none⟩)])) w := by kernel_rfl
theorem implementsP (w : World) : (ReflectliteType.relation "Implements" ReflectliteType.implements_ #[.agg #[.pointer (some ⟨3, 182, none⟩)], .iface 290 (.agg #[.pointer (some ⟨3, 34, none⟩)])]).run Tryz.prog w = .ok (.bool true) w := by kernel_rfl
theorem typeOfP (v : Value) (w : World) : (ReflectliteType.typeOf #[.iface 182 v]).run Tryz.prog w = .ok (.iface 290 (.agg #[.pointer (some ⟨3, 182, none⟩)])) w := by kernel_rfl
theorem assignableP (w : World) : (ReflectliteType.relation "AssignableTo" ReflectliteType.assignableTo #[.agg #[.pointer (some ⟨3, 182, none⟩)], .iface 290 (.agg #[.pointer (some ⟨3, 182, none⟩)])]).run Tryz.prog w = .ok (.bool true) w := by kernel_rfl
theorem valueOfP (e : Addr) (w : World) : (ReflectliteValue.unpack (.iface 182 (.pointer (some e)))).run Tryz.prog w
    = .ok (.agg #[.pointer (some ⟨3, 182, none⟩), .pointer (some ⟨w.heap.size, 0, none⟩), .int .u64 150]) (w.alloc (.cells #[.pointer (some e)] 182)) := by kernel_rfl
theorem elemOfPP (w : World) : (Rtype.elem? 184).run Tryz.prog w = .ok (some 182) w := by kernel_rfl
theorem mkP (p : Addr) (w : World) : (ReflectliteValue.mk 182 p ReflectliteValue.flagAddr).run Tryz.prog w = .ok (.agg #[.pointer (some ⟨3, 182, none⟩), .pointer (some p), .int .u64 406]) w := by kernel_rfl
theorem elemVPP (a p : Addr) (W : World) (ha : W.cell? a = some (.pointer (some p))) :
    (ReflectliteValue.method (ReflectliteValue.valueError "reflectlite.Value.Elem" 0) ReflectliteValue.elem #[.agg #[.pointer (some ⟨3, 184, none⟩), .pointer (some a), .int .u64 150]]).run Tryz.prog W
      = .ok (.agg #[.pointer (some ⟨3, 182, none⟩), .pointer (some p), .int .u64 406]) W := by
  rw [rlm]
  simp only [Sem.run_bind, partsPP, Result.andThen]
  simp [ReflectliteValue.elem, loadVar, isAgg, underlying, Tryz.underlying184, ha, Result.andThen, elemOfPP, mkP]
theorem rls (v x : Value) : ReflectliteValue.set #[v, x] = (do
    let (some (dst, a, fl), some (src, b, _)) := (← ReflectliteValue.parts v, ← ReflectliteValue.parts x)
      | unsupported (.noEntry "extern/(internal/reflectlite.Value).Set.zeroValue")
    if fl / ReflectliteValue.flagAddr % 2 == 0 then unsupported (.noEntry "extern/(internal/reflectlite.Value).Set.unaddressable")
    let val ← loadVar src b
    if ← Rtype.directlyAssignable dst src then storeVar dst a val
    else if ← Rtype.implements dst src then
      if (← Rtype.kind src) == 20 then
        match val with
        | .nilIface => unsupported (.noEntry "extern/reflectlite: a nil value of one interface type handed on as a value of another")
        | _ => storeVar dst a val
      else storeVar dst a (.iface src val)
    else panicString ("reflectlite.Set: value of type " ++ (← Rtype.spelt src) ++ " is not assignable to type " ++ (← Rtype.spelt dst))
    pure (.tuple #[])) := rfl
theorem partsPa (a : Addr) (w : World) : (ReflectliteValue.parts (.agg #[.pointer (some ⟨3, 182, none⟩), .pointer (some a), .int .u64 406])).run Tryz.prog w = .ok (some (182, a, 406)) w := by kernel_rfl
theorem partsP (a : Addr) (w : World) : (ReflectliteValue.parts (.agg #[.pointer (some ⟨3, 182, none⟩), .pointer (some a), .int .u64 150])).run Tryz.prog w = .ok (some (182, a, 150)) w := by kernel_rfl
theorem directP (w : World) : (Rtype.directlyAssignable 182 182).run Tryz.prog w = .ok true w := by kernel_rfl
theorem setP (ta b e : Addr) (old : Value) (W : World) (hb : W.cell? b = some (.pointer (some e))) (ht : W.cell? ta = some old) (hf : W.frozen? ta = false) :
    (ReflectliteValue.set #[.agg #[.pointer (some ⟨3, 182, none⟩), .pointer (some ta), .int .u64 406], .agg #[.pointer (some ⟨3, 182, none⟩), .pointer (some b), .int .u64 150]]).run Tryz.prog W
      = .ok (.tuple #[]) (W.setCell ta (.pointer (some e))) := by
  rw [rls]
  simp only [Sem.run_bind, partsPa, partsP, Result.andThen]
  simp [ReflectliteValue.flagAddr, loadVar, isAgg, underlying, Tryz.underlying182, hb, Result.andThen, directP, storeVar, Value.cells, storeCells, Addr.add]
  rw [run_store Tryz.prog W ta _ _ (by rfl)]
  simp [ht, hf]
/-- what errors.As leaves: nothing of old has turned, but the target. -/
structure Hit (t : Addr) (x : Value) (w w' : World) : Prop where
  ch : Ch (fun k => k = t.block) w w'
  at_ : w'.cell? t = some x
  fr : w'.frozen? t = false
/-- the type's handle that errors.As asks for. -/
def GlE (w : World) : Prop := w.cell? ⟨0, 0, none⟩ = some (.iface 290 (.agg #[.pointer (some ⟨3, 34, none⟩)]))
theorem cell_lt {w : World} {t : Addr} {u : Value} (h : w.cell? t = some u) : t.block < w.heap.size := World.block_lt_of_cell? w t h

set_option maxHeartbeats 4000000 in
theorem as_hit (e t : Addr) (old : Value) (w : World) (hg : GlE w) (ht0 : w.cell? t = some old) (hf0 : w.frozen? t = false) :
    Calls Tryz.prog 123 #[.iface 182 (.pointer (some e)), .iface 184 (.pointer (some t))] w fun ev w' => ev = .returned (.bool true) ∧ Hit t (.pointer (some e)) w w' := by
  unfold GlE at hg
  have h6 := @run_callFunc_extern Tryz.prog 184 _ (fun args => ReflectliteValue.unpack (args.getD 0 (.tuple #[]))) Tryz.func184 (by kernel_rfl) (by kernel_rfl) (by kernel_rfl) (by kernel_rfl)
  have h7 := @run_callFunc_extern Tryz.prog 185 _ (ReflectliteValue.methodAny (ReflectliteValue.valueError "reflectlite.Value.Type" 0) (fun t _ _ _ => ReflectliteType.toType t)) Tryz.func185 (by kernel_rfl) (by kernel_rfl) (by kernel_rfl) (by kernel_rfl)
  have h8 := @run_callFunc_extern Tryz.prog 186 _ (ReflectliteValue.method (ReflectliteValue.valueError "reflectlite.Value.IsNil" 0) ReflectliteValue.isNil) Tryz.func186 (by kernel_rfl) (by kernel_rfl) (by kernel_rfl) (by kernel_rfl)
  have h27 := @run_callFunc_extern Tryz.prog 266 _ (ReflectliteType.abiMethod fun t => do pure (.int .u8 (← Rtype.kind t))) Tryz.func266 (by kernel_rfl) (by kernel_rfl) (by kernel_rfl) (by kernel_rfl)
  have h37 := @run_callFunc_extern Tryz.prog 281 _ (ReflectliteType.method ReflectliteType.elem) Tryz.func281 (by kernel_rfl) (by kernel_rfl) (by kernel_rfl) (by kernel_rfl)
  have h38 := @run_callFunc_extern Tryz.prog 282 _ (ReflectliteType.relation "Implements" ReflectliteType.implements_) Tryz.func282 (by kernel_rfl) (by kernel_rfl) (by kernel_rfl) (by kernel_rfl)
  have h10 := @run_callFunc_extern Tryz.prog 220 _ ReflectliteType.typeOf Tryz.func220 (by kernel_rfl) (by kernel_rfl) (by kernel_rfl) (by kernel_rfl)
  have h35 := @run_callFunc_extern Tryz.prog 279 _ (ReflectliteType.relation "AssignableTo" ReflectliteType.assignableTo) Tryz.func279 (by kernel_rfl) (by kernel_rfl) (by kernel_rfl) (by kernel_rfl)
  have h11 := @run_callFunc_extern Tryz.prog 221 _ (ReflectliteValue.method (ReflectliteValue.valueError "reflectlite.Value.Elem" 0) ReflectliteValue.elem) Tryz.func221 (by kernel_rfl) (by kernel_rfl) (by kernel_rfl) (by kernel_rfl)
  have h12 := @run_callFunc_extern Tryz.prog 222 _ ReflectliteValue.set Tryz.func222 (by kernel_rfl) (by kernel_rfl) (by kernel_rfl) (by kernel_rfl)
  have tO := typeOfP
  have mA := methodAssignableTo
  have a25 := assignableP
  have v25 := valueOfP
  have f6 := valueOfPP
  have f7 := typePP
  have mK := methodKind
  have mE := methodElem
  have mI := methodImplements
  have k27 := kindPP
  have k25 := kindP
  have e27 := elemPP
  have i25 := implementsP
  have n8 := isNilPP ⟨w.heap.size, 0, none⟩ t ((w.alloc (.cells #[.pointer (some t)] 184)).alloc (.cells #[.pointer (some ⟨3, 184, none⟩), .pointer (some ⟨w.heap.size, 0, none⟩), .int .u64 150] 250)) (by simp)
  have hlt : 0 < w.heap.size := cell_lt hg
  have hg2 : ((w.alloc (.cells #[.pointer (some t)] 184)).alloc (.cells #[.pointer (some ⟨3, 184, none⟩), .pointer (some ⟨w.heap.size, 0, none⟩), .int .u64 150] 250)).cell? ⟨0, 0, none⟩ = some (.iface 290 (.agg #[.pointer (some ⟨3, 34, none⟩)])) := by
    rw [World.cell?_alloc_lt _ _ ⟨0, 0, none⟩ (by simp <;> omega), World.cell?_alloc_lt _ _ ⟨0, 0, none⟩ hlt]; exact hg
  have htl : t.block < w.heap.size := cell_lt ht0
  have el := elemVPP ⟨w.heap.size, 0, none⟩ t (((w.alloc (.cells #[.pointer (some t)] 184)).alloc (.cells #[.pointer (some ⟨3, 184, none⟩), .pointer (some ⟨w.heap.size, 0, none⟩), .int .u64 150] 250)).alloc (.cells #[.pointer (some ⟨3, 184, none⟩), .pointer (some ⟨w.heap.size, 0, none⟩), .int .u64 150] 250)) (by rw [World.cell?_alloc_lt _ _ ⟨w.heap.size, 0, none⟩ (by simp; omega)]; simp)
  have ht4 : ((((w.alloc (.cells #[.pointer (some t)] 184)).alloc (.cells #[.pointer (some ⟨3, 184, none⟩), .pointer (some ⟨w.heap.size, 0, none⟩), .int .u64 150] 250)).alloc (.cells #[.pointer (some ⟨3, 184, none⟩), .pointer (some ⟨w.heap.size, 0, none⟩), .int .u64 150] 250)).alloc (.cells #[.pointer (some e)] 182)).cell? t = some old := by
    rw [World.cell?_alloc_lt _ _ t (by simp; omega), World.cell?_alloc_lt _ _ t (by simp; omega), World.cell?_alloc_lt _ _ t (by simp; omega), World.cell?_alloc_lt _ _ t htl]; exact ht0
  have hf4 : ((((w.alloc (.cells #[.pointer (some t)] 184)).alloc (.cells #[.pointer (some ⟨3, 184, none⟩), .pointer (some ⟨w.heap.size, 0, none⟩), .int .u64 150] 250)).alloc (.cells #[.pointer (some ⟨3, 184, none⟩), .pointer (some ⟨w.heap.size, 0, none⟩), .int .u64 150] 250)).alloc (.cells #[.pointer (some e)] 182)).frozen? t = false := by
    rw [World.frozen?_alloc_old _ _ t (by simp; omega), World.frozen?_alloc_old _ _ t (by simp; omega), World.frozen?_alloc_old _ _ t (by simp; omega), World.frozen?_alloc_old _ _ t (Nat.ne_of_lt htl)]; exact hf0
  have st := setP t ⟨w.heap.size + 1 + 1 + 1, 0, none⟩ e old ((((w.alloc (.cells #[.pointer (some t)] 184)).alloc (.cells #[.pointer (some ⟨3, 184, none⟩), .pointer (some ⟨w.heap.size, 0, none⟩), .int .u64 150] 250)).alloc (.cells #[.pointer (some ⟨3, 184, none⟩), .pointer (some ⟨w.heap.size, 0, none⟩), .int .u64 150] 250)).alloc (.cells #[.pointer (some e)] 182))
    (by rw [World.cell?_alloc_at _ _ _ _ (by simp)]; rfl) ht4 hf4
  have hfin : Hit t (.pointer (some e)) w (((((w.alloc (.cells #[.pointer (some t)] 184)).alloc (.cells #[.pointer (some ⟨3, 184, none⟩), .pointer (some ⟨w.heap.size, 0, none⟩), .int .u64 150] 250)).alloc (.cells #[.pointer (some ⟨3, 184, none⟩), .pointer (some ⟨w.heap.size, 0, none⟩), .int .u64 150] 250)).alloc (.cells #[.pointer (some e)] 182)).setCell t (.pointer (some e))) := by
    refine ⟨(((((Ch.refl (fun k => k = t.block) w).alloc _).alloc _).alloc _).alloc _).setCell (p := t) (.inl rfl) _, ?_, ?_⟩
    · exact World.cell?_setCell_same' _ _ _ (by rw [ht4]; rfl)
    · rw [World.frozen?_setCell]; exact hf4
  have HFIN := Lib.hid hfin
  clear hfin
  go_enter Tryz.func123, Tryz.ntmps123
  go_wp2
  refine wp_loop_rounds 1 ?_
  rw [rounds_succ]
  go_wp2
  go_ret
  exact ⟨rfl, HFIN.out⟩
end Go.Proofs.YtjfekjbmgckkcaaGreatDoor.FailAs

/- errors as fail makes them: chains in memory; New, Code, Wrap. -/
namespace Go.Proofs.YtjfekjbmgckkcaaGreatDoor.FailB
open Go.RowKit Go.Extern.Stop Go.Stop Go.Extern Go.Proofs.YtjfekjbmgckkcaaGreatDoorW.PrintWords
open Go.Proofs.YtjfekjbmgckkcaaGreatDoor.Base Go.Proofs.YtjfekjbmgckkcaaGreatDoor.FailAs

/-- an error's code, its place, the number there. -/
structure Pl where
  code : Int
  name : ByteArray
  at_ : Int
/-- a chain of *fail.Errors, the outer ones first; z is within all of them. -/
def ErrC (w : World) : Value → List Pl → Value → Prop
  | v, [], z => v = z
  | v, p :: t, z => ∃ g v', v = .iface 182 (.pointer (some ⟨g, 0, none⟩)) ∧ w.heap[g]? = some (.cells #[.int .i64 p.code, .string p.name, .int .i64 p.at_, v'] 186 (0, 0)) ∧ ErrC w v' t z
theorem ErrC.below {w w' : World} (h : Below w.heap.size w w') : ∀ {l : List Pl} {v z : Value}, ErrC w v l z → ErrC w' v l z
  | [], _, _, e => e
  | _ :: _, _, _, ⟨g, v', e1, e2, e3⟩ => ⟨g, v', e1, (h.block g (blk_lt e2)).trans e2, e3.below h⟩
theorem ErrC.append {w : World} : ∀ {l m : List Pl} {v z y : Value}, ErrC w v l z → ErrC w z m y → ErrC w v (l ++ m) y
  | [], _, _, _, _, e, h => by rw [show _ = _ from e]; exact h
  | _ :: _, _, _, _, _, ⟨g, v', e1, e2, e3⟩, h => ⟨g, v', e1, e2, e3.append h⟩
/-- where none lies. -/
def Sn0 : Type := {_a : Addr // False}
/-- what lies within all *fail.Errors: nothing, or an error of errors.New's make. -/
def EndZ (z : Value) : Prop := z = .nilIface ∨ ∃ a : Sn0, z = .iface 0 (.pointer (some a.1))
/-- an error. -/
structure Err (w : World) (v : Value) (l : List Pl) (z : Value) : Prop where
  ch : ErrC w v l z
  z : EndZ z
  gl : GlE w
theorem gle_below {w w' : World} (h : GlE w) (hb : Below w.heap.size w w') : GlE w' := (hb.cell (p := ⟨0, 0, none⟩) (cell_lt h)).trans h
theorem Err.below {w w' : World} {v z : Value} {l : List Pl} (h : Err w v l z) (hb : Below w.heap.size w w') : Err w' v l z := ⟨h.ch.below hb, h.z, gle_below h.gl hb⟩
theorem Err.nil {w : World} (h : GlE w) : Err w .nilIface [] .nilIface := ⟨rfl, .inl rfl, h⟩
/-- the code of an error. -/
def codeOf (l : List Pl) (z : Value) : Int := match l with
  | p :: _ => p.code
  | [] => match z with
    | .nilIface => 0
    | _ => 10

theorem new_zero (w : World) : Calls Tryz.prog 163 #[.int .i64 0] w fun e w' => e = .returned .nilIface ∧ w = w' := by
  go_enter Tryz.func163, Tryz.ntmps163
  go_wp2
  go_ret
  exact ⟨rfl, rfl⟩
theorem new_code (c : Int) (w : World) (hg : GlE w) (hc : c ≠ 0) : Calls Tryz.prog 163 #[.int .i64 c] w fun e w' => ∃ v, e = .returned v ∧ Err w' v [⟨c, ⟨#[]⟩, 0⟩] .nilIface ∧ Below w.heap.size w w' := by
  have e1 : (c == 0) = false := by simpa using hc
  have HG := Lib.hid hg
  have HC := Lib.hid (below_alloc (Below.refl w.heap.size w) (.cells #[.int .i64 c, .string ⟨#[]⟩, .int .i64 0, .nilIface] 186))
  clear hc hg
  go_enter Tryz.func163, Tryz.ntmps163
  go_wp2
  go_ret
  exact ⟨_, rfl, ⟨⟨w.heap.size, .nilIface, rfl, heap_alloc_new w _, rfl⟩, .inl rfl, gle_below HG.out HC.out⟩, HC.out⟩

set_option maxHeartbeats 1600000 in
theorem code_nil (w : World) : Calls Tryz.prog 50 #[.nilIface] w fun e w' => e = .returned (.int .i64 0) ∧ Below w.heap.size w w' := by
  have HB := Lib.hid (below_alloc (Below.refl w.heap.size w) (.cells #[.pointer none] 182))
  go_enter Tryz.func50, Tryz.ntmps50
  go_wp2
  go_ret
  exact ⟨rfl, HB.out⟩
set_option maxHeartbeats 1600000 in
theorem code_hit (w : World) (g : Nat) (p : Pl) (u : Value) (hg : GlE w) (hc : w.heap[g]? = some (.cells #[.int .i64 p.code, .string p.name, .int .i64 p.at_, u] 186 (0, 0))) :
    Calls Tryz.prog 50 #[.iface 182 (.pointer (some ⟨g, 0, none⟩))] w fun e w' => e = .returned (.int .i64 p.code) ∧ Below w.heap.size w w' := by
  have hb := below_alloc (Below.refl w.heap.size w) (.cells #[.pointer none] 182)
  have HA := Lib.hid (as_hit ⟨g, 0, none⟩ ⟨w.heap.size, 0, none⟩ (.pointer none) (w.alloc (.cells #[.pointer none] 182)) (gle_below hg hb) (by simp) (by simp))
  have HC := Lib.hid hc
  have HB := Lib.hid hb
  have hgl := blk_lt hc
  clear hg hc hb
  go_enter Tryz.func50, Tryz.ntmps50
  go_wp2_with (fail)
  refine HA.out.mono ?_
  rintro e w1 ⟨rfl, hh⟩
  have h1 := hh.at_
  have hblk : w1.heap[g]? = some (.cells #[.int .i64 p.code, .string p.name, .int .i64 p.at_, u] 186 (0, 0)) := hh.ch.blk ((HB.out.block g hgl).trans HC.out) (by show ¬ g = w.heap.size; omega)
  have h2 : w1.cell? ⟨g, 0, none⟩ = some (.int .i64 p.code) := by simp [World.cell?, hblk]
  have HB1 : Hid (Below w.heap.size w w1) := Lib.hid (HB.out.trans (hh.ch.below_of (by simp) (fun k hk => by rw [hk]; exact Nat.le_refl _)))
  clear hh hblk HA
  go_wp2
  go_ret
  exact ⟨rfl, HB1.out⟩
end Go.Proofs.YtjfekjbmgckkcaaGreatDoor.FailB

/- errors of errors.New's make, and chains: errors.As, errors.Is, Code, Wrap, Closed. -/
namespace Go.Proofs.YtjfekjbmgckkcaaGreatDoor.FailC
open Go.RowKit Go.Extern.Stop Go.Stop Go.Extern Go.Proofs.YtjfekjbmgckkcaaGreatDoorW.PrintWords
open Go.Proofs.YtjfekjbmgckkcaaGreatDoor.Base Go.Proofs.YtjfekjbmgckkcaaGreatDoor.FailAs Go.Proofs.YtjfekjbmgckkcaaGreatDoor.FailB
theorem as_closed (a : Sn0) (t : Addr) (old : Value) (w : World) (_ : GlE w) (_ : w.cell? t = some old) :
    Calls Tryz.prog 123 #[.iface 0 (.pointer (some a.1)), .iface 184 (.pointer (some t))] w fun ev w' => ev = .returned (.bool false) ∧ Below w.heap.size w w' := a.2.elim
theorem code_closed (w : World) (a : Sn0) (_ : GlE w) : Calls Tryz.prog 50 #[.iface 0 (.pointer (some a.1))] w fun e w' => e = .returned (.int .i64 10) ∧ Below w.heap.size w w' := a.2.elim
/-- fail.Code. -/
theorem code_calls {v z : Value} {l : List Pl} {w : World} (h : Err w v l z) : Calls Tryz.prog 50 #[v] w fun e w' => e = .returned (.int .i64 (codeOf l z)) ∧ Below w.heap.size w w' := by
  obtain ⟨hc, hz, hg⟩ := h
  cases l with
  | nil =>
    rw [show v = z from hc]
    rcases hz with rfl | ⟨a, rfl⟩
    · exact code_nil w
    · exact code_closed w a hg
  | cons p t =>
    obtain ⟨g, u, rfl, hb, -⟩ := hc
    exact code_hit w g p u hg hb

/-! ### Wrap -/
theorem wrap_nil (nm : ByteArray) (n : Int) (w : World) : Calls Tryz.prog 162 #[.nilIface, .string nm, .int .i64 n] w fun e w' => e = .returned .nilIface ∧ w = w' := by
  go_enter Tryz.func162, Tryz.ntmps162
  go_wp2
  go_ret
  exact ⟨rfl, rfl⟩
set_option maxHeartbeats 1600000 in
theorem wrap_iface (T : Nat) (x : Value) (z : Value) (l : List Pl) (nm : ByteArray) (n : Int) (w : World) (h : Err w (.iface T x) l z) : Calls Tryz.prog 162 #[.iface T x, .string nm, .int .i64 n] w fun e w' => ∃ v, e = .returned v ∧ Err w' v (⟨codeOf l z, nm, n⟩ :: l) z ∧ Below w.heap.size w w' := by
  have HC := Lib.hid (code_calls h)
  have HE := Lib.hid h
  clear h
  generalize hc : codeOf l z = c at *
  have HCC := Lib.hid hc
  clear hc
  go_enter Tryz.func162, Tryz.ntmps162
  go_wp2_with (go_at_call 50; refine HC.out.mono ?_; rintro e w1 ⟨rfl, hb1⟩; have HB1 := Lib.hid hb1; clear hb1)
  go_ret
  have hb2 := below_alloc HB1.out (.cells #[.int .i64 c, .string nm, .int .i64 n, .iface T x] 186)
  exact ⟨_, rfl, ⟨⟨w1.heap.size, _, rfl, heap_alloc_new w1 _, (HE.out.below hb2).ch⟩, HE.out.z, (HE.out.below hb2).gl⟩, hb2⟩
/-- fail.Wrap of an error that isn't nil. -/
theorem wrap_calls {v z : Value} {l : List Pl} {w : World} (nm : ByteArray) (n : Int) (h : Err w v l z) (hn : l ≠ [] ∨ z ≠ .nilIface) :
    Calls Tryz.prog 162 #[v, .string nm, .int .i64 n] w fun e w' => ∃ u, e = .returned u ∧ Err w' u (⟨codeOf l z, nm, n⟩ :: l) z ∧ Below w.heap.size w w' := by
  cases l with
  | nil =>
    have hv : v = z := h.ch
    rcases h.z with hz | ⟨a, hz⟩
    · rcases hn with hn | hn
      · exact absurd rfl hn
      · exact absurd hz hn
    · subst hz; subst hv
      exact wrap_iface _ _ _ _ nm n w h
  | cons p t =>
    obtain ⟨g, u, e, hb, hr⟩ := h.ch
    subst e
    exact wrap_iface _ _ _ _ nm n w h
/-- Wrap(New(code), place, n) as each layer has it. -/
def plc (c : Int) (nm : ByteArray) (n : Int) : List Pl := if c = 0 then [] else [⟨c, nm, n⟩, ⟨c, ⟨#[]⟩, 0⟩]

end Go.Proofs.YtjfekjbmgckkcaaGreatDoor.FailC

/- fail.Closed; the errors of a chain one by one: Depth, At. -/
namespace Go.Proofs.YtjfekjbmgckkcaaGreatDoor.FailD
open Go.RowKit Go.Extern.Stop Go.Stop Go.Extern Go.Proofs.YtjfekjbmgckkcaaGreatDoorW.PrintWords
open Go.Proofs.YtjfekjbmgckkcaaGreatDoor.Base Go.Proofs.YtjfekjbmgckkcaaGreatDoor.FailAs Go.Proofs.YtjfekjbmgckkcaaGreatDoor.FailB Go.Proofs.YtjfekjbmgckkcaaGreatDoor.FailC

/-! ### errors.Is -/
theorem isMethodComparable (v : Value) (w : World) : (Go.method 473 290 v "Comparable").run Tryz.prog w = .ok (280, v) w := by kernel_rfl
theorem hasUnwrapP (v : Value) (xT : TypeId) (w : World) : (Instr.typeAssert (.iface 182 v) xT 298 true).run Tryz.prog w = .ok (.tuple #[.iface 182 v, .bool true]) w := run_typeAssert_hasB Tryz.underlying298 (by kernel_rfl) v xT w
theorem methodUnwrap (v : Value) (w : World) : (Go.method 473 182 v "Unwrap").run Tryz.prog w = .ok (273, v) w := by kernel_rfl
theorem unwrap_calls (w : World) (g : Nat) (p : Pl) (u : Value) (hc : w.heap[g]? = some (.cells #[.int .i64 p.code, .string p.name, .int .i64 p.at_, u] 186 (0, 0))) :
    Calls Tryz.prog 273 #[.pointer (some ⟨g, 0, none⟩)] w fun e w' => e = .returned u ∧ w = w' := by
  have h2 : w.cell? ⟨g, 3, none⟩ = some u := by simp [World.cell?, hc]
  go_enter Tryz.func273, Tryz.ntmps273
  go_wp2
  go_ret
  exact ⟨rfl, rfl⟩
/-- what errors.is compares: is z the sentinel at a? -/
def isz (z : Value) : Bool := match z with
  | .nilIface => false
  | _ => true
theorem err_form {w : World} {l : List Pl} {v z : Value} (h : ErrC w v l z) (hz : EndZ z) : (v = .nilIface ∧ l = [] ∧ z = .nilIface) ∨ ∃ T x, v = .iface T x := by
  cases l with
  | nil =>
    rw [show v = z from h]
    rcases hz with rfl | ⟨a, rfl⟩
    · exact .inl ⟨rfl, rfl, rfl⟩
    · exact .inr ⟨_, _, rfl⟩
  | cons p t =>
    obtain ⟨g, u, h1, -⟩ := h
    exact .inr ⟨_, _, h1⟩
end Go.Proofs.YtjfekjbmgckkcaaGreatDoor.FailD

/- the errors of a chain one by one: Depth, At; the text's parts. -/
namespace Go.Proofs.YtjfekjbmgckkcaaGreatDoor.FailE
open Go.RowKit Go.Extern.Stop Go.Stop Go.Extern Go.Proofs.YtjfekjbmgckkcaaGreatDoorW.PrintWords
open Go.Proofs.YtjfekjbmgckkcaaGreatDoor.Base Go.Proofs.YtjfekjbmgckkcaaGreatDoor.FailAs Go.Proofs.YtjfekjbmgckkcaaGreatDoor.FailB Go.Proofs.YtjfekjbmgckkcaaGreatDoor.FailC Go.Proofs.YtjfekjbmgckkcaaGreatDoor.FailD

theorem frozen_of {w w' : World} {g : Nat} (h : w'.heap[g]? = w.heap[g]?) : w'.frozen? ⟨g, 0, none⟩ = w.frozen? ⟨g, 0, none⟩ := by
  simp only [World.frozen?, h]
theorem Ch.frozen {S : Nat → Prop} {w w' : World} {g : Nat} (h : Ch S w w') (hl : g < w.heap.size) (hg : ¬ S g) : w'.frozen? ⟨g, 0, none⟩ = w.frozen? ⟨g, 0, none⟩ := frozen_of (h.block g hl hg)
theorem one_cell {w : World} {g : Nat} {u : Value} {T : TypeId} (h : w.heap[g]? = some (.cells #[u] T (0, 0))) : w.cell? ⟨g, 0, none⟩ = some u := by simp [World.cell?, h]
theorem one_frozen {w : World} {g : Nat} {u : Value} {T : TypeId} (h : w.heap[g]? = some (.cells #[u] T (0, 0))) : w.frozen? ⟨g, 0, none⟩ = false := by simp [World.frozen?, h]
theorem err_cells {w : World} {g : Nat} {p : Pl} {u : Value} (h : w.heap[g]? = some (.cells #[.int .i64 p.code, .string p.name, .int .i64 p.at_, u] 186 (0, 0))) :
    w.cell? ⟨g, 0, none⟩ = some (.int .i64 p.code) ∧ w.cell? ⟨g, 1, none⟩ = some (.string p.name) ∧ w.cell? ⟨g, 2, none⟩ = some (.int .i64 p.at_) ∧ w.cell? ⟨g, 3, none⟩ = some u := by
  simp [World.cell?, h]
/-- the first one of a place. -/
def atF : List Pl → ByteArray → Int × Bool
  | [], _ => (0, false)
  | p :: t, nm => if p.name = nm then (p.at_, true) else atF t nm

/-! ### the closures -/
theorem dep_ask (g nb n : Nat) (w : World) (hn : w.heap[nb]? = some (.cells #[.int .i64 n] 3 (0, 0))) (hm : n ≤ 10000000) :
    Calls Tryz.prog 152 #[.pointer (some ⟨g, 0, none⟩), .pointer (some ⟨nb, 0, none⟩)] w fun e w' => e = .returned (.bool true) ∧ Ch (fun k => k = nb) w w' ∧ w'.heap[nb]? = some (.cells #[.int .i64 ((n + 1 : Nat) : Int)] 3 (0, 0)) := by
  have c1 := one_cell hn
  have f1 := one_frozen hn
  have HC := Lib.hid ((Ch.refl (fun k => k = nb) w).setCell (p := ⟨nb, 0, none⟩) (.inl rfl) (.int .i64 ((n : Int) + 1)))
  have HS := Lib.hid (one_setCell (u := .int .i64 ((n : Int) + 1)) hn)
  clear hn
  go_enter Tryz.func152, Tryz.ntmps152
  go_wp2
  go_ret
  exact ⟨rfl, HC.out, HS.out⟩

def AtPost (p : Pl) (nm : ByteArray) (a0 : Int) (ob ab : Nat) (w : World) (e : Ending) (w' : World) : Prop :=
  e = .returned (.bool (!decide (p.name = nm))) ∧ Ch (fun k => k = ob ∨ k = ab) w w' ∧
    w'.heap[ob]? = some (.cells #[.bool (decide (p.name = nm))] 4 (0, 0)) ∧ w'.heap[ab]? = some (.cells #[.int .i64 (if p.name = nm then p.at_ else a0)] 3 (0, 0))
set_option maxHeartbeats 1600000 in
theorem at_ask (g pb ob ab : Nat) (p : Pl) (u : Value) (nm : ByteArray) (b0 : Bool) (a0 : Int) (w : World) (hg : w.heap[g]? = some (.cells #[.int .i64 p.code, .string p.name, .int .i64 p.at_, u] 186 (0, 0)))
    (hp : w.heap[pb]? = some (.cells #[.string nm] 9 (0, 0))) (ho : w.heap[ob]? = some (.cells #[.bool b0] 4 (0, 0))) (ha : w.heap[ab]? = some (.cells #[.int .i64 a0] 3 (0, 0))) (h1 : ob ≠ ab) (h2 : g ≠ ob) :
    Calls Tryz.prog 146 #[.pointer (some ⟨g, 0, none⟩), .pointer (some ⟨pb, 0, none⟩), .pointer (some ⟨ob, 0, none⟩), .pointer (some ⟨ab, 0, none⟩)] w (AtPost p nm a0 ob ab w) := by
  have cp := one_cell hp
  have co := one_cell ho
  have ca := one_cell ha
  have fo := one_frozen ho
  have fa := one_frozen ha
  obtain ⟨-, c1, c2, -⟩ := err_cells hg
  have hob := blk_lt ho
  have hab := blk_lt ha
  by_cases hn : p.name = nm
  · have e1 : (p.name.toList == nm.toList) = true := by rw [beq_str]; simpa using hn
    have HF : Hid (decide (p.name = nm) = true) := Lib.hid (by simpa using hn)
    have HN := Lib.hid (if_pos hn : (if p.name = nm then p.at_ else a0) = p.at_)
    have HO := Lib.hid (one_setCell (u := .bool true) ho)
    have HA := Lib.hid (one_setCell (u := .int .i64 p.at_) ((Below.heap_setCell w ⟨ob, 0, none⟩ (.bool true) ab (fun h => h1 h.symm)).trans ha))
    have HC := Lib.hid (((Ch.refl (fun k => k = ob ∨ k = ab) w).setCell (p := ⟨ob, 0, none⟩) (.inl (.inl rfl)) (.bool true)).setCell (p := ⟨ab, 0, none⟩) (.inl (.inr rfl)) (.int .i64 p.at_))
    have HO2 := Lib.hid ((Below.heap_setCell (w.setCell ⟨ob, 0, none⟩ (.bool true)) ⟨ab, 0, none⟩ (.int .i64 p.at_) ob h1).trans HO.out)
    clear hg hp ho ha hn
    go_enter Tryz.func146, Tryz.ntmps146
    go_wp2
    go_region
    all_goals go_wp2
    all_goals (go_ret; exact ⟨by rw [HF.out]; rfl, HC.out.drew, by rw [HF.out]; exact HO2.out, by rw [HN.out]; exact HA.out⟩)
  · have e1 : (p.name.toList == nm.toList) = false := by rw [beq_str]; simpa using hn
    have HF : Hid (decide (p.name = nm) = false) := Lib.hid (by simpa using hn)
    have HN := Lib.hid (if_neg hn : (if p.name = nm then p.at_ else a0) = a0)
    have HO := Lib.hid (one_setCell (u := .bool false) ho)
    have HA := Lib.hid ((Below.heap_setCell w ⟨ob, 0, none⟩ (.bool false) ab (fun h => h1 h.symm)).trans ha)
    have HC := Lib.hid ((Ch.refl (fun k => k = ob ∨ k = ab) w).setCell (p := ⟨ob, 0, none⟩) (.inl (.inl rfl)) (.bool false))
    clear hg hp ho ha hn
    go_enter Tryz.func146, Tryz.ntmps146
    go_wp2
    go_region
    all_goals go_wp2
    all_goals (go_ret; exact ⟨by rw [HF.out]; rfl, HC.out.drew, by rw [HF.out]; exact HO.out, by rw [HN.out]; exact HA.out⟩)

set_option maxRecDepth 100000 in
set_option maxHeartbeats 3200000 in
theorem each_depth (w0 w : World) (v z : Value) (l : List Pl) (h : Err w0 v l z) (hb : Below w0.heap.size w0 w) (nb : Nat) (hnb : w0.heap.size ≤ nb) (hnw : nb < w.heap.size) (hn : w.heap[nb]? = some (.cells #[.int .i64 0] 3 (0, 0))) (hl : l.length ≤ 1000000) :
    Calls Tryz.prog 145 #[v, .func (.func 152) #[] #[.pointer (some ⟨nb, 0, none⟩)]] w fun e w' => e = .returned (.tuple #[]) ∧ Below w0.heap.size w0 w' ∧ w'.heap[nb]? = some (.cells #[.int .i64 l.length] 3 (0, 0)) := by
  have HB0 := Lib.hid (below_alloc hb (.cells #[.pointer none] 182))
  have HE := Lib.hid h
  have hsz := hb.size
  obtain ⟨tb, htb⟩ : ∃ tb, tb = w.heap.size := ⟨_, rfl⟩
  have HTB := Lib.hid htb
  have hst : l.length ≤ l.length ∧ (w.alloc (.cells #[.pointer none] 182)).heap[nb]? = some (.cells #[.int .i64 ((l.length - l.length : Nat) : Int)] 3 (0, 0)) := ⟨Nat.le_refl _, by rw [Below.heap_alloc _ _ _ hnw, hn, Nat.sub_self]; rfl⟩
  have HST := Lib.hid hst
  clear h hb hst htb hn
  go_enter Tryz.func145, Tryz.ntmps145
  go_wp2_with (fail)
  rw [← HTB.out]
  go_loopg [0] (l.length + 1) (fun k v wr => ∃ (t : List Pl) (old : Value), k = t.length + 1 ∧ Hid (ErrC w0 v t z) ∧ Below w0.heap.size w0 wr ∧ w.heap.size < wr.heap.size ∧ (wr.cell? ⟨tb, 0, none⟩ = some old ∧ wr.frozen? ⟨tb, 0, none⟩ = false) ∧ (t.length ≤ l.length ∧ wr.heap[nb]? = some (.cells #[.int .i64 ((l.length - t.length : Nat) : Int)] 3 (0, 0))))
  case atStart => exact ⟨l, .pointer none, rfl, Lib.hid HE.out.ch, HB0.out, by simp, ⟨by rw [HTB.out]; simp, by rw [HTB.out]; simp⟩, HST.out⟩
  case round =>
    obtain ⟨t, old, rfl, hc, hbb, hlt, ⟨ht0, hf0⟩, hst⟩ := hrel
    have HB := Lib.hid hbb
    have HST := Lib.hid hst
    have HG := Lib.hid (gle_below HE.out.gl hbb)
    have htb : tb < wr.heap.size := by rw [HTB.out]; exact hlt
    have htb0 : w0.heap.size ≤ tb := by rw [HTB.out]; exact hsz
    cases t with
    | nil =>
      have hv : _ = z := hc.out
      subst hv
      rcases HE.out.z with hz | ⟨a, hz⟩
      · subst hz
        clear hbb hst ht0 hf0 hc
        go_wp2_with (go_at_call 123; refine (as_nil _ _).mono ?_; rintro e w1 ⟨rfl, rfl⟩)
        go_end0
        exact ⟨rfl, HB.out, HST.out.2⟩
      · subst hz
        have HA := Lib.hid (as_closed a ⟨tb, 0, none⟩ old wr HG.out ht0)
        clear hbb hst ht0 hf0 hc
        go_wp2_with (go_at_call 123; refine HA.out.mono ?_; rintro e w1 ⟨rfl, hb1⟩; have HB1 := Lib.hid hb1; clear hb1)
        have HB := Lib.hid (below_then HB.out HB.out.size HB1.out)
        have HS2 := Lib.hid ((HB1.out.block nb (by omega)).trans HST.out.2)
        go_end0
        exact ⟨rfl, HB.out, HS2.out⟩
    | cons p t =>
      obtain ⟨g, u, hv, hg, hr⟩ := hc.out
      subst hv
      have HA := Lib.hid (as_hit ⟨g, 0, none⟩ ⟨tb, 0, none⟩ old wr HG.out ht0 hf0)
      have HR := Lib.hid hr
      have hgl := blk_lt hg
      have HGC := Lib.hid hg
      clear hbb hst ht0 hf0 hc hr hg
      go_wp2_with (fail)
      refine HA.out.mono ?_
      rintro e w1 ⟨rfl, hh⟩
      have hb1 : Below w0.heap.size w0 w1 := HB.out.trans (hh.ch.below_of (by omega) (fun k hk => by rw [hk]; exact htb0))
      have HB1 := Lib.hid hb1
      have hsz1 := hh.ch.size
      have HH := Lib.hid hh
      have ht1 := hh.at_
      have HG1 := Lib.hid ((hb1.block g hgl).trans HGC.out)
      clear hh hb1 HA
      have HD := Lib.hid (dep_ask g nb (l.length - (p :: t).length) w1 (HH.out.ch.blk HST.out.2 (by show ¬ nb = tb; rw [HTB.out]; omega)) (by omega))
      go_wp2_with (fail)
      refine HD.out.mono ?_
      rintro e w2 ⟨rfl, hc2, hn2⟩
      have htl : (p :: t).length ≤ l.length := HST.out.1
      rw [List.length_cons] at htl
      rw [show l.length - (p :: t).length + 1 = l.length - t.length from by rw [List.length_cons]; omega] at hn2
      have HB2 := Lib.hid (HB1.out.trans (hc2.below_of (by omega) (fun k hk => by rw [hk]; exact hnb)))
      have hsz2 := hc2.size
      have hne : tb ≠ nb := by rw [HTB.out]; omega
      have ht2 := hc2.cell ht1 (show ¬ tb = nb from hne)
      have hf2 : w2.frozen? ⟨tb, 0, none⟩ = false := by rw [Ch.frozen hc2 (by omega) hne]; exact HH.out.fr
      have hu := (err_cells (hc2.blk HG1.out (show ¬ g = nb from by omega))).2.2.2
      have HN2 := Lib.hid hn2
      have HF2 := Lib.hid hf2
      have HT2 := Lib.hid ht2
      clear hc2 hn2 HD ht1 hf2
      go_wp2
      go_roundg (t.length + 1)
      case measure => simp
      case rel => exact ⟨t, _, rfl, HR, HB2.out, by omega, ⟨HT2.out, HF2.out⟩, by omega, HN2.out⟩

/-- fail.Depth. -/
theorem depth_calls {v z : Value} {l : List Pl} {w : World} (h : Err w v l z) (hl : l.length ≤ 1000000) :
    Calls Tryz.prog 79 #[v] w fun e w' => e = .returned (.int .i64 l.length) ∧ Below w.heap.size w w' := by
  have HE := Lib.hid (each_depth w (w.alloc (.cells #[.int .i64 0] 3)) v z l h (below_alloc (Below.refl _ _) _) w.heap.size (Nat.le_refl _) (by simp) (heap_alloc_new w _) hl)
  clear h
  go_enter Tryz.func79, Tryz.ntmps79
  go_wp2_with (fail)
  refine HE.out.mono ?_
  rintro e w1 ⟨rfl, hb1, hn1⟩
  have HB := Lib.hid hb1
  have hc := one_cell hn1
  clear hb1 hn1 HE
  go_wp2
  go_ret
  exact ⟨rfl, HB.out⟩

set_option maxRecDepth 100000 in
set_option maxHeartbeats 3200000 in
theorem each_at (w0 w : World) (v z : Value) (l : List Pl) (h : Err w0 v l z) (hb : Below w0.heap.size w0 w) (nm : ByteArray) (pb ob ab : Nat) (hpb : w0.heap.size ≤ pb) (hob : w0.heap.size ≤ ob) (hab : w0.heap.size ≤ ab) (hpw : pb < w.heap.size) (how : ob < w.heap.size) (haw : ab < w.heap.size) (n1 : ob ≠ ab) (n2 : pb ≠ ob) (n3 : pb ≠ ab) (hp : w.heap[pb]? = some (.cells #[.string nm] 9 (0, 0))) (ho : w.heap[ob]? = some (.cells #[.bool false] 4 (0, 0))) (ha : w.heap[ab]? = some (.cells #[.int .i64 0] 3 (0, 0))) :
    Calls Tryz.prog 145 #[v, .func (.func 146) #[] #[.pointer (some ⟨pb, 0, none⟩), .pointer (some ⟨ob, 0, none⟩), .pointer (some ⟨ab, 0, none⟩)]] w fun e w' => e = .returned (.tuple #[]) ∧ Below w0.heap.size w0 w' ∧ w'.heap[ob]? = some (.cells #[.bool (atF l nm).2] 4 (0, 0)) ∧ w'.heap[ab]? = some (.cells #[.int .i64 (atF l nm).1] 3 (0, 0)) := by
  have HB0 := Lib.hid (below_alloc hb (.cells #[.pointer none] 182))
  have HE := Lib.hid h
  have hsz := hb.size
  obtain ⟨tb, htb⟩ : ∃ tb, tb = w.heap.size := ⟨_, rfl⟩
  have HTB := Lib.hid htb
  have hst : (w.alloc (.cells #[.pointer none] 182)).heap[pb]? = some (.cells #[.string nm] 9 (0, 0)) ∧ (w.alloc (.cells #[.pointer none] 182)).heap[ob]? = some (.cells #[.bool false] 4 (0, 0)) ∧ (w.alloc (.cells #[.pointer none] 182)).heap[ab]? = some (.cells #[.int .i64 0] 3 (0, 0)) := ⟨by rw [Below.heap_alloc _ _ _ hpw]; exact hp, by rw [Below.heap_alloc _ _ _ how]; exact ho, by rw [Below.heap_alloc _ _ _ haw]; exact ha⟩
  have HST := Lib.hid hst
  clear h hb hst htb hp ho ha
  go_enter Tryz.func145, Tryz.ntmps145
  go_wp2_with (fail)
  rw [← HTB.out]
  go_loopg [0] (l.length + 1) (fun k v wr => ∃ (t : List Pl) (old : Value), k = t.length + 1 ∧ Hid (ErrC w0 v t z) ∧ Below w0.heap.size w0 wr ∧ w.heap.size < wr.heap.size ∧ (wr.cell? ⟨tb, 0, none⟩ = some old ∧ wr.frozen? ⟨tb, 0, none⟩ = false) ∧ (Hid (atF l nm = atF t nm) ∧ wr.heap[pb]? = some (.cells #[.string nm] 9 (0, 0)) ∧ wr.heap[ob]? = some (.cells #[.bool false] 4 (0, 0)) ∧ wr.heap[ab]? = some (.cells #[.int .i64 0] 3 (0, 0))))
  case atStart => exact ⟨l, .pointer none, rfl, Lib.hid HE.out.ch, HB0.out, by simp, ⟨by rw [HTB.out]; simp, by rw [HTB.out]; simp⟩, ⟨Lib.hid rfl, HST.out⟩⟩
  case round =>
    obtain ⟨t, old, rfl, hc, hbb, hlt, ⟨ht0, hf0⟩, hst⟩ := hrel
    have HB := Lib.hid hbb
    have HST := Lib.hid hst
    have HG := Lib.hid (gle_below HE.out.gl hbb)
    have htb : tb < wr.heap.size := by rw [HTB.out]; exact hlt
    have htb0 : w0.heap.size ≤ tb := by rw [HTB.out]; exact hsz
    cases t with
    | nil =>
      have hv : _ = z := hc.out
      subst hv
      rcases HE.out.z with hz | ⟨a, hz⟩
      · subst hz
        clear hbb hst ht0 hf0 hc
        go_wp2_with (go_at_call 123; refine (as_nil _ _).mono ?_; rintro e w1 ⟨rfl, rfl⟩)
        have HF : Hid (atF l nm = (0, false)) := Lib.hid HST.out.1.out
        go_end0
        exact ⟨rfl, HB.out, by rw [HF.out]; exact HST.out.2.2⟩
      · subst hz
        have HA := Lib.hid (as_closed a ⟨tb, 0, none⟩ old wr HG.out ht0)
        clear hbb hst ht0 hf0 hc
        go_wp2_with (go_at_call 123; refine HA.out.mono ?_; rintro e w1 ⟨rfl, hb1⟩; have HB1 := Lib.hid hb1; clear hb1)
        have HB := Lib.hid (below_then HB.out HB.out.size HB1.out)
        have HF : Hid (atF l nm = (0, false)) := Lib.hid HST.out.1.out
        have HS2 := Lib.hid (And.intro ((HB1.out.block ob (by omega)).trans HST.out.2.2.1) ((HB1.out.block ab (by omega)).trans HST.out.2.2.2))
        go_end0
        exact ⟨rfl, HB.out, by rw [HF.out]; exact HS2.out⟩
    | cons p t =>
      obtain ⟨g, u, hv, hg, hr⟩ := hc.out
      subst hv
      have HA := Lib.hid (as_hit ⟨g, 0, none⟩ ⟨tb, 0, none⟩ old wr HG.out ht0 hf0)
      have HR := Lib.hid hr
      have hgl := blk_lt hg
      have HGC := Lib.hid hg
      clear hbb hst ht0 hf0 hc hr hg
      go_wp2_with (fail)
      refine HA.out.mono ?_
      rintro e w1 ⟨rfl, hh⟩
      have hb1 : Below w0.heap.size w0 w1 := HB.out.trans (hh.ch.below_of (by omega) (fun k hk => by rw [hk]; exact htb0))
      have HB1 := Lib.hid hb1
      have hsz1 := hh.ch.size
      have HH := Lib.hid hh
      have ht1 := hh.at_
      have HG1 := Lib.hid ((hb1.block g hgl).trans HGC.out)
      clear hh hb1 HA
      obtain ⟨hat, hp0, ho0, ha0⟩ := HST.out
      have hne1 : tb ≠ pb := by rw [HTB.out]; omega
      have hne2 : tb ≠ ob := by rw [HTB.out]; omega
      have hne3 : tb ≠ ab := by rw [HTB.out]; omega
      have HD := Lib.hid (at_ask g pb ob ab p u nm false 0 w1 HG1.out (HH.out.ch.blk hp0 (fun h => hne1 h.symm)) (HH.out.ch.blk ho0 (fun h => hne2 h.symm)) (HH.out.ch.blk ha0 (fun h => hne3 h.symm)) n1 (by omega))
      have HP1 := Lib.hid (HH.out.ch.blk hp0 (fun h => hne1 h.symm))
      have HAT := hat
      clear hat hp0 ho0 ha0
      go_wp2_with (fail)
      refine HD.out.mono ?_
      rintro e w2 ⟨rfl, hc2, ho2, ha2⟩
      have HB2 := Lib.hid (HB1.out.trans (hc2.below_of (by omega) (fun k hk => by rcases hk with rfl | rfl <;> assumption)))
      have hsz2 := hc2.size
      have HP2 := Lib.hid (hc2.blk HP1.out (fun h => h.elim n2 n3))
      have ht2 := hc2.cell ht1 (show ¬ (tb = ob ∨ tb = ab) from fun h => h.elim hne2 hne3)
      have hf2 : w2.frozen? ⟨tb, 0, none⟩ = false := by rw [Ch.frozen hc2 (by omega) (show ¬ (tb = ob ∨ tb = ab) from fun h => h.elim hne2 hne3)]; exact HH.out.fr
      have hu := (err_cells (hc2.blk HG1.out (show ¬ (g = ob ∨ g = ab) from by omega))).2.2.2
      have HO2 := Lib.hid ho2
      have HA2 := Lib.hid ha2
      have HF2 := Lib.hid hf2
      have HT2 := Lib.hid ht2
      clear hc2 ho2 ha2 HD ht1 hf2 hne1 hne2 hne3
      by_cases hn : p.name = nm
      · have HF : Hid (atF l nm = (p.at_, true)) := Lib.hid (by rw [HAT.out, atF, if_pos hn])
        rw [if_pos hn] at HA2
        rw [decide_eq_true hn] at HO2 ⊢
        clear hn
        go_wp2
        go_end0
        exact ⟨rfl, HB2.out, by rw [HF.out]; exact ⟨HO2.out, HA2.out⟩⟩
      · have HF : Hid (atF l nm = atF t nm) := Lib.hid (by rw [HAT.out, atF, if_neg hn])
        rw [if_neg hn] at HA2
        rw [decide_eq_false hn] at HO2 ⊢
        clear hn
        go_wp2
        go_roundg (t.length + 1)
        case measure => simp
        case rel => exact ⟨t, _, rfl, HR, HB2.out, by omega, ⟨HT2.out, HF2.out⟩, HF, HP2.out, HO2.out, HA2.out⟩

/-- fail.At. -/
theorem at_calls {v z : Value} {l : List Pl} {w : World} (nm : ByteArray) (h : Err w v l z) :
    Calls Tryz.prog 71 #[v, .string nm] w fun e w' => e = .returned (.tuple #[.int .i64 (atF l nm).1, .bool (atF l nm).2]) ∧ Below w.heap.size w w' := by
  have hb := below_alloc (below_alloc (below_alloc (Below.refl w.heap.size w) (.cells #[.string nm] 9)) (.cells #[.int .i64 0] 3)) (.cells #[.bool false] 4)
  have HE := Lib.hid (each_at w _ v z l h hb nm w.heap.size (w.heap.size + 1 + 1) (w.heap.size + 1) (Nat.le_refl _) (by omega) (by omega) (by simp; omega) (by simp) (by simp) (by omega) (by omega) (by omega)
    (by rw [Below.heap_alloc _ _ _ (by simp; omega), Below.heap_alloc _ _ _ (by simp)]; exact heap_alloc_new w _)
    (by have := heap_alloc_new ((w.alloc (.cells #[.string nm] 9)).alloc (.cells #[.int .i64 0] 3)) (.cells #[.bool false] 4); simpa using this)
    (by rw [Below.heap_alloc _ _ _ (by simp)]; have := heap_alloc_new (w.alloc (.cells #[.string nm] 9)) (.cells #[.int .i64 0] 3); simpa using this))
  clear h hb
  go_enter Tryz.func71, Tryz.ntmps71
  go_wp2_with (fail)
  refine HE.out.mono ?_
  rintro e w1 ⟨rfl, hb1, ho1, ha1⟩
  have HB := Lib.hid hb1
  have hc := one_cell ho1
  have hd := one_cell ha1
  generalize hr : atF l nm = r at *
  obtain ⟨r1, r2⟩ := r
  have HR := Lib.hid hr
  simp only at hc hd
  clear hr hb1 ho1 ha1 HE
  go_wp2_with (fail)
  go_quiet (fail)
  go_wp2
  go_ret2
  rw [HR.out]
  exact ⟨rfl, pw_below_drewN HB.out _⟩
end Go.Proofs.YtjfekjbmgckkcaaGreatDoor.FailE
