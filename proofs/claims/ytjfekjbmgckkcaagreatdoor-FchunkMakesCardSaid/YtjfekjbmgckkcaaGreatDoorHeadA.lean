/- head's walks: at, sides, shape, Check. -/
import Derived.Test.YtjfekjbmgckkcaaGreatDoorThrA
import Derived.Test.YtjfekjbmgckkcaaGreatDoorSpanB
import Derived.Test.YtjfekjbmgckkcaaGreatDoorFailE
namespace Go.Proofs.YtjfekjbmgckkcaaGreatDoor.HeadA
open Go.RowKit Go.Proofs.YtjfekjbmgckkcaaGreatDoorW.PrintWords
open Go.Proofs.YtjfekjbmgckkcaaGreatDoor.Base Go.Proofs.YtjfekjbmgckkcaaGreatDoor.SpanPure Go.Proofs.YtjfekjbmgckkcaaGreatDoor.SpanBase Go.Proofs.YtjfekjbmgckkcaaGreatDoor.FailAs Go.Proofs.YtjfekjbmgckkcaaGreatDoor.FailB Go.Proofs.YtjfekjbmgckkcaaGreatDoor.FailC Go.Proofs.YtjfekjbmgckkcaaGreatDoor.ThrPure

/-- an error at a place; nil of 0. -/
theorem at_calls (c : Int) (nm : ByteArray) (n : Int) (w : World) (hg : GlE w) :
    Calls Tryz.prog 88 #[.int .i64 c, .string nm, .int .i64 n] w fun e w' => ∃ v, e = .returned v ∧ Err w' v (plc c nm n) .nilIface ∧ Below w.heap.size w w' := by
  by_cases hc : c = 0
  · subst hc
    have HG := Lib.hid hg
    clear hg
    go_enter Tryz.func88, Tryz.ntmps88
    go_wp2_with (first
      | (go_at_call 163; refine (new_zero _).mono ?_; rintro e w' ⟨rfl, rfl⟩)
      | (go_at_call 162; refine (wrap_nil _ _ _).mono ?_; rintro e w' ⟨rfl, rfl⟩))
    go_ret
    exact ⟨_, rfl, Err.nil HG.out, Below.refl _ _⟩
  · have HN := Lib.hid (new_code c w hg hc)
    have HP : Hid (plc c nm n = [⟨c, nm, n⟩, ⟨c, ⟨#[]⟩, 0⟩]) := Lib.hid (if_neg hc)
    clear hc hg
    go_enter Tryz.func88, Tryz.ntmps88
    go_wp2_with (fail)
    refine HN.out.mono ?_
    rintro e w1 ⟨v1, rfl, he, hb⟩
    have HW := Lib.hid (wrap_calls nm n he (.inl (by simp)))
    have B1 := Lib.hid hb
    clear he hb HN
    go_wp2_with (fail)
    refine HW.out.mono ?_
    rintro e w2 ⟨v2, rfl, he, hb⟩
    have E2 := Lib.hid he
    have B2 := Lib.hid (below_then B1.out B1.out.size hb)
    clear he hb HW
    go_wp2
    go_ret
    exact ⟨_, rfl, by rw [HP.out]; exact E2.out, B2.out⟩
/-- the error of spans. -/
def sidesE (l : List Sp) : Nat := if chk l ≠ 0 then chk l else if canonical l then 0 else 23
theorem sides_calls (A : Option Addr) (c : Nat) (l : List Sp) (w : World) (hr : RdSp w A l) (hm : l.length ≤ 1000000000) :
    Calls Tryz.prog 144 #[.slice A l.length c] w fun e w' => e = .returned (.int .i64 (sidesE l)) ∧ Below w.heap.size w w' := by
  have HC := Lib.hid (SpanA.check_calls A c l w hr hm)
  have HN := Lib.hid (fun W (h : Below w.heap.size w W) => SpanB.canonical_calls A c l W (hr.below h) hm)
  by_cases h0 : chk l = 0
  · rw [h0] at HC
    have HE : Hid (sidesE l = if canonical l then 0 else 23) := Lib.hid (by unfold sidesE; rw [if_neg (by omega)])
    cases hcn : canonical l with
    | true =>
      rw [hcn] at HN HE
      clear h0 hr hcn
      go_enter Tryz.func144, Tryz.ntmps144
      go_wp2_with (fail)
      refine HC.out.mono ?_
      rintro e w1 ⟨rfl, hb1⟩
      have B1 := Lib.hid hb1
      clear hb1
      go_wp2_with (fail)
      refine (HN.out _ B1.out).mono ?_
      rintro e w2 ⟨rfl, hb2⟩
      have B2 := Lib.hid (below_then B1.out B1.out.size hb2)
      clear hb2
      go_wp2
      go_ret
      exact ⟨by rw [HE.out]; rfl, B2.out⟩
    | false =>
      rw [hcn] at HN HE
      clear h0 hr hcn
      go_enter Tryz.func144, Tryz.ntmps144
      go_wp2_with (fail)
      refine HC.out.mono ?_
      rintro e w1 ⟨rfl, hb1⟩
      have B1 := Lib.hid hb1
      clear hb1
      go_wp2_with (fail)
      refine (HN.out _ B1.out).mono ?_
      rintro e w2 ⟨rfl, hb2⟩
      have B2 := Lib.hid (below_then B1.out B1.out.size hb2)
      clear hb2
      go_wp2
      go_ret
      exact ⟨by rw [HE.out]; rfl, B2.out⟩
  · have HE : Hid (sidesE l = chk l) := Lib.hid (by unfold sidesE; rw [if_pos h0])
    obtain ⟨k, hk⟩ : ∃ k, k = chk l := ⟨_, rfl⟩
    rw [← hk] at HC HE h0
    have e1 : ((k : Int) != 0) = true := by simp; omega
    clear h0 hr hk
    go_enter Tryz.func144, Tryz.ntmps144
    go_wp2_with (fail)
    refine HC.out.mono ?_
    rintro e w1 ⟨rfl, hb1⟩
    have B1 := Lib.hid hb1
    clear hb1
    go_wp2
    go_ret
    exact ⟨by rw [HE.out]; rfl, B1.out⟩
def shapeE (s : Int) : Nat := if s < -4 ∨ 8 < s then 21 else 0
theorem shape_calls (s : Int) (w : World) : Calls Tryz.prog 142 #[.int .i64 s] w fun e w' => e = .returned (.int .i64 (shapeE s)) ∧ w = w' := by
  by_cases h1 : s < -4
  · have HE : Hid (shapeE s = 21) := Lib.hid (if_pos (.inl h1))
    have d1 : decide (s < -4) = true := decide_eq_true h1
    go_enter Tryz.func142, Tryz.ntmps142
    go_wp2
    go_ret
    exact ⟨by rw [HE.out]; rfl, rfl⟩
  · have d1 : decide (s < -4) = false := decide_eq_false h1
    by_cases h2 : 8 < s
    · have HE : Hid (shapeE s = 21) := Lib.hid (if_pos (.inr h2))
      have d2 : decide (s > 8) = true := decide_eq_true h2
      have d2' : decide (8 < s) = true := decide_eq_true h2
      go_enter Tryz.func142, Tryz.ntmps142
      go_wp2
      go_ret
      exact ⟨by rw [HE.out]; rfl, rfl⟩
    · have HE : Hid (shapeE s = 0) := Lib.hid (if_neg (by omega))
      have d2 : decide (s > 8) = false := decide_eq_false h2
      have d2' : decide (8 < s) = false := decide_eq_false h2
      go_enter Tryz.func142, Tryz.ntmps142
      go_wp2
      go_ret
      exact ⟨by rw [HE.out]; rfl, rfl⟩
end Go.Proofs.YtjfekjbmgckkcaaGreatDoor.HeadA
