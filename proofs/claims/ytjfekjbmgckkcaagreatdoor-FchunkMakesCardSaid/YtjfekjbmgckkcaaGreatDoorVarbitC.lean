/- varbit's walks: get. -/
import Derived.Test.YtjfekjbmgckkcaaGreatDoorVarbitB
namespace Go.Proofs.YtjfekjbmgckkcaaGreatDoor.VarbitC
open Go.RowKit Go.Proofs.YtjfekjbmgckkcaaGreatDoorW.PrintWords
open Go.Proofs.YtjfekjbmgckkcaaGreatDoor.Bits Go.Proofs.YtjfekjbmgckkcaaGreatDoor.Base Go.Proofs.YtjfekjbmgckkcaaGreatDoor.VarPure Go.Proofs.YtjfekjbmgckkcaaGreatDoor.VarbitA Go.Proofs.YtjfekjbmgckkcaaGreatDoor.VarbitB Go.Proofs.YtjfekjbmgckkcaaGreatDoor.StreamA Go.Proofs.YtjfekjbmgckkcaaGreatDoor.StreamR

/-- Get, as far as there are so many. -/
theorem get_ok (g a k : Nat) (S : Nat → Prop) (x t : List Bool) (sh : Bool) (w : World) (h : Rr w g S a (x ++ t) sh) (hx : x.length = k) (hk : k ≤ 64) :
    Calls Tryz.prog 85 #[.pointer (some ⟨g, 0, none⟩), .int .i64 k] w fun e w' => e = .returned (.int .u64 (val x)) ∧ Rr w' g S (a + k) t sh ∧ Ch S w w' := by
  rcases Nat.eq_zero_or_pos k with h0 | h0
  · subst h0
    obtain rfl : x = [] := List.length_eq_zero_iff.1 hx
    refine (get_zero g a w).mono ?_
    rintro e w' ⟨rfl, rfl⟩
    exact ⟨rfl, h, Ch.refl _ _⟩
  · have := get_calls g a k S (x ++ t) sh w h h0 hk (by rw [List.length_append]; omega)
    rwa [List.take_left' hx, List.drop_left' hx] at this

set_option maxHeartbeats 1600000 in
theorem vget_ok (g a k : Nat) (S : Nat → Prop) (x t : List Bool) (w : World) (hT : Tab w) (hG : ¬ S 1) (h : Rr w g S a (ones k ++ (x ++ t)) false) (hk : k < 9) (hx : x.length = behind k) :
    Calls Tryz.prog 204 #[.pointer (some ⟨g, 0, none⟩)] w fun e w' => e = .returned (.tuple #[.int .i64 k, .int .u64 (val x), .int .i64 0]) ∧ Rr w' g S (a + front k + behind k) t false ∧ Ch S w w' := by
  rw [ones, List.append_assoc] at h
  have HX := Lib.hid hx
  clear hx
  have HH := Lib.hid h
  have HT := Lib.hid hT
  have HNG := Lib.hid hG
  have h64 := behind_le (g := k)
  clear h hT hG
  go_enter Tryz.func204, Tryz.ntmps204
  go_wp2
  go_loopw [2] (fun i wr => ∃ j : Nat, j ≤ k ∧ i = .int .i64 j ∧ Rr wr g S (a + j) (List.replicate (k - j) true ++ ((if k < 8 then [false] else []) ++ (x ++ t))) false ∧ Ch S w wr) (fun i _ => k - (intOf i).toNat)
  case atStart => exact ⟨0, by omega, rfl, by simpa using HH.out, Ch.refl _ _⟩
  case round =>
    obtain ⟨j, hj, rfl, hr, hc⟩ := hrel
    have HC := Lib.hid hc
    have HT1 := Lib.hid (HT.out.ch hc HNG.out)
    clear hc
    by_cases hlt : j < k
    · have hj8 : decide ((j : Int) < 8) = true := by simp; omega
      have hj8n : decide (j < 8) = true := by simp; omega
      rw [show k - j = (k - (j + 1)) + 1 from by omega, List.replicate_succ, List.cons_append] at hr
      have HB := Lib.hid (rbit_calls g (a + j) S true _ false wr hr)
      clear hr
      go_wp2_with (go_at_call 27; refine HB.out.mono ?_; rintro e w2 ⟨rfl, hr2, hc2⟩; have HR2 := Lib.hid hr2; have HC2 := Lib.hid hc2; clear hr2 hc2)
      go_roundw
      case rel => exact ⟨j + 1, by omega, by go_num, HR2.out, HC.out.trans HC2.out fun _ _ h => h⟩
      case measure => simp [intOf]; omega
    · obtain rfl : j = k := by omega
      rw [Nat.sub_self, List.replicate_zero, List.nil_append] at hr
      by_cases h8 : j < 8
      · have hj8 : decide ((j : Int) < 8) = true := by simp; omega
        have hj8n : decide (j < 8) = true := by simp; omega
        rw [if_pos h8, List.cons_append, List.nil_append] at hr
        have HB := Lib.hid (rbit_calls g (a + j) S false _ false wr hr)
        clear hr
        go_wp2_with (go_at_call 27; refine HB.out.mono ?_; rintro e w2 ⟨rfl, hr2, hc2⟩; refine stop_here ?_)
        refine Lib.hid ?_
        have HBE := Lib.hid (behind_calls j w2 (HT1.out.ch hc2 HNG.out) hk)
        have HGET := Lib.hid (get_ok g (a + j + 1) (behind j) S x t false w2 hr2 HX.out h64)
        have HC2 := Lib.hid hc2
        clear hr2 hc2
        go_wp2_with (first | (go_at_call 200; refine HBE.out.mono ?_; rintro e w' ⟨rfl, rfl⟩) | (go_at_call 85; refine HGET.out.mono ?_; rintro e w3 ⟨rfl, hr3, hc3⟩; refine stop_here ?_))
        refine Lib.hid ?_
        have HSH := Lib.hid (short_calls g _ S _ _ w3 hr3)
        have HR3 := Lib.hid hr3
        have HC3 := Lib.hid hc3
        clear hr3 hc3
        go_wp2_with (go_at_call 157; refine HSH.out.mono ?_; rintro e w' ⟨rfl, rfl⟩)
        go_ret3
        refine ⟨rfl, ?_, (HC.out.trans HC2.out fun _ _ h => h).trans HC3.out fun _ _ h => h⟩
        rw [front, if_pos h8]
        exact HR3.out
      · have hj8 : decide ((j : Int) < 8) = false := by simp; omega
        have hj8n : decide (j < 8) = false := by simp; omega
        rw [if_neg h8, List.nil_append] at hr
        have HBE := Lib.hid (behind_calls j wr HT1.out hk)
        have HGET := Lib.hid (get_ok g (a + j) (behind j) S x t false wr hr HX.out h64)
        clear hr
        go_wp2_with (first | (go_at_call 200; refine HBE.out.mono ?_; rintro e w' ⟨rfl, rfl⟩) | (go_at_call 85; refine HGET.out.mono ?_; rintro e w3 ⟨rfl, hr3, hc3⟩; refine stop_here ?_))
        refine Lib.hid ?_
        have HSH := Lib.hid (short_calls g _ S _ _ w3 hr3)
        have HR3 := Lib.hid hr3
        have HC3 := Lib.hid hc3
        clear hr3 hc3
        go_wp2_with (go_at_call 157; refine HSH.out.mono ?_; rintro e w' ⟨rfl, rfl⟩)
        go_ret3
        refine ⟨rfl, ?_, HC.out.trans HC3.out fun _ _ h => h⟩
        rw [front, if_neg h8]
        exact HR3.out

set_option maxHeartbeats 1600000 in
theorem vget_few (g a k : Nat) (S : Nat → Prop) (y : List Bool) (w : World) (hT : Tab w) (hG : ¬ S 1) (h : Rr w g S a (ones k ++ y) false) (hk : k < 9) (hy : y.length < behind k) :
    Calls Tryz.prog 204 #[.pointer (some ⟨g, 0, none⟩)] w fun e w' => e = .returned (.tuple #[.int .i64 0, .int .u64 0, .int .i64 16]) ∧ (∃ a', Rr w' g S a' [] true) ∧ Ch S w w' := by
  rw [ones, List.append_assoc] at h
  have HX := Lib.hid hy
  clear hy
  have HH := Lib.hid h
  have HT := Lib.hid hT
  have HNG := Lib.hid hG
  have h64 := behind_le (g := k)
  clear h hT hG
  go_enter Tryz.func204, Tryz.ntmps204
  go_wp2
  go_loopw [2] (fun i wr => ∃ j : Nat, j ≤ k ∧ i = .int .i64 j ∧ Rr wr g S (a + j) (List.replicate (k - j) true ++ ((if k < 8 then [false] else []) ++ y)) false ∧ Ch S w wr) (fun i _ => k - (intOf i).toNat)
  case atStart => exact ⟨0, by omega, rfl, by simpa using HH.out, Ch.refl _ _⟩
  case round =>
    obtain ⟨j, hj, rfl, hr, hc⟩ := hrel
    have HC := Lib.hid hc
    have HT1 := Lib.hid (HT.out.ch hc HNG.out)
    clear hc
    by_cases hlt : j < k
    · have hj8 : decide ((j : Int) < 8) = true := by simp; omega
      have hj8n : decide (j < 8) = true := by simp; omega
      rw [show k - j = (k - (j + 1)) + 1 from by omega, List.replicate_succ, List.cons_append] at hr
      have HB := Lib.hid (rbit_calls g (a + j) S true _ false wr hr)
      clear hr
      go_wp2_with (go_at_call 27; refine HB.out.mono ?_; rintro e w2 ⟨rfl, hr2, hc2⟩; have HR2 := Lib.hid hr2; have HC2 := Lib.hid hc2; clear hr2 hc2)
      go_roundw
      case rel => exact ⟨j + 1, by omega, by go_num, HR2.out, HC.out.trans HC2.out fun _ _ h => h⟩
      case measure => simp [intOf]; omega
    · obtain rfl : j = k := by omega
      rw [Nat.sub_self, List.replicate_zero, List.nil_append] at hr
      by_cases h8 : j < 8
      · have hj8 : decide ((j : Int) < 8) = true := by simp; omega
        have hj8n : decide (j < 8) = true := by simp; omega
        rw [if_pos h8, List.cons_append, List.nil_append] at hr
        have HB := Lib.hid (rbit_calls g (a + j) S false _ false wr hr)
        clear hr
        go_wp2_with (go_at_call 27; refine HB.out.mono ?_; rintro e w2 ⟨rfl, hr2, hc2⟩; refine stop_here ?_)
        refine Lib.hid ?_
        have HBE := Lib.hid (behind_calls j w2 (HT1.out.ch hc2 HNG.out) hk)
        have HGET := Lib.hid (get_short g (a + j + 1) (behind j) S y false w2 hr2 (Nat.lt_of_le_of_lt (Nat.zero_le _) HX.out) h64 HX.out)
        have HC2 := Lib.hid hc2
        clear hr2 hc2
        go_wp2_with (first | (go_at_call 200; refine HBE.out.mono ?_; rintro e w' ⟨rfl, rfl⟩) | (go_at_call 85; refine HGET.out.mono ?_; rintro e w3 ⟨rfl, hr3, hc3⟩; refine stop_here ?_))
        refine Lib.hid ?_
        have HSH := Lib.hid (short_calls g _ S _ _ w3 hr3)
        have HR3 := Lib.hid hr3
        have HC3 := Lib.hid hc3
        clear hr3 hc3
        go_wp2_with (go_at_call 157; refine HSH.out.mono ?_; rintro e w' ⟨rfl, rfl⟩)
        go_ret3
        exact ⟨rfl, ⟨_, HR3.out⟩, (HC.out.trans HC2.out fun _ _ h => h).trans HC3.out fun _ _ h => h⟩
      · have hj8 : decide ((j : Int) < 8) = false := by simp; omega
        have hj8n : decide (j < 8) = false := by simp; omega
        rw [if_neg h8, List.nil_append] at hr
        have HBE := Lib.hid (behind_calls j wr HT1.out hk)
        have HGET := Lib.hid (get_short g (a + j) (behind j) S y false wr hr (Nat.lt_of_le_of_lt (Nat.zero_le _) HX.out) h64 HX.out)
        clear hr
        go_wp2_with (first | (go_at_call 200; refine HBE.out.mono ?_; rintro e w' ⟨rfl, rfl⟩) | (go_at_call 85; refine HGET.out.mono ?_; rintro e w3 ⟨rfl, hr3, hc3⟩; refine stop_here ?_))
        refine Lib.hid ?_
        have HSH := Lib.hid (short_calls g _ S _ _ w3 hr3)
        have HR3 := Lib.hid hr3
        have HC3 := Lib.hid hc3
        clear hr3 hc3
        go_wp2_with (go_at_call 157; refine HSH.out.mono ?_; rintro e w' ⟨rfl, rfl⟩)
        go_ret3
        exact ⟨rfl, ⟨_, HR3.out⟩, HC.out.trans HC3.out fun _ _ h => h⟩

set_option maxHeartbeats 1600000 in
theorem vget_ones (g a k : Nat) (S : Nat → Prop) (w : World) (hT : Tab w) (hG : ¬ S 1) (h : Rr w g S a (List.replicate k true) false) (hk : k < 8) :
    Calls Tryz.prog 204 #[.pointer (some ⟨g, 0, none⟩)] w fun e w' => e = .returned (.tuple #[.int .i64 0, .int .u64 0, .int .i64 16]) ∧ (∃ a', Rr w' g S a' [] true) ∧ Ch S w w' := by
  rw [← List.append_nil (List.replicate k true)] at h
  have HH := Lib.hid h
  have HT := Lib.hid hT
  have HNG := Lib.hid hG
  have h64 := behind_le (g := k)
  clear h hT hG
  go_enter Tryz.func204, Tryz.ntmps204
  go_wp2
  go_loopw [2] (fun i wr => ∃ j : Nat, j ≤ k ∧ i = .int .i64 j ∧ Rr wr g S (a + j) (List.replicate (k - j) true ++ []) false ∧ Ch S w wr) (fun i _ => k - (intOf i).toNat)
  case atStart => exact ⟨0, by omega, rfl, by simpa using HH.out, Ch.refl _ _⟩
  case round =>
    obtain ⟨j, hj, rfl, hr, hc⟩ := hrel
    have HC := Lib.hid hc
    have HT1 := Lib.hid (HT.out.ch hc HNG.out)
    clear hc
    by_cases hlt : j < k
    · have hj8 : decide ((j : Int) < 8) = true := by simp; omega
      have hj8n : decide (j < 8) = true := by simp; omega
      rw [show k - j = (k - (j + 1)) + 1 from by omega, List.replicate_succ, List.cons_append] at hr
      have HB := Lib.hid (rbit_calls g (a + j) S true _ false wr hr)
      clear hr
      go_wp2_with (go_at_call 27; refine HB.out.mono ?_; rintro e w2 ⟨rfl, hr2, hc2⟩; have HR2 := Lib.hid hr2; have HC2 := Lib.hid hc2; clear hr2 hc2)
      go_roundw
      case rel => exact ⟨j + 1, by omega, by go_num, HR2.out, HC.out.trans HC2.out fun _ _ h => h⟩
      case measure => simp [intOf]; omega
    · obtain rfl : j = k := by omega
      rw [Nat.sub_self, List.replicate_zero, List.nil_append] at hr
      have hj8 : decide ((j : Int) < 8) = true := by simp; omega
      have hj8n : decide (j < 8) = true := by simp; omega
      have HB := Lib.hid (rbit_short g (a + j) S false wr hr)
      clear hr
      go_wp2_with (go_at_call 27; refine HB.out.mono ?_; rintro e w2 ⟨rfl, hr2, hc2⟩; refine stop_here ?_)
      refine Lib.hid ?_
      have HBE := Lib.hid (behind_calls j w2 (HT1.out.ch hc2 HNG.out) (by omega))
      have HGET : Hid (Calls Tryz.prog 85 #[.pointer (some ⟨g, 0, none⟩), .int .i64 (behind j)] w2 fun e w' => e = .returned (.int .u64 0) ∧ Rr w' g S (a + j) [] true ∧ Ch S w2 w') := by
        rcases Nat.eq_zero_or_pos (behind j) with h0 | h0
        · rw [h0]
          refine (get_zero g a w2).mono ?_
          rintro e w' ⟨rfl, rfl⟩
          exact ⟨rfl, hr2, Ch.refl _ _⟩
        · exact get_short g (a + j) (behind j) S [] true w2 hr2 h0 h64 (by simpa using h0)
      have HC2 := Lib.hid hc2
      clear hr2 hc2
      go_wp2_with (first | (go_at_call 200; refine HBE.out.mono ?_; rintro e w' ⟨rfl, rfl⟩) | (go_at_call 85; refine HGET.out.mono ?_; rintro e w3 ⟨rfl, hr3, hc3⟩; refine stop_here ?_))
      refine Lib.hid ?_
      have HSH := Lib.hid (short_calls g _ S _ _ w3 hr3)
      have HR3 := Lib.hid hr3
      have HC3 := Lib.hid hc3
      clear hr3 hc3
      go_wp2_with (go_at_call 157; refine HSH.out.mono ?_; rintro e w' ⟨rfl, rfl⟩)
      go_ret3
      exact ⟨rfl, ⟨_, HR3.out⟩, (HC.out.trans HC2.out fun _ _ h => h).trans HC3.out fun _ _ h => h⟩
end Go.Proofs.YtjfekjbmgckkcaaGreatDoor.VarbitC
