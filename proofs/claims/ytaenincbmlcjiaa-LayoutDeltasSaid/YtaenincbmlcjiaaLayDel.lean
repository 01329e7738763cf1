/- law 08: differences are expanded so that what they are of is. -/
import Derived.Test.YtaenincbmlcjiaaLayExp
namespace Go.Proofs.Ytaenincbmlcjiaa.LayDel
open Go.RowKit Go.Proofs.YtaenincbmlcjiaaW.PrintWords
open Go.Proofs.Ytaenincbmlcjiaa.Base Go.Proofs.Ytaenincbmlcjiaa.SpanPure Go.Proofs.Ytaenincbmlcjiaa.SpanPure2 Go.Proofs.Ytaenincbmlcjiaa.LayPure Go.Proofs.Ytaenincbmlcjiaa.LayPure2 Go.Proofs.Ytaenincbmlcjiaa.LayPure4 Go.Proofs.Ytaenincbmlcjiaa.SpanBase Go.Proofs.Ytaenincbmlcjiaa.LayA Go.Proofs.Ytaenincbmlcjiaa.LayB Go.Proofs.Ytaenincbmlcjiaa.LayC Go.Proofs.Ytaenincbmlcjiaa.LayD Go.Proofs.Ytaenincbmlcjiaa.LayF Go.Proofs.Ytaenincbmlcjiaa.LayG Go.Proofs.Ytaenincbmlcjiaa.LawBase Go.Proofs.Ytaenincbmlcjiaa.OpenSp
open Go.Proofs.Ytaenincbmlcjiaa.LayAw (awake_calls)
open Go.Proofs.Ytaenincbmlcjiaa.Law06B (lift)

set_option maxRecDepth 100000 in
set_option maxHeartbeats 1600000 in
theorem refused (A B : Option Addr) (c d : Nat) (ds : List Int) (l : List Sp) (w : World) (hr : RdI .i64 w A ds) (hl : RdSp w B l) (hm : ds.length ≤ 200) (hm2 : l.length ≤ 200) (hok : right ds.length l = false) :
    Calls Try.prog 8 #[.slice A ds.length c, .slice B l.length d] w fun e w' => e = .returned (.bool true) ∧ Below w.heap.size w w' := by
  have HE := Lib.hid (deltas_calls A B c d ds l w hr hl (by omega) (by omega))
  have HR2 := Lib.hid (fun W (h : Below w.heap.size w W) => lift h h.size (lawright_calls B d l ds.length W (hl.below h) (by omega)))
  rw [hok] at HR2
  have HAW := Lib.hid (fun W (h : Below w.heap.size w W) => lift h h.size (awake_calls W))
  have HOK := Lib.hid hok
  have d1 : decide ((ds.length : Int) > 200) = false := by simp; omega
  have d1' : decide (200 < (ds.length : Int)) = false := by simp; omega
  have d1n : decide (200 < ds.length) = false := by simp; omega
  have d2 : decide ((l.length : Int) > 200) = false := by simp; omega
  have d2' : decide (200 < (l.length : Int)) = false := by simp; omega
  have d2n : decide (200 < l.length) = false := by simp; omega
  clear hr hl hok
  go_enter Try.func8, Try.ntmps8
  go_wp2_with (fail)
  refine HE.out.mono ?_
  rintro e w1 ⟨hb1, ⟨-, rfl⟩ | ⟨h0, -⟩⟩
  · have HB1 := Lib.hid hb1
    clear hb1 HE
    go_wp2_with (first
      | (go_at_call 30; refine (HR2.out _ HB1.out).mono ?_; rintro e w4 ⟨rfl, hb4⟩; have HB4 := Lib.hid hb4; clear hb4)
      | (go_at_call 27; refine (HAW.out _ HB4.out).mono ?_; rintro e w5 ⟨rfl, hb5⟩))
    go_ret
    exact ⟨rfl, hb5⟩
  · rw [HOK.out] at h0; cases h0

set_option maxRecDepth 100000 in
set_option maxHeartbeats 3200000 in
theorem done (A B : Option Addr) (c d : Nat) (ds : List Int) (l : List Sp) (w : World) (hr : RdI .i64 w A ds) (hl : RdSp w B l) (hm : ds.length ≤ 200) (hm2 : l.length ≤ 200) (hok : right ds.length l = true) :
    Calls Try.prog 8 #[.slice A ds.length c, .slice B l.length d] w fun e w' => e = .returned (.bool true) ∧ Below w.heap.size w w' := by
  have HE := Lib.hid (deltas_calls A B c d ds l w hr hl (by omega) (by omega))
  have HR2 := Lib.hid (fun W (h : Below w.heap.size w W) => lawright_calls B d l ds.length W (hl.below h) (by omega))
  rw [hok] at HR2
  have HSD := Lib.hid (fun W (h : Below w.heap.size w W) => sums_calls A c ds W (hr.below h) (by omega))
  have HAW := Lib.hid (fun W (h : Below w.heap.size w W) => lift h h.size (awake_calls W))
  have HOK := Lib.hid hok
  have HL := Lib.hid hl
  have d1 : decide ((ds.length : Int) > 200) = false := by simp; omega
  have d1' : decide (200 < (ds.length : Int)) = false := by simp; omega
  have d1n : decide (200 < ds.length) = false := by simp; omega
  have d2 : decide ((l.length : Int) > 200) = false := by simp; omega
  have d2' : decide (200 < (l.length : Int)) = false := by simp; omega
  have d2n : decide (200 < l.length) = false := by simp; omega
  have hsl : (sums ds).length = ds.length := sumsF_len ds 0
  have HSL := Lib.hid hsl
  have hsb : (sums ds).length ≤ 200 := by omega
  have hSOK : right (sums ds).length l = true := by rw [hsl]; exact hok
  obtain ⟨X, hX⟩ : ∃ X, X = expand (sums ds) l 0 := ⟨_, rfl⟩
  have hxl : X.length ≤ 10000 := by
    have h1 := expand_len (sums ds) 0 l rfl hSOK
    have h2 := right_cnt hSOK
    rw [← hX] at h1
    omega
  have HSX : Hid (sums (difs X) = X) := Lib.hid (sums_difs X 0 (by rw [hX]; exact expand_in _ _ (sumsF_in ds 0)))
  have hdl : (difs X).length = X.length := difsF_len X 0
  have HDL := Lib.hid hdl
  have hdb : (difs X).length ≤ 10000 := by omega
  have HXX := Lib.hid hX
  obtain ⟨Y, hY⟩ : ∃ Y, Y = sums ds := ⟨_, rfl⟩
  have HYY := Lib.hid hY
  rw [← hY] at HSD hsb hSOK
  have HSOK := Lib.hid hSOK
  clear hr hl hok hX hsl hSOK hdl hY HSL
  go_enter Try.func8, Try.ntmps8
  go_wp2_with (fail)
  refine HE.out.mono ?_
  rintro e w1 ⟨hb1, ⟨h0, -⟩ | ⟨-, v1, rfl, ho1⟩⟩
  · rw [HOK.out] at h0; cases h0
  rw [← HXX.out] at ho1
  have T1 : Hid (Th w w1 w1 w1) := Lib.hid ⟨hb1, Below.refl _ _, Below.refl _ _⟩
  obtain ⟨A1, c1, rfl, -, hr1⟩ := ho1.reads
  have HR1 := Lib.hid hr1
  clear hb1 ho1 hr1 HE
  go_wp2_with (go_at_call 30; refine (HR2.out _ T1.out.x).mono ?_; rintro e w2 ⟨rfl, hb2⟩; have T2 := Lib.hid (T1.out.next hb2); clear hb2 T1)
  refine (HSD.out _ T2.out.x).mono ?_
  rintro e w3 ⟨v3, rfl, ho3, hb3⟩
  have T3 := Lib.hid (T2.out.next hb3)
  obtain ⟨A3, c3, rfl, hc3, hr3⟩ := ho3.reads
  have HE3 := Lib.hid (expand_calls A3 B c3 d Y l 0 w3 hr3 (HL.out.below T3.out.x) (by omega) (by omega) hc3)
  clear hb3 ho3 hr3 HSD HR2 T2
  go_wp2_with (fail)
  refine HE3.out.mono ?_
  rintro e w4 ⟨hb4, ⟨h0, -⟩ | ⟨-, v4, rfl, ho4⟩⟩
  · rw [HSOK.out] at h0; cases h0
  rw [HYY.out, ← HXX.out] at ho4
  have T4 := Lib.hid (T3.out.next hb4)
  obtain ⟨A4, c4, rfl, -, hr4⟩ := ho4.reads
  have HS5 := Lib.hid (sums_calls A1 c1 (difs X) w4 (HR1.out.below T4.out.y) (by omega))
  rw [HSX.out] at HS5
  have HR4 := Lib.hid hr4
  clear hb4 ho4 hr4 HE3 T3 HR1
  go_wp2_with (fail)
  refine HS5.out.mono ?_
  rintro e w5 ⟨v5, rfl, ho5, hb5⟩
  have T5 := Lib.hid (T4.out.next hb5)
  obtain ⟨A5, c5, rfl, -, hr5⟩ := ho5.reads
  have HSM := Lib.hid (same_calls A5 A4 c5 c4 X X w5 hr5 (HR4.out.below hb5) (by omega) (by omega))
  rw [show decide (X = X) = true from by simp] at HSM
  clear hb5 ho5 hr5 HS5 HR4 T4
  go_wp2_with (first
    | (go_at_call 31; refine HSM.out.mono ?_; rintro e w6 ⟨rfl, q6, rfl⟩; have T6 := Lib.hid (T5.out.drew q6))
    | (go_at_call 27; refine (HAW.out _ T6.out.x).mono ?_; rintro e w7 ⟨rfl, hb7⟩))
  go_ret
  exact ⟨rfl, hb7⟩
set_option maxRecDepth 100000 in
set_option maxHeartbeats 800000 in
theorem narrow (A B : Option Addr) (c d n m : Nat) (w : World) (h : 200 < n ∨ (n ≤ 200 ∧ 200 < m)) :
    Calls Try.prog 8 #[.slice A n c, .slice B m d] w fun e w' => e = .returned (.bool true) ∧ Below w.heap.size w w' := by
  have HAW := Lib.hid (awake_calls w)
  rcases h with h | ⟨h1, h2⟩
  · have d1 : decide ((n : Int) > 200) = true := by simp; omega
    have d1' : decide (200 < (n : Int)) = true := by simp; omega
    have d1n : decide (200 < n) = true := by simp; omega
    go_enter Try.func8, Try.ntmps8
    go_wp2_with (go_at_call 27; refine HAW.out.mono ?_; rintro e w9 ⟨rfl, hb9⟩)
    go_ret
    exact ⟨rfl, hb9⟩
  · have d1 : decide ((n : Int) > 200) = false := by simp; omega
    have d1' : decide (200 < (n : Int)) = false := by simp; omega
    have d1n : decide (200 < n) = false := by simp; omega
    have d2 : decide ((m : Int) > 200) = true := by simp; omega
    have d2' : decide (200 < (m : Int)) = true := by simp; omega
    have d2n : decide (200 < m) = true := by simp; omega
    go_enter Try.func8, Try.ntmps8
    go_wp2_with (go_at_call 27; refine HAW.out.mono ?_; rintro e w9 ⟨rfl, hb9⟩)
    go_ret
    exact ⟨rfl, hb9⟩
theorem walk (a0 : Option Addr) (len0 cap0 : Nat) (z0 : List Int) (a1 : Option Addr) (len1 cap1 : Nat) (z1 : List Sp) (w : World) (h0 : IsRow .i64 w a0 len0 cap0 z0) (h1 : IsSps w a1 len1 cap1 z1) :
    Calls Try.prog 8 #[.slice a0 len0 cap0, .slice a1 len1 cap1] w fun e w' => e = .returned (.bool true) ∧ Below w.heap.size w w' := by
  obtain ⟨hr, hl, hc, hA, -⟩ := h0.reads
  obtain ⟨rb, rfl, hcb, hnb, hmb, -⟩ := h1
  by_cases hin : len0 ≤ 200 ∧ z1.length ≤ 200
  · obtain ⟨ps, hps⟩ : ∃ ps, ps = z0.take len0 := ⟨_, rfl⟩
    rw [← hps] at hr hl
    subst hl
    cases hok : right ps.length z1 with
    | false => exact refused a0 a1 cap0 cap1 ps z1 w hr rb hin.1 hin.2 hok
    | true => exact done a0 a1 cap0 cap1 ps z1 w hr rb hin.1 hin.2 hok
  · exact narrow a0 a1 cap0 cap1 len0 z1.length w (by omega)
end Go.Proofs.Ytaenincbmlcjiaa.LayDel
