/- law 06: any places have just one canonical list, or are refused. -/
import Derived.Test.YtaenincbmlcjiaaLaw06B
import Derived.Test.YtaenincbmlcjiaaLawBase
namespace Go.Proofs.Ytaenincbmlcjiaa.SpanFrom
open Go.RowKit Go.Proofs.YtaenincbmlcjiaaW.PrintWords
open Go.Proofs.Ytaenincbmlcjiaa.Base Go.Proofs.Ytaenincbmlcjiaa.SpanPure Go.Proofs.Ytaenincbmlcjiaa.SpanPure2 Go.Proofs.Ytaenincbmlcjiaa.SpanBase Go.Proofs.Ytaenincbmlcjiaa.SpanA Go.Proofs.Ytaenincbmlcjiaa.SpanB Go.Proofs.Ytaenincbmlcjiaa.SpanD Go.Proofs.Ytaenincbmlcjiaa.SpanG Go.Proofs.Ytaenincbmlcjiaa.Ref06 Go.Proofs.Ytaenincbmlcjiaa.Law06A Go.Proofs.Ytaenincbmlcjiaa.Law06B Go.Proofs.Ytaenincbmlcjiaa.LawBase

theorem runsF_len (ps : List Int) : ∀ f q, runsF f q ps ≤ ps.length := by
  induction ps with
  | nil => intro f q; exact Nat.le_refl _
  | cons p ps ih =>
    intro f q
    rw [runsF, List.length_cons]
    have := ih false (p + 1)
    split <;> omega
/-- what the canonical list of rising places is. -/
theorem fromL_facts {ps : List Int} (h : rising ps = true) (hl : ps.length ≤ 4096) (h2 : (fromL ps).length ≤ 1024) : chk (fromL ps) = 0 ∧ places (fromL ps) = ps ∧ runs ps = (fromL ps).length ∧ canonical (fromL ps) = true := by
  obtain ⟨f, hb⟩ := fromL_built h
  have hc : chk (fromL ps) = 0 := chk_zero.2 ⟨h2, hb.right (by omega)⟩
  exact ⟨hc, hb.pl, hb.len.symm, by rw [canonical, hb.can, hc]; rfl⟩
theorem rising_in {ps : List Int} (h : rising ps = true) : ∀ x ∈ ps, -1048576 ≤ x ∧ x ≤ 1048576 := (rise_of_risingF h).2.1

set_option maxHeartbeats 1600000 in
theorem core (A : Option Addr) (c : Nat) (ps : List Int) (w : World) (hr : RdI .i64 w A ps) (hl : ps.length ≤ 300) :
    Calls Try.prog 4 #[.slice A ps.length c] w fun e w' => e = .returned (.bool true) ∧ Below w.heap.size w w' := by
  have HR := Lib.hid hr
  have HF := Lib.hid (from_calls A c ps w hr (by omega))
  have d1 : decide ((ps.length : Int) > 300) = false := by simp; omega
  have d1' : decide (300 < (ps.length : Int)) = false := by simp; omega
  have d1n : decide (300 < ps.length) = false := by simp; omega
  clear hr
  go_enter Try.func4, Try.ntmps4
  go_wp2_with (fail)
  refine HF.out.mono ?_
  rintro e w1 ⟨hb1, ⟨h0, rfl⟩ | ⟨h0, h1, rfl⟩ | ⟨h0, h1, h2, v, rfl, ho⟩⟩
  · have HB1 := Lib.hid hb1
    have HRI := Lib.hid (rising_calls A c ps w1 (HR.out.below hb1) (by omega))
    rw [h0] at HRI
    have HAW := Lib.hid (fun W (h : Below w.heap.size w W) => lift h h.size (awake_calls W))
    clear hb1 h0 HF
    go_wp2_with (first
      | (go_at_call 18; refine HRI.out.mono ?_; rintro e w' ⟨rfl, q, rfl⟩)
      | (go_at_call 12; refine (HAW.out _ (pw_below_drewN HB1.out q)).mono ?_; rintro e w9 ⟨rfl, hb9⟩))
    go_ret
    exact ⟨rfl, hb9⟩
  · exfalso
    obtain ⟨f, hb⟩ := fromL_built h0
    have h3 := hb.len
    have h4 := runsF_len ps true 0
    unfold runs at h3
    omega
  · obtain ⟨k1, k2, k3, k4⟩ := fromL_facts h0 h1 h2
    have hin := rising_in h0
    obtain ⟨L, hL⟩ : ∃ L, L = fromL ps := ⟨_, rfl⟩
    rw [← hL] at ho k1 k2 k3 k4 h2
    obtain ⟨A1, c1, rfl, hc1, hA1, hr1⟩ := ho.reads
    have HB1 := Lib.hid hb1
    have HR1 := Lib.hid hr1
    have HRI := Lib.hid (rising_calls A c ps w1 (HR.out.below hb1) (by omega))
    rw [h0] at HRI
    have K1 := Lib.hid k1
    have K2 := Lib.hid k2
    have K3 := Lib.hid k3
    have K4 := Lib.hid k4
    have HIN := Lib.hid hin
    have HREF := Lib.hid (fun q => ref_calls A1 c1 L (w1.drewN q) (show RdSp (w1.drewN q) A1 L from hr1) (by omega))
    have HAW := Lib.hid (fun W (h : Below w.heap.size w W) => lift h h.size (awake_calls W))
    clear hb1 h0 HF ho hr1 k1 k2 k3 k4 hin hL
    go_wp2_with (go_at_call 18; refine HRI.out.mono ?_; rintro e w' ⟨rfl, q, rfl⟩)
    refine (HREF.out q).mono ?_
    rintro e w2 ⟨v2, rfl, ho2, hb2⟩
    have HB2 := Lib.hid (below_then (pw_below_drewN HB1.out q) (Nat.le_trans HB1.out.size (Nat.le_refl _)) hb2)
    have HC2 := Lib.hid (below_then (pw_below_drewN (Below.refl w1.heap.size w1) q) (Nat.le_refl _) hb2)
    obtain ⟨A2, c2, rfl, -, -, hr2⟩ := ho2.reads
    have HPL := Lib.hid (Ref06B.places_calls A2 c2 L w2 hr2 (by omega) K1.out)
    rw [K2.out] at HPL
    clear ho2 hb2 hr2 HREF HRI
    go_wp2_with (fail)
    refine HPL.out.mono ?_
    rintro e w3 ⟨v3, rfl, ho3, hb3⟩
    have HB3 := Lib.hid (below_then HB2.out HB2.out.size hb3)
    have HC3 := Lib.hid (below_then HC2.out HC2.out.size hb3)
    obtain ⟨A3, c3, rfl, -, hr3⟩ := ho3.reads
    have HS := Lib.hid (same_calls A3 A c3 c ps ps w3 hr3 (HR.out.below HB3.out) (by omega) (by omega))
    rw [show decide (ps = ps) = true from by simp] at HS
    have HRN := Lib.hid (fun q => Ref06B.runs_calls A c ps (w3.drewN q) ((HR.out.below HB3.out).drewN q) (by omega) HIN.out)
    rw [K3.out] at HRN
    have HCA := Lib.hid (fun q => canonical_calls A1 c1 L (w3.drewN q) ((HR1.out.below HC3.out).below (pw_below_drewN (Below.refl _ _) q)) (by omega))
    rw [K4.out] at HCA
    clear ho3 hb3 hr3 HPL
    go_wp2_with (first
      | (go_at_call 19; refine HS.out.mono ?_; rintro e w4 ⟨rfl, q4, rfl⟩)
      | (go_at_call 20; refine (HRN.out _).mono ?_; rintro e w5 ⟨rfl, q5, rfl⟩)
      | (go_at_call 21; refine (HCA.out _).mono ?_; rintro e w6 ⟨rfl, hb6⟩; have HB6 := Lib.hid (below_then (pw_below_drewN HB3.out _) HB3.out.size hb6); clear hb6)
      | (go_at_call 12; refine (HAW.out _ HB6.out).mono ?_; rintro e w9 ⟨rfl, hb9⟩))
    go_ret
    exact ⟨rfl, hb9⟩

set_option maxHeartbeats 400000 in
theorem narrow (A : Option Addr) (c n : Nat) (w : World) (hn : 300 < n) :
    Calls Try.prog 4 #[.slice A n c] w fun e w' => e = .returned (.bool true) ∧ Below w.heap.size w w' := by
  have HAW := Lib.hid (awake_calls w)
  have d1 : decide ((n : Int) > 300) = true := by simp; omega
  have d1' : decide (300 < (n : Int)) = true := by simp; omega
  have d1n : decide (300 < n) = true := by simp; omega
  go_enter Try.func4, Try.ntmps4
  go_wp2_with (go_at_call 12; refine HAW.out.mono ?_; rintro e w9 ⟨rfl, hb9⟩)
  go_ret
  exact ⟨rfl, hb9⟩
theorem walk (a0 : Option Addr) (len0 cap0 : Nat) (z0 : List Int) (w : World) (h0 : IsRow .i64 w a0 len0 cap0 z0) :
    Calls Try.prog 4 #[.slice a0 len0 cap0] w fun e w' => e = .returned (.bool true) ∧ Below w.heap.size w w' := by
  obtain ⟨hr, hl, hc, hA, -⟩ := h0.reads
  by_cases hin : 300 < len0
  · exact narrow a0 cap0 len0 w hin
  · obtain ⟨ps, hps⟩ : ∃ ps, ps = z0.take len0 := ⟨_, rfl⟩
    rw [← hps] at hr hl
    subst hl
    exact core a0 cap0 ps w hr (by omega)
end Go.Proofs.Ytaenincbmlcjiaa.SpanFrom
