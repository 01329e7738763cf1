/- law 08: a list lacks nothing of itself, nor of what it covers; the union covers both. -/
import Derived.Test.YtaenincbmlcjiaaLayCmp
namespace Go.Proofs.Ytaenincbmlcjiaa.LaySelf
open Go.RowKit Go.Proofs.YtaenincbmlcjiaaW.PrintWords
open Go.Proofs.Ytaenincbmlcjiaa.Base Go.Proofs.Ytaenincbmlcjiaa.SpanPure Go.Proofs.Ytaenincbmlcjiaa.SpanPure2 Go.Proofs.Ytaenincbmlcjiaa.LayPure Go.Proofs.Ytaenincbmlcjiaa.LayPure3 Go.Proofs.Ytaenincbmlcjiaa.SpanBase Go.Proofs.Ytaenincbmlcjiaa.SpanG Go.Proofs.Ytaenincbmlcjiaa.LayF Go.Proofs.Ytaenincbmlcjiaa.LayG Go.Proofs.Ytaenincbmlcjiaa.LawBase Go.Proofs.Ytaenincbmlcjiaa.OpenSp
open Go.Proofs.Ytaenincbmlcjiaa.LayAw (awake_calls)
open Go.Proofs.Ytaenincbmlcjiaa.Law06B (lift)

theorem both_sub {a b : List Sp} (ha : chk a = 0) (h : ∀ y ∈ places b, y ∈ places a) : both a b = places a := rise_ext (both_rise a b) (places_rise (right_of ha)) fun x => by
  rw [both, (uni_spec _ _).2]
  exact ⟨fun h' => h'.elim id (h x), .inl⟩
theorem cerr_sub {a b : List Sp} (ha : chk a = 0) (hb : chk b = 0) (hl : a.length ≤ 1024) (h : ∀ y ∈ places b, y ∈ places a) : cerr a b = 0 := by
  have he := both_sub ha h
  have h1 := places_len (right_of ha)
  have h2 := runs_le a
  obtain ⟨f, hf⟩ := fromL_built (places_rising (right_of ha))
  have h3 := hf.len
  change _ = runs _ at h3
  unfold cerr
  rw [if_neg (by omega), if_neg (by omega), he, if_neg (by omega)]
theorem lacks_none {a b : List Sp} (h0 : cerr a b = 0) (h : ∀ y ∈ places b, y ∈ places a) : lacks (places a) (both a b) = [] := by
  have h1 := (covers_iff h0).2 h
  unfold covers at h1
  rw [Bool.and_eq_true, decide_eq_true_iff, decide_eq_true_iff] at h1
  exact h1.2

set_option maxRecDepth 100000 in
set_option maxHeartbeats 800000 in
theorem bad (A B : Option Addr) (c d : Nat) (a b : List Sp) (w : World) (ha : IsS w A c a) (hb : IsS w B d b) (hsa : small a = true) (hsb : small b = true) (h0 : chk a ≠ 0) :
    Calls Try.prog 10 #[.slice A a.length c, .slice B b.length d] w fun e w' => e = .returned (.bool true) ∧ Below w.heap.size w w' := by
  have HS1 := Lib.hid (fun W (h : Below w.heap.size w W) => lift h h.size (small_calls A c a W (ha.below h).rd (by have := ha.len; omega)))
  have HS2 := Lib.hid (fun W (h : Below w.heap.size w W) => lift h h.size (small_calls B d b W (hb.below h).rd (by have := hb.len; omega)))
  rw [hsa] at HS1
  rw [hsb] at HS2
  have HC := Lib.hid (fun W (h : Below w.heap.size w W) => compare_calls (ha.below h) (ha.below h))
  have HK := Lib.hid (fun W (h : Below w.heap.size w W) => lift h h.size (SpanA.check_calls A c a W (ha.below h).rd (by have := ha.len; omega)))
  have HU := Lib.hid (fun W (h : Below w.heap.size w W) => union_c (ha.below h) (hb.below h))
  have HAW := Lib.hid (fun W (h : Below w.heap.size w W) => lift h h.size (awake_calls W))
  have HV := Lib.hid (fun W (h : Below w.heap.size w W) => lift h h.size (covers_calls (ha.below h) (ha.below h)))
  have hce : cerr a a = chk a := if_pos h0
  have hcv : covers a a = false := by unfold covers; rw [hce, decide_eq_false h0]; rfl
  rw [hcv] at HV
  have HCE := Lib.hid hce
  have H0 := Lib.hid h0
  have e1 : ((chk a : Int) != 0) = true := by simp; omega
  clear ha hb hsa hsb h0 hcv hce HU
  go_enter Try.func10, Try.ntmps10
  go_wp2_with (fail)
  refine (HS1.out _ (Below.refl _ _)).mono ?_
  rintro e w1 ⟨rfl, hb1⟩
  have B1 := Lib.hid hb1
  clear HS1 hb1
  go_wp2_with (fail)
  refine (HS2.out _ B1.out).mono ?_
  rintro e w2 ⟨rfl, hb2⟩
  have B2 := Lib.hid hb2
  clear HS2 hb2
  go_wp2_with (fail)
  refine (HC.out _ B2.out).mono ?_
  rintro e w3 ⟨hb3, ⟨-, rfl⟩ | ⟨h0, -⟩⟩
  · have B3 := Lib.hid (below_then B2.out B2.out.size hb3)
    rw [HCE.out]
    clear HC hb3
    go_wp2_with (fail)
    refine (HK.out _ B3.out).mono ?_
    rintro e w4 ⟨rfl, hb4⟩
    have B4 := Lib.hid hb4
    clear hb4 B3
    go_wp2_with (first
      | (go_at_call 36; refine (HV.out _ B4.out).mono ?_; rintro e w5 ⟨rfl, hb5⟩; have B5 := Lib.hid hb5; clear hb5)
      | (go_at_call 27; refine (HAW.out _ B5.out).mono ?_; rintro e w9 ⟨rfl, hb9⟩))
    go_ret
    exact ⟨rfl, hb9⟩
  · rw [HCE.out] at h0
    exact absurd h0 H0.out

set_option maxRecDepth 100000 in
set_option maxHeartbeats 1600000 in
theorem fine (A B : Option Addr) (c d : Nat) (a b : List Sp) (w : World) (ha : IsS w A c a) (hb : IsS w B d b) (hsa : small a = true) (hsb : small b = true) (h0 : chk a = 0) :
    Calls Try.prog 10 #[.slice A a.length c, .slice B b.length d] w fun e w' => e = .returned (.bool true) ∧ Below w.heap.size w w' := by
  have HS1 := Lib.hid (fun W (h : Below w.heap.size w W) => lift h h.size (small_calls A c a W (ha.below h).rd (by have := ha.len; omega)))
  have HS2 := Lib.hid (fun W (h : Below w.heap.size w W) => lift h h.size (small_calls B d b W (hb.below h).rd (by have := hb.len; omega)))
  rw [hsa] at HS1
  rw [hsb] at HS2
  have HC := Lib.hid (fun W (h : Below w.heap.size w W) => compare_calls (ha.below h) (ha.below h))
  have HK := Lib.hid (fun W (h : Below w.heap.size w W) => lift h h.size (SpanA.check_calls A c a W (ha.below h).rd (by have := ha.len; omega)))
  have HU := Lib.hid (fun W (h : Below w.heap.size w W) => union_c (ha.below h) (hb.below h))
  have HAW := Lib.hid (fun W (h : Below w.heap.size w W) => lift h h.size (awake_calls W))
  rw [h0] at HK
  have hla : a.length ≤ 1024 := (chk_zero.1 h0).1
  have hce : cerr a a = 0 := cerr_sub h0 h0 hla fun _ h => h
  have HLN := Lib.hid (lacks_none hce fun _ h => h)
  have HCE := Lib.hid hce
  have HA := Lib.hid ha
  have HB := Lib.hid hb
  have H0 := Lib.hid h0
  have HVA := Lib.hid (fun W (h : Below w.heap.size w W) => covers_calls (ha.below h) (ha.below h))
  rw [(covers_iff hce).2 fun _ h => h] at HVA
  have HVB := Lib.hid (fun W (h : Below w.heap.size w W) => covers_calls (ha.below h) (hb.below h))
  clear ha hb hsa hsb h0 hce
  go_enter Try.func10, Try.ntmps10
  go_wp2_with (fail)
  refine (HS1.out _ (Below.refl _ _)).mono ?_
  rintro e w1 ⟨rfl, hb1⟩
  have B1 := Lib.hid hb1
  clear HS1 hb1
  go_wp2_with (fail)
  refine (HS2.out _ B1.out).mono ?_
  rintro e w2 ⟨rfl, hb2⟩
  have B2 := Lib.hid hb2
  clear HS2 hb2
  go_wp2_with (fail)
  refine (HC.out _ B2.out).mono ?_
  rintro e w3 ⟨hb3, ⟨h0, -⟩ | ⟨-, f, g, rfl, hof, hog⟩⟩
  · exact absurd HCE.out h0
  rw [HLN.out] at hof hog
  obtain ⟨Af, cf, rfl, -, -, -⟩ := hof.reads
  obtain ⟨Ag, cg, rfl, -, -, -⟩ := hog.reads
  rw [List.length_nil]
  have B3 := Lib.hid (below_then B2.out B2.out.size hb3)
  clear HC hb3 hof hog HLN HCE
  go_wp2_with (fail)
  refine (HK.out _ B3.out).mono ?_
  rintro e w4 ⟨rfl, hb4⟩
  have B4 := Lib.hid hb4
  clear hb4 B3 HK
  go_wp2_with (fail)
  refine (HU.out _ B4.out).mono ?_
  rintro e w5 ⟨hb5, ⟨h0, rfl⟩ | ⟨h0, u, rfl, hou⟩⟩
  · have B5 := Lib.hid (below_then B4.out B4.out.size hb5)
    have e1 : ((cerr a b : Int) != 0) = true := by simp; omega
    clear hb5 h0
    go_wp2_with (go_at_call 27; refine (HAW.out _ B5.out).mono ?_; rintro e w9 ⟨rfl, hb9⟩)
    go_ret
    exact ⟨rfl, hb9⟩
  obtain ⟨k1, k2, k3⟩ := both_facts h0
  obtain ⟨g1, g2, g3, g4⟩ := cerr_zero h0
  have sa : ∀ y ∈ places a, y ∈ places (fromL (both a b)) := fun y hy => by rw [k2]; exact ((uni_spec _ _).2 y).2 (.inl hy)
  have sb : ∀ y ∈ places b, y ∈ places (fromL (both a b)) := fun y hy => by rw [k2]; exact ((uni_spec _ _).2 y).2 (.inr hy)
  obtain ⟨Au, cu, rfl, hcu, hAu, hru⟩ := hou.reads
  have hu : IsS w5 Au cu (fromL (both a b)) := ⟨hru, by omega, hcu, hAu⟩
  have HU1 := Lib.hid (fun W (h : Below w5.heap.size w5 W) => covers_calls (hu.below h) ((HA.out.below (below_then B4.out B4.out.size hb5)).below h))
  rw [(covers_iff (cerr_sub k1 g1 g4 sa)).2 sa] at HU1
  have HU2 := Lib.hid (fun W (h : Below w5.heap.size w5 W) => covers_calls (hu.below h) ((HB.out.below (below_then B4.out B4.out.size hb5)).below h))
  rw [(covers_iff (cerr_sub k1 g2 g4 sb)).2 sb] at HU2
  have HEQ := Lib.hid (fun W (h : Below w5.heap.size w5 W) => SpanG.equal_calls Au A cu c (fromL (both a b)) a W (hu.below h).rd ((HA.out.below (below_then B4.out B4.out.size hb5)).below h).rd (by omega) (by omega) hcu HA.out.cap hAu HA.out.nil)
  have T5 : Hid (Th w w5 w5 w5) := Lib.hid ⟨below_then B4.out B4.out.size hb5, Below.refl _ _, Below.refl _ _⟩
  cases hcv : covers a b with
  | true =>
    rw [hcv] at HVB
    have hpl : places (fromL (both a b)) = places a := by rw [k2]; exact both_sub g1 ((covers_iff h0).1 hcv)
    rw [decide_eq_true (⟨k1, g1, hpl⟩ : chk (fromL (both a b)) = 0 ∧ chk a = 0 ∧ places (fromL (both a b)) = places a)] at HEQ
    generalize fromL (both a b) = L at *
    clear h0 k1 k2 k3 g1 g2 g3 g4 sa sb hou hru hu hb5 hcv hpl HU
    go_wp2_with (fail)
    refine (HU1.out _ T5.out.y).mono ?_
    rintro e w6 ⟨rfl, hb6⟩
    have T6 := Lib.hid (T5.out.next hb6)
    clear T5 hb6 HU1
    go_wp2_with (fail)
    refine (HU2.out _ T6.out.y).mono ?_
    rintro e w7 ⟨rfl, hb7⟩
    have T7 := Lib.hid (T6.out.next hb7)
    clear T6 hb7 HU2
    go_wp2_with (fail)
    refine (HVA.out _ T7.out.x).mono ?_
    rintro e w8 ⟨rfl, hb8⟩
    have T8 := Lib.hid (T7.out.next hb8)
    clear T7 hb8 HVA
    go_wp2_with (fail)
    refine (HVB.out _ T8.out.x).mono ?_
    rintro e w9 ⟨rfl, hb9⟩
    have T9 := Lib.hid (T8.out.next hb9)
    clear T8 hb9 HVB
    go_wp2_with (first
      | (go_at_call 24; refine (HEQ.out _ T9.out.y).mono ?_; rintro e w10 ⟨rfl, hb10⟩; have T10 := Lib.hid (T9.out.next hb10); clear hb10)
      | (go_at_call 27; refine (HAW.out _ T10.out.x).mono ?_; rintro e w11 ⟨rfl, hb11⟩))
    go_ret
    exact ⟨rfl, hb11⟩
  | false =>
    rw [hcv] at HVB
    generalize fromL (both a b) = L at *
    clear h0 k1 k2 k3 g1 g2 g3 g4 sa sb hou hru hu hb5 hcv HU HEQ
    go_wp2_with (fail)
    refine (HU1.out _ T5.out.y).mono ?_
    rintro e w6 ⟨rfl, hb6⟩
    have T6 := Lib.hid (T5.out.next hb6)
    clear T5 hb6 HU1
    go_wp2_with (fail)
    refine (HU2.out _ T6.out.y).mono ?_
    rintro e w7 ⟨rfl, hb7⟩
    have T7 := Lib.hid (T6.out.next hb7)
    clear T6 hb7 HU2
    go_wp2_with (fail)
    refine (HVA.out _ T7.out.x).mono ?_
    rintro e w8 ⟨rfl, hb8⟩
    have T8 := Lib.hid (T7.out.next hb8)
    clear T7 hb8 HVA
    go_wp2_with (fail)
    refine (HVB.out _ T8.out.x).mono ?_
    rintro e w9 ⟨rfl, hb9⟩
    have T9 := Lib.hid (T8.out.next hb9)
    clear T8 hb9 HVB
    go_wp2_with (go_at_call 27; refine (HAW.out _ T9.out.x).mono ?_; rintro e w11 ⟨rfl, hb11⟩)
    go_ret
    exact ⟨rfl, hb11⟩

set_option maxRecDepth 100000 in
set_option maxHeartbeats 800000 in
theorem narrow (A B : Option Addr) (c d : Nat) (a b : List Sp) (w : World) (ra : RdSp w A a) (rb : RdSp w B b) (ma : a.length ≤ 9223372036854775807) (mb : b.length ≤ 9223372036854775807) (hs : small a = false ∨ small a = true ∧ small b = false) :
    Calls Try.prog 10 #[.slice A a.length c, .slice B b.length d] w fun e w' => e = .returned (.bool true) ∧ Below w.heap.size w w' := by
  have HS1 := Lib.hid (fun W (h : Below w.heap.size w W) => small_calls A c a W (ra.below h) ma)
  have HS2 := Lib.hid (fun W (h : Below w.heap.size w W) => lift h h.size (small_calls B d b W (rb.below h) mb))
  have HAW := Lib.hid (fun W (h : Below w.heap.size w W) => lift h h.size (awake_calls W))
  clear ra rb
  rcases hs with hs | ⟨hs, hs2⟩
  · rw [hs] at HS1
    clear hs HS2
    go_enter Try.func10, Try.ntmps10
    go_wp2_with (first
      | (go_at_call 34; refine (HS1.out _ (Below.refl _ _)).mono ?_; rintro e w1 ⟨rfl, hb1⟩; have HB1 := Lib.hid hb1; clear hb1)
      | (go_at_call 27; refine (HAW.out _ HB1.out).mono ?_; rintro e w9 ⟨rfl, hb9⟩))
    go_ret
    exact ⟨rfl, hb9⟩
  · rw [hs] at HS1
    rw [hs2] at HS2
    clear hs hs2
    go_enter Try.func10, Try.ntmps10
    go_wp2_with (fail)
    refine (HS1.out _ (Below.refl _ _)).mono ?_
    rintro e w1 ⟨rfl, hb1⟩
    have HB1 := Lib.hid hb1
    clear hb1
    go_wp2_with (first
      | (go_at_call 34; refine (HS2.out _ HB1.out).mono ?_; rintro e w2 ⟨rfl, hb2⟩; have HB2 := Lib.hid hb2; clear hb2)
      | (go_at_call 27; refine (HAW.out _ HB2.out).mono ?_; rintro e w9 ⟨rfl, hb9⟩))
    go_ret
    exact ⟨rfl, hb9⟩
theorem walk (a0 : Option Addr) (len0 cap0 : Nat) (z0 : List Sp) (a1 : Option Addr) (len1 cap1 : Nat) (z1 : List Sp) (w : World) (h0 : IsSps w a0 len0 cap0 z0) (h1 : IsSps w a1 len1 cap1 z1) :
    Calls Try.prog 10 #[.slice a0 len0 cap0, .slice a1 len1 cap1] w fun e w' => e = .returned (.bool true) ∧ Below w.heap.size w w' := by
  obtain ⟨ra, rfl, hca, hna, hma, -⟩ := h0
  obtain ⟨rb, rfl, hcb, hnb, hmb, -⟩ := h1
  unfold maxLen at hma hmb
  cases hs : small z0 with
  | false => exact narrow a0 a1 cap0 cap1 z0 z1 w ra rb (by omega) (by omega) (.inl hs)
  | true =>
    cases hs2 : small z1 with
    | false => exact narrow a0 a1 cap0 cap1 z0 z1 w ra rb (by omega) (by omega) (.inr ⟨hs, hs2⟩)
    | true =>
      have ha : IsS w a0 cap0 z0 := ⟨ra, by have := small_len hs; omega, hca, hna⟩
      have hb : IsS w a1 cap1 z1 := ⟨rb, by have := small_len hs2; omega, hcb, hnb⟩
      by_cases hw : chk z0 = 0
      · exact fine a0 a1 cap0 cap1 z0 z1 w ha hb hs hs2 hw
      · exact bad a0 a1 cap0 cap1 z0 z1 w ha hb hs hs2 hw
end Go.Proofs.Ytaenincbmlcjiaa.LaySelf
