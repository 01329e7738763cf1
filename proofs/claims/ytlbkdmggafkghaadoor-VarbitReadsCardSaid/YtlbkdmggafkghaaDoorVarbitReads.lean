/- law 04: any bits begin with a number, or not. -/
import Derived.Test.YtlbkdmggafkghaaDoorLaw04B
import Derived.Test.YtlbkdmggafkghaaDoorVarPure2
namespace Go.Proofs.YtlbkdmggafkghaaDoor.VarbitReads
open Go.RowKit Go.Proofs.YtlbkdmggafkghaaDoorW.PrintWords
open Go.Proofs.YtlbkdmggafkghaaDoor.Bits Go.Proofs.YtlbkdmggafkghaaDoor.Base Go.Proofs.YtlbkdmggafkghaaDoor.VarPure Go.Proofs.YtlbkdmggafkghaaDoor.VarbitA Go.Proofs.YtlbkdmggafkghaaDoor.VarbitB Go.Proofs.YtlbkdmggafkghaaDoor.VarbitD Go.Proofs.YtlbkdmggafkghaaDoor.StreamA Go.Proofs.YtlbkdmggafkghaaDoor.StreamR Go.Proofs.YtlbkdmggafkghaaDoor.VarKit Go.Proofs.YtlbkdmggafkghaaDoor.Ref01 Go.Proofs.YtlbkdmggafkghaaDoor.Ref04 Go.Proofs.YtlbkdmggafkghaaDoor.Law04A Go.Proofs.YtlbkdmggafkghaaDoor.Law04B Go.Proofs.YtlbkdmggafkghaaDoor.LawBase

set_option maxHeartbeats 1600000 in
theorem narrow (A : Option Addr) (c : Nat) (l : List UInt8) (n : Int) (w : World) (hT : Tab w) (hl : 40 < l.length ∨ n < 0 ∨ 8 * (l.length : Int) < n) :
    Calls Tryd.prog 4 #[.slice A l.length c, .int .i64 n] w fun e w' => e = .returned (.bool true) ∧ Below w.heap.size w w' := by
  have CAW := Lib.hid (awake_calls w hT)
  clear hT
  by_cases h1 : 40 < l.length
  · have d1 : decide ((l.length : Int) > 40) = true := by simp; omega
    have d1' : decide (40 < (l.length : Int)) = true := by simp; omega
    have d1n : decide (40 < l.length) = true := by simp; omega
    go_enter Tryd.func4, Tryd.ntmps4
    go_wp2_with (go_at_call 25; refine CAW.out.mono ?_; rintro e w1 ⟨rfl, hb⟩)
    go_ret
    exact ⟨rfl, hb⟩
  · have d1 : decide ((l.length : Int) > 40) = false := by simp; omega
    have d1' : decide (40 < (l.length : Int)) = false := by simp; omega
    have d1n : decide (40 < l.length) = false := by simp; omega
    by_cases h2 : n < 0
    · have d2 : decide (n < 0) = true := by simp; omega
      go_enter Tryd.func4, Tryd.ntmps4
      go_wp2_with (go_at_call 25; refine CAW.out.mono ?_; rintro e w1 ⟨rfl, hb⟩)
      go_ret
      exact ⟨rfl, hb⟩
    · have d2 : decide (n < 0) = false := by simp; omega
      have d3 : decide (n > 8 * (l.length : Int)) = true := by simp; omega
      have d3' : decide (8 * (l.length : Int) < n) = true := by simp; omega
      go_enter Tryd.func4, Tryd.ntmps4
      go_wp2_with (go_at_call 25; refine CAW.out.mono ?_; rintro e w1 ⟨rfl, hb⟩)
      go_ret
      exact ⟨rfl, hb⟩

set_option maxRecDepth 4000 in
set_option maxHeartbeats 3200000 in
theorem core (A : Option Addr) (c n : Nat) (l : List UInt8) (w : World) (hT : Tab w) (hr : RdB w A l) (hl : l.length ≤ 40) (hc : l.length ≤ c) (hA : A = none → c = 0) (hn : n ≤ 8 * l.length) :
    Calls Tryd.prog 4 #[.slice A l.length c, .int .i64 n] w fun e w' => e = .returned (.bool true) ∧ Below w.heap.size w w' := by
  have HT := Lib.hid hT
  have hq : ((bts l).take n).length = n := by rw [List.length_take, bts_length]; omega
  have HTE := Lib.hid (text_calls (str l) n w (by rw [str_size]; omega) (by rw [str_size]; omega))
  rw [show (str l).data.toList = l from by simp [str]] at HTE
  have HR1 := Lib.hid (newReader_calls A c n l w hr (by omega) hc hA hn)
  have HR2 := Lib.hid (fun W (hb : Below w.heap.size w W) => newReader_calls A c n l W (hr.below hb) (by omega) hc hA hn)
  have hcv := RdB.string (P := Tryd.prog) (src := 37) (dst := 9) (e := 5) (c := c) hr rfl Tryd.underlying37 Tryd.underlying5 Tryd.underlying9
  obtain ⟨s, hs⟩ : ∃ s, s = str l := ⟨_, rfl⟩
  rw [← hs] at hcv HTE
  have d1 : decide ((l.length : Int) > 40) = false := by simp; omega
  have d1' : decide (40 < (l.length : Int)) = false := by simp; omega
  have d1n : decide (40 < l.length) = false := by simp; omega
  have d2 : decide ((n : Int) < 0) = false := by simp
  have d3 : decide ((n : Int) > 8 * (l.length : Int)) = false := by simp; omega
  have d3' : decide (8 * (l.length : Int) < (n : Int)) = false := by simp; omega
  obtain ⟨q, hqq⟩ : ∃ q, q = (bts l).take n := ⟨_, rfl⟩
  rw [← hqq] at HTE HR1 HR2 hq
  have hq320 : q.length ≤ 320 := by omega
  clear hT hr hA hs hqq hq
  go_enter Tryd.func4, Tryd.ntmps4
  go_wp2_with (go_at_call 26; refine HTE.out.mono ?_; rintro e w' ⟨rfl, rfl⟩)
  refine HR1.out.mono ?_
  rintro e w1 ⟨g1, S1, rfl, hr1, hS1, hb1⟩
  have HRR1 := Lib.hid hr1
  have HS1 := Lib.hid hS1
  have HB1 := Lib.hid hb1
  clear hr1 hS1 hb1 HR1 hcv HTE
  go_wp2_with (fail)
  refine (HR2.out _ HB1.out).mono ?_
  rintro e w2 ⟨g2, S2, rfl, hr2, hS2, hb2⟩
  have HRR2 := Lib.hid hr2
  have HS2 := Lib.hid hS2
  have HB2 := Lib.hid (below_then HB1.out HB1.out.size hb2)
  have HX := Lib.hid (fun k h1 (h2 : S2 k) => by have := HRR1.out.old k h1; have := hS2 k h2; omega : ∀ k, S1 k → ¬ S2 k)
  have hT2 := HT.out.below HB2.out
  have HNG2 := Lib.hid (fun h => by have := hS2 _ h; have := (HT.out.below HB1.out).lt; omega : ¬ S2 0)
  have HNG1 := Lib.hid (not_old HT.out HS1.out)
  have HG := Lib.hid (getS_calls g1 0 S1 q w2 hT2 HNG1.out (HRR1.out.below hb2))
  have HS2' := Lib.hid (fun k (h : S2 k) => Nat.le_trans HB1.out.size (hS2 k h) : ∀ k, S2 k → w.heap.size ≤ k)
  have HT2 := Lib.hid hT2
  clear hr2 hS2 hb2 HR2 hT2 HRR1 HS2
  go_wp2_with (fail)
  refine HG.out.mono ?_
  rintro e w3 ⟨hc3, hcase3⟩
  have HB3 := Lib.hid (ch_new HB2.out HB2.out.size HS1.out hc3)
  have HT3 := Lib.hid (HT2.out.ch hc3 HNG1.out)
  have HG2 := Lib.hid (getU_calls g2 0 S2 q w3 HT3.out HNG2.out (HRR2.out.ch hc3 fun k h2 h1 => HX.out k h1 h2))
  have HC3 := Lib.hid hcase3
  clear hc3 hcase3
  have : ∃ v gE, e = .returned (.tuple #[.int .i64 v, .int .i64 gE]) ∧ Hid ((parse q = none ∧ v = 0 ∧ gE = 16) ∨
      ∃ k x t, parse q = some (k, x, t) ∧ Rr w3 g1 S1 (0 + front k + behind k) t false ∧ ((okS k x = true ∧ v = sgd (val x) (behind k) ∧ gE = 0) ∨ (okS k x = false ∧ v = 0 ∧ gE = 10))) := by
    rcases HC3.out with ⟨hp, he, -⟩ | ⟨k, x, t, hp, he, hr⟩
    · exact ⟨0, 16, he, .inl ⟨hp, rfl, rfl⟩⟩
    · cases ho : okS k x with
      | true => simp only [ho, if_true] at he; exact ⟨_, _, he, .inr ⟨k, x, t, hp, hr, .inl ⟨ho, rfl, rfl⟩⟩⟩
      | false => simp only [ho] at he; exact ⟨_, _, he, .inr ⟨k, x, t, hp, hr, .inr ⟨ho, rfl, rfl⟩⟩⟩
  obtain ⟨v, gE, rfl, HV⟩ := this
  clear HC3
  go_wp2_with (fail)
  refine HG2.out.mono ?_
  rintro e w4 ⟨hc4, hcase4⟩
  have HC4 := Lib.hid hcase4
  have : ∃ u : Nat, ∃ hE : Int, e = .returned (.tuple #[.int .u64 u, .int .i64 hE]) ∧ Hid ((parse q = none ∧ u = 0 ∧ hE = 16) ∨
      ∃ k x t, parse q = some (k, x, t) ∧ Rr w4 g2 S2 (0 + front k + behind k) t false ∧ ((okU k x = true ∧ u = val x ∧ hE = 0) ∨ (okU k x = false ∧ u = 0 ∧ hE = 10))) := by
    rcases HC4.out with ⟨hp, he, -⟩ | ⟨k, x, t, hp, he, hr⟩
    · exact ⟨0, 16, he, .inl ⟨hp, rfl, rfl⟩⟩
    · cases ho : okU k x with
      | true => simp only [ho, if_true] at he; exact ⟨_, _, he, .inr ⟨k, x, t, hp, hr, .inl ⟨ho, rfl, rfl⟩⟩⟩
      | false => simp only [ho] at he; exact ⟨0, _, he, .inr ⟨k, x, t, hp, hr, .inr ⟨ho, rfl, rfl⟩⟩⟩
  obtain ⟨u, hE, rfl, HU⟩ := this
  have HB4 := Lib.hid (ch_new HB3.out HB3.out.size HS2'.out hc4)
  have HT4 := Lib.hid (HT3.out.ch hc4 HNG2.out)
  have HCH4 := Lib.hid hc4
  have HPA := Lib.hid (Parse_calls q w4 (by omega))
  clear hc4 hcase4 HC4 HG HG2
  go_wp2_with (fail)
  refine HPA.out.mono ?_
  rintro e w5 ⟨hb5, hcase5⟩
  have HB5' := Lib.hid hb5
  have HB5 := Lib.hid (below_then HB4.out HB4.out.size hb5)
  have CAW := Lib.hid (fun W (h : Below w.heap.size w W) => lift h h.size (awake_calls W (HT.out.below h)))
  clear hb5
  rcases hcase5 with ⟨hp, rfl⟩ | ⟨k, x, t, hp, rfl⟩
  · have hv : v = 0 ∧ gE = 16 := by
      rcases HV.out with ⟨-, h1, h2⟩ | ⟨k, x, t, hp2, -⟩
      · exact ⟨h1, h2⟩
      · rw [hp] at hp2; cases hp2
    have hu : u = 0 ∧ hE = 16 := by
      rcases HU.out with ⟨-, h1, h2⟩ | ⟨k, x, t, hp2, -⟩
      · exact ⟨h1, h2⟩
      · rw [hp] at hp2; cases hp2
    obtain ⟨rfl, rfl⟩ := hv
    obtain ⟨rfl, rfl⟩ := hu
    clear hp
    go_wp2_with (go_at_call 25; refine (CAW.out _ HB5.out).mono ?_; rintro e w6 ⟨rfl, hb6⟩)
    go_ret
    exact ⟨rfl, hb6⟩
  · obtain ⟨hk, hqe, hx⟩ := parse_some hp
    have hen := enc_parse hp
    have hU : front k + behind k ≤ q.length := by
      have := congrArg List.length hen
      rw [List.length_take, enc_length] at this
      omega
    have hhr1 : Rr w3 g1 S1 (front k + behind k) t false ∧ ((okS k x = true ∧ v = sgd (val x) (behind k) ∧ gE = 0) ∨ (okS k x = false ∧ v = 0 ∧ gE = 10)) := by
      rcases HV.out with ⟨hp2, -⟩ | ⟨k2, x2, t2, hp2, h1, h2⟩
      · rw [hp] at hp2; cases hp2
      · rw [hp] at hp2
        injection hp2 with hp2
        injection hp2 with ha hb
        injection hb with hb hd
        subst ha hb hd
        rw [Nat.zero_add] at h1
        exact ⟨h1, h2⟩
    have hhr2 : Rr w4 g2 S2 (front k + behind k) t false ∧ ((okU k x = true ∧ u = val x ∧ hE = 0) ∨ (okU k x = false ∧ u = 0 ∧ hE = 10)) := by
      rcases HU.out with ⟨hp2, -⟩ | ⟨k2, x2, t2, hp2, h1, h2⟩
      · rw [hp] at hp2; cases hp2
      · rw [hp] at hp2
        injection hp2 with hp2
        injection hp2 with ha hb
        injection hb with hb hd
        subst ha hb hd
        rw [Nat.zero_add] at h1
        exact ⟨h1, h2⟩
    obtain ⟨hr1, hv⟩ := hhr1
    obtain ⟨hr2, hu⟩ := hhr2
    have hvx : val x < 2 ^ behind k := by rw [← hx]; exact val_lt x
    have hv64 : val x < 18446744073709551616 := Nat.lt_of_lt_of_le hvx (Nat.pow_le_pow_right (by decide) behind_le)
    have hsr := sgd_range _ _ hk hvx
    have hr1' : Rr w4 g1 S1 (front k + behind k) t false := hr1.ch HCH4.out HX.out
    have hb55 := Below.refl w4.heap.size w4
    have hb5 : Below w4.heap.size w4 w5 := HB5'.out
    have CP1 := Lib.hid (fun W (h : Below w4.heap.size w4 W) => pos_calls g1 _ S1 t false W (hr1'.below h))
    have CP2 := Lib.hid (fun W (h : Below w4.heap.size w4 W) => pos_calls g2 _ S2 t false W (hr2.below h))
    have CAW := Lib.hid (fun W (h : Below w4.heap.size w4 W) => lift h h.size (awake_calls W (HT4.out.below h)))
    have CSH := Lib.hid (fun W (h : Below w4.heap.size w4 W) => lift h h.size (shorter_calls k x (front k + behind k) W hk hx))
    have CV := Lib.hid (fun W => value_calls x W (by rw [hx]; exact behind_le))
    have CU := Lib.hid (fun W (h : Below w4.heap.size w4 W) => lift h h.size (U_calls (val x) W hv64))
    have CS := Lib.hid (fun W (h : Below w4.heap.size w4 W) => lift h h.size (S_calls (sgd (val x) (behind k)) W hsr.1 hsr.2))
    have hEx : (txt q).extract 0 (front k + behind k) = txt (enc k (val x)) := by rw [extract_txt, List.drop_zero, Nat.sub_zero, hen]
    have hcut : ∀ W, (Instr.slice 9 (.string (txt q)) none (some (.int .i64 (front k + behind k : Nat))) none).run Tryd.prog W = .ok (.string (txt (enc k (val x)))) W := by
      intro W
      rw [run_slice_string_h W 9 (txt q) Tryd.underlying9 .i64 _ (Int.natCast_nonneg _) (by rw [txt_size]; omega)]
      rw [Int.toNat_natCast, hEx]
    have hcu : okU k x = true → txt (encU (val x)) = txt (enc k (val x)) := fun h => by rw [encU, show gU (val x) = k from of_decide_eq_true h]
    have hcs : okS k x = true → txt (encS (sgd (val x) (behind k))) = txt (enc k (val x)) := fun h => by rw [encS_sgd hk hx (of_decide_eq_true h)]
    have hcn : okU k x = false → ((txt (encU (val x))).toList == (txt (enc k (val x))).toList) = false := fun h => by
      rw [beq_str, decide_eq_false]
      intro he
      have := of_decide_eq_false h
      exact this (enc_inj (gU_lt _) hk (txt_inj he))
    have hsh : okS k x = false → decide ((encS (sgd (val x) (behind k))).length < front k + behind k) = true := fun h => by
      have h1 := gS_le_of_fits (by omega) (sgd_fits hk hvx)
      have h2 : gS (sgd (val x) (behind k)) ≠ k := of_decide_eq_false h
      rw [encS_length]
      exact decide_eq_true (size_lt (by omega) hk)
    obtain ⟨sq, hsq⟩ : ∃ z, z = txt q := ⟨_, rfl⟩
    obtain ⟨sE, hsE⟩ : ∃ z, z = txt (enc k (val x)) := ⟨_, rfl⟩
    obtain ⟨sU, hsU⟩ : ∃ z, z = txt (encU (val x)) := ⟨_, rfl⟩
    obtain ⟨sS, hsS⟩ : ∃ z, z = txt (encS (sgd (val x) (behind k))) := ⟨_, rfl⟩
    obtain ⟨sx, hsx⟩ : ∃ z, z = txt x := ⟨_, rfl⟩
    obtain ⟨vs, hvs⟩ : ∃ z, z = sgd (val x) (behind k) := ⟨_, rfl⟩
    obtain ⟨m, hm⟩ : ∃ z, z = front k + behind k := ⟨_, rfl⟩
    obtain ⟨vx, hvx2⟩ : ∃ z, z = val x := ⟨_, rfl⟩
    obtain ⟨sb, hsb⟩ : ∃ z, z = decide ((encS (sgd (val x) (behind k))).length < front k + behind k) := ⟨_, rfl⟩
    rw [← hsb] at hsh CSH
    rw [← hsS] at hcs CS
    rw [← hvs] at hv CS
    rw [← hsU] at hcu hcn CU
    rw [← hsE] at hcut hcu hcn hcs
    rw [← hvx2] at CU CV hu hv64
    rw [← hm] at hcut hU CP1 CP2 CSH ⊢
    rw [← hsq] at hcut ⊢
    rw [← hsx] at CSH CV ⊢
    clear hsq hsE hsU hsS hsx hvs hm hvx2 hsb hp hqe hx hen hr1 hr2 hvx hsr hr1' hEx
    rcases hu with ⟨hoU, rfl, rfl⟩ | ⟨hoU, rfl, rfl⟩
    · have e1 := hcu hoU
      subst e1
      clear hoU hcu hcn
      rcases hv with ⟨hoS, rfl, rfl⟩ | ⟨hoS, rfl, rfl⟩
      · have e2 := hcs hoS
        subst e2
        clear hoS hcs hsh
        go_wp2_with (fail)
        go_region_held3 (fun W => Below w4.heap.size w4 W)
          (first | exact below_drew (by assumption) | assumption)
          (first
          | (go_at_call 16; refine (CU.out _ (by assumption)).mono ?_; rintro e w6 ⟨rfl, hb6⟩)
          | (go_at_call 15; refine (CS.out _ (by assumption)).mono ?_; rintro e w6 ⟨rfl, hb7⟩)
          | (go_at_call 29; refine (CV.out _).mono ?_; rintro e w6 ⟨rfl, rfl⟩)
          | (go_at_call 28; first | (refine (CP2.out _ (by assumption)).mono ?_; rintro e w6 ⟨rfl, rfl⟩) | (refine (CP1.out _ (by assumption)).mono ?_; rintro e w6 ⟨rfl, rfl⟩))
          | (go_at_call 30; refine (CSH.out _ (by assumption)).mono ?_; rintro e w6 ⟨rfl, hb8⟩)
          | (go_at_call 25; refine (CAW.out _ (by assumption)).mono ?_; rintro e w6 ⟨rfl, hb9⟩))
        all_goals go_wp2_with (first
          | (go_at_call 16; refine (CU.out _ (by assumption)).mono ?_; rintro e w6 ⟨rfl, hb6⟩)
          | (go_at_call 15; refine (CS.out _ (by assumption)).mono ?_; rintro e w6 ⟨rfl, hb7⟩)
          | (go_at_call 29; refine (CV.out _).mono ?_; rintro e w6 ⟨rfl, rfl⟩)
          | (go_at_call 28; first | (refine (CP2.out _ (by assumption)).mono ?_; rintro e w6 ⟨rfl, rfl⟩) | (refine (CP1.out _ (by assumption)).mono ?_; rintro e w6 ⟨rfl, rfl⟩))
          | (go_at_call 30; refine (CSH.out _ (by assumption)).mono ?_; rintro e w6 ⟨rfl, hb8⟩)
          | (go_at_call 25; refine (CAW.out _ (by assumption)).mono ?_; rintro e w6 ⟨rfl, hb9⟩))
        all_goals (go_region_held3 (fun W => Below w4.heap.size w4 W)
          (first | exact below_drew (by assumption) | assumption)
          (first
          | (go_at_call 16; refine (CU.out _ (by assumption)).mono ?_; rintro e w6 ⟨rfl, hb6⟩)
          | (go_at_call 15; refine (CS.out _ (by assumption)).mono ?_; rintro e w6 ⟨rfl, hb7⟩)
          | (go_at_call 29; refine (CV.out _).mono ?_; rintro e w6 ⟨rfl, rfl⟩)
          | (go_at_call 28; first | (refine (CP2.out _ (by assumption)).mono ?_; rintro e w6 ⟨rfl, rfl⟩) | (refine (CP1.out _ (by assumption)).mono ?_; rintro e w6 ⟨rfl, rfl⟩))
          | (go_at_call 30; refine (CSH.out _ (by assumption)).mono ?_; rintro e w6 ⟨rfl, hb8⟩)
          | (go_at_call 25; refine (CAW.out _ (by assumption)).mono ?_; rintro e w6 ⟨rfl, hb9⟩)))
        all_goals go_wp2_with (first
          | (go_at_call 16; refine (CU.out _ (by assumption)).mono ?_; rintro e w6 ⟨rfl, hb6⟩)
          | (go_at_call 15; refine (CS.out _ (by assumption)).mono ?_; rintro e w6 ⟨rfl, hb7⟩)
          | (go_at_call 29; refine (CV.out _).mono ?_; rintro e w6 ⟨rfl, rfl⟩)
          | (go_at_call 28; first | (refine (CP2.out _ (by assumption)).mono ?_; rintro e w6 ⟨rfl, rfl⟩) | (refine (CP1.out _ (by assumption)).mono ?_; rintro e w6 ⟨rfl, rfl⟩))
          | (go_at_call 30; refine (CSH.out _ (by assumption)).mono ?_; rintro e w6 ⟨rfl, hb8⟩)
          | (go_at_call 25; refine (CAW.out _ (by assumption)).mono ?_; rintro e w6 ⟨rfl, hb9⟩))
        all_goals
          go_ret
          exact ⟨rfl, below_then HB4.out HB4.out.size (by assumption)⟩
      · obtain rfl := hsh hoS
        clear hoS hcs hsh
        go_wp2_with (fail)
        go_region_held3 (fun W => Below w4.heap.size w4 W)
          (first | exact below_drew (by assumption) | assumption)
          (first
          | (go_at_call 16; refine (CU.out _ (by assumption)).mono ?_; rintro e w6 ⟨rfl, hb6⟩)
          | (go_at_call 15; refine (CS.out _ (by assumption)).mono ?_; rintro e w6 ⟨rfl, hb7⟩)
          | (go_at_call 29; refine (CV.out _).mono ?_; rintro e w6 ⟨rfl, rfl⟩)
          | (go_at_call 28; first | (refine (CP2.out _ (by assumption)).mono ?_; rintro e w6 ⟨rfl, rfl⟩) | (refine (CP1.out _ (by assumption)).mono ?_; rintro e w6 ⟨rfl, rfl⟩))
          | (go_at_call 30; refine (CSH.out _ (by assumption)).mono ?_; rintro e w6 ⟨rfl, hb8⟩)
          | (go_at_call 25; refine (CAW.out _ (by assumption)).mono ?_; rintro e w6 ⟨rfl, hb9⟩))
        all_goals go_wp2_with (first
          | (go_at_call 16; refine (CU.out _ (by assumption)).mono ?_; rintro e w6 ⟨rfl, hb6⟩)
          | (go_at_call 15; refine (CS.out _ (by assumption)).mono ?_; rintro e w6 ⟨rfl, hb7⟩)
          | (go_at_call 29; refine (CV.out _).mono ?_; rintro e w6 ⟨rfl, rfl⟩)
          | (go_at_call 28; first | (refine (CP2.out _ (by assumption)).mono ?_; rintro e w6 ⟨rfl, rfl⟩) | (refine (CP1.out _ (by assumption)).mono ?_; rintro e w6 ⟨rfl, rfl⟩))
          | (go_at_call 30; refine (CSH.out _ (by assumption)).mono ?_; rintro e w6 ⟨rfl, hb8⟩)
          | (go_at_call 25; refine (CAW.out _ (by assumption)).mono ?_; rintro e w6 ⟨rfl, hb9⟩))
        all_goals
          go_ret
          exact ⟨rfl, below_then HB4.out HB4.out.size (by assumption)⟩
    · have e1 := hcn hoU
      clear hoU hcu hcn
      rcases hv with ⟨hoS, rfl, rfl⟩ | ⟨hoS, rfl, rfl⟩
      · have e2 := hcs hoS
        subst e2
        clear hoS hcs hsh
        go_wp2_with (fail)
        go_region_held3 (fun W => Below w4.heap.size w4 W)
          (first | exact below_drew (by assumption) | assumption)
          (first
          | (go_at_call 16; refine (CU.out _ (by assumption)).mono ?_; rintro e w6 ⟨rfl, hb6⟩)
          | (go_at_call 15; refine (CS.out _ (by assumption)).mono ?_; rintro e w6 ⟨rfl, hb7⟩)
          | (go_at_call 29; refine (CV.out _).mono ?_; rintro e w6 ⟨rfl, rfl⟩)
          | (go_at_call 28; first | (refine (CP2.out _ (by assumption)).mono ?_; rintro e w6 ⟨rfl, rfl⟩) | (refine (CP1.out _ (by assumption)).mono ?_; rintro e w6 ⟨rfl, rfl⟩))
          | (go_at_call 30; refine (CSH.out _ (by assumption)).mono ?_; rintro e w6 ⟨rfl, hb8⟩)
          | (go_at_call 25; refine (CAW.out _ (by assumption)).mono ?_; rintro e w6 ⟨rfl, hb9⟩))
        all_goals go_wp2_with (first
          | (go_at_call 16; refine (CU.out _ (by assumption)).mono ?_; rintro e w6 ⟨rfl, hb6⟩)
          | (go_at_call 15; refine (CS.out _ (by assumption)).mono ?_; rintro e w6 ⟨rfl, hb7⟩)
          | (go_at_call 29; refine (CV.out _).mono ?_; rintro e w6 ⟨rfl, rfl⟩)
          | (go_at_call 28; first | (refine (CP2.out _ (by assumption)).mono ?_; rintro e w6 ⟨rfl, rfl⟩) | (refine (CP1.out _ (by assumption)).mono ?_; rintro e w6 ⟨rfl, rfl⟩))
          | (go_at_call 30; refine (CSH.out _ (by assumption)).mono ?_; rintro e w6 ⟨rfl, hb8⟩)
          | (go_at_call 25; refine (CAW.out _ (by assumption)).mono ?_; rintro e w6 ⟨rfl, hb9⟩))
        all_goals (go_region_held3 (fun W => Below w4.heap.size w4 W)
          (first | exact below_drew (by assumption) | assumption)
          (first
          | (go_at_call 16; refine (CU.out _ (by assumption)).mono ?_; rintro e w6 ⟨rfl, hb6⟩)
          | (go_at_call 15; refine (CS.out _ (by assumption)).mono ?_; rintro e w6 ⟨rfl, hb7⟩)
          | (go_at_call 29; refine (CV.out _).mono ?_; rintro e w6 ⟨rfl, rfl⟩)
          | (go_at_call 28; first | (refine (CP2.out _ (by assumption)).mono ?_; rintro e w6 ⟨rfl, rfl⟩) | (refine (CP1.out _ (by assumption)).mono ?_; rintro e w6 ⟨rfl, rfl⟩))
          | (go_at_call 30; refine (CSH.out _ (by assumption)).mono ?_; rintro e w6 ⟨rfl, hb8⟩)
          | (go_at_call 25; refine (CAW.out _ (by assumption)).mono ?_; rintro e w6 ⟨rfl, hb9⟩)))
        all_goals go_wp2_with (first
          | (go_at_call 16; refine (CU.out _ (by assumption)).mono ?_; rintro e w6 ⟨rfl, hb6⟩)
          | (go_at_call 15; refine (CS.out _ (by assumption)).mono ?_; rintro e w6 ⟨rfl, hb7⟩)
          | (go_at_call 29; refine (CV.out _).mono ?_; rintro e w6 ⟨rfl, rfl⟩)
          | (go_at_call 28; first | (refine (CP2.out _ (by assumption)).mono ?_; rintro e w6 ⟨rfl, rfl⟩) | (refine (CP1.out _ (by assumption)).mono ?_; rintro e w6 ⟨rfl, rfl⟩))
          | (go_at_call 30; refine (CSH.out _ (by assumption)).mono ?_; rintro e w6 ⟨rfl, hb8⟩)
          | (go_at_call 25; refine (CAW.out _ (by assumption)).mono ?_; rintro e w6 ⟨rfl, hb9⟩))
        all_goals
          go_ret
          exact ⟨rfl, below_then HB4.out HB4.out.size (by assumption)⟩
      · obtain rfl := hsh hoS
        clear hoS hcs hsh
        go_wp2_with (fail)
        go_region_held3 (fun W => Below w4.heap.size w4 W)
          (first | exact below_drew (by assumption) | assumption)
          (first
          | (go_at_call 16; refine (CU.out _ (by assumption)).mono ?_; rintro e w6 ⟨rfl, hb6⟩)
          | (go_at_call 15; refine (CS.out _ (by assumption)).mono ?_; rintro e w6 ⟨rfl, hb7⟩)
          | (go_at_call 29; refine (CV.out _).mono ?_; rintro e w6 ⟨rfl, rfl⟩)
          | (go_at_call 28; first | (refine (CP2.out _ (by assumption)).mono ?_; rintro e w6 ⟨rfl, rfl⟩) | (refine (CP1.out _ (by assumption)).mono ?_; rintro e w6 ⟨rfl, rfl⟩))
          | (go_at_call 30; refine (CSH.out _ (by assumption)).mono ?_; rintro e w6 ⟨rfl, hb8⟩)
          | (go_at_call 25; refine (CAW.out _ (by assumption)).mono ?_; rintro e w6 ⟨rfl, hb9⟩))
        all_goals go_wp2_with (first
          | (go_at_call 16; refine (CU.out _ (by assumption)).mono ?_; rintro e w6 ⟨rfl, hb6⟩)
          | (go_at_call 15; refine (CS.out _ (by assumption)).mono ?_; rintro e w6 ⟨rfl, hb7⟩)
          | (go_at_call 29; refine (CV.out _).mono ?_; rintro e w6 ⟨rfl, rfl⟩)
          | (go_at_call 28; first | (refine (CP2.out _ (by assumption)).mono ?_; rintro e w6 ⟨rfl, rfl⟩) | (refine (CP1.out _ (by assumption)).mono ?_; rintro e w6 ⟨rfl, rfl⟩))
          | (go_at_call 30; refine (CSH.out _ (by assumption)).mono ?_; rintro e w6 ⟨rfl, hb8⟩)
          | (go_at_call 25; refine (CAW.out _ (by assumption)).mono ?_; rintro e w6 ⟨rfl, hb9⟩))
        all_goals
          go_ret
          exact ⟨rfl, below_then HB4.out HB4.out.size (by assumption)⟩

theorem walk (a0 : Option Addr) (len0 cap0 : Nat) (z0 : List Int) (n : Int) (w : World) (h0 : IsRow .u8 w a0 len0 cap0 z0) (h1 : (Lit.int .i64 n).wf = true)
    (hL : laidMetH Tryd.prog [("tidepole/varbit.behinds", Rows.laid_tidepole_varbit_behinds)] w) :
    Calls Tryd.prog 4 #[.slice a0 len0 cap0, .int .i64 n] w fun e w' => e = .returned (.bool true) ∧ Below w.heap.size w w' := by
  obtain ⟨l, rfl, hl, hc, hA⟩ := h0.bytes
  have hT := tab_of hL
  by_cases hin : 40 < l.length ∨ n < 0 ∨ 8 * (l.length : Int) < n
  · exact narrow a0 cap0 l n w hT hin
  · obtain ⟨k, rfl⟩ : ∃ k : Nat, n = k := ⟨n.toNat, by omega⟩
    exact core a0 cap0 k l w hT hl (by omega) hc hA (by omega)
end Go.Proofs.YtlbkdmggafkghaaDoor.VarbitReads
