/- the reference of layer 14: what is wrong with spans, with a head. -/
import Derived.Test.YtjfekjbmgckkcaaGreatDoorRef06K
import Derived.Test.YtjfekjbmgckkcaaGreatDoorRef12
import Derived.Test.YtjfekjbmgckkcaaGreatDoorHeadB
namespace Go.Proofs.YtjfekjbmgckkcaaGreatDoor.Ref14A
open Go.RowKit Go.Proofs.YtjfekjbmgckkcaaGreatDoorW.PrintWords
open Go.Proofs.YtjfekjbmgckkcaaGreatDoor.Bits Go.Proofs.YtjfekjbmgckkcaaGreatDoor.Base Go.Proofs.YtjfekjbmgckkcaaGreatDoor.StreamA Go.Proofs.YtjfekjbmgckkcaaGreatDoor.SpanPure Go.Proofs.YtjfekjbmgckkcaaGreatDoor.SpanBase Go.Proofs.YtjfekjbmgckkcaaGreatDoor.ThrPure Go.Proofs.YtjfekjbmgckkcaaGreatDoor.HeadA Go.Proofs.YtjfekjbmgckkcaaGreatDoor.HeadB Go.Proofs.YtjfekjbmgckkcaaGreatDoor.Ref12

set_option maxHeartbeats 1600000 in
theorem Sides_calls (A : Option Addr) (c : Nat) (l : List Sp) (w : World) (hr : RdSp w A l) (hm : l.length ≤ 1000000000) :
    Calls Tryz.prog 77 #[.slice A l.length c] w fun e w' => e = .returned (.int .i64 (sidesE l)) ∧ Below w.heap.size w w' := by
  have HR := Lib.hid hr
  have HC := Lib.hid (Ref06K.check_calls A c l w hr hm)
  clear hr
  by_cases h0 : ¬ chk l = 0
  · have HE : Hid (sidesE l = chk l) := Lib.hid (if_pos h0)
    obtain ⟨k, hk⟩ : ∃ k, k = chk l := ⟨_, rfl⟩
    rw [← hk] at HC HE h0
    have e1 : ((k : Int) != 0) = true := by simp; omega
    clear h0 hk
    go_enter Tryz.func77, Tryz.ntmps77
    go_wp2_with (fail)
    refine HC.out.mono ?_
    rintro e w1 ⟨rfl, hb1⟩
    have B1 := Lib.hid hb1
    clear hb1
    go_wp2
    go_ret
    exact ⟨by rw [HE.out]; rfl, B1.out⟩
  have h0 := Decidable.not_not.1 h0
  rw [h0] at HC
  have HE : Hid (sidesE l = if canonF true l then 0 else 23) := Lib.hid (by unfold sidesE; rw [if_neg (by omega), canonical, h0]; simp)
  clear h0
  go_enter Tryz.func77, Tryz.ntmps77
  go_wp2_with (fail)
  refine HC.out.mono ?_
  rintro e w1 ⟨rfl, hb1⟩
  have B1 := Lib.hid hb1
  have HR1 := Lib.hid (HR.out.below hb1)
  clear hb1 HC
  go_wp2
  go_loop [4] (fun i => ∃ (k : Nat), k ≤ l.length ∧ i = .int .i64 k ∧ Hid (canonF true l = canonF (decide (k = 0)) (l.drop k))) (fun i => l.length - (intOf i).toNat)
  case atStart => exact ⟨0, by omega, rfl, Lib.hid rfl⟩
  case round =>
    obtain ⟨k, hk, rfl, hd⟩ := hrel
    by_cases hlt : k < l.length
    · obtain ⟨ad, hA, c0, c1⟩ := HR1.out.at_ k hlt
      subst hA
      have HD := Lib.hid (show l.drop k = l[k] :: l.drop (k + 1) from List.drop_eq_getElem_cons hlt)
      obtain ⟨s, hs⟩ : ∃ s, s = l[k] := ⟨_, rfl⟩
      rw [← hs] at c0 c1 HD
      obtain ⟨o, q⟩ := s
      simp only at c0 c1
      have HX : Hid (canonF (decide (k = 0)) ((o, q) :: l.drop (k + 1)) = (decide (q ≠ 0 ∧ (0 < k → o ≠ 0)) && canonF (decide (k + 1 = 0)) (l.drop (k + 1)))) := Lib.hid (by
        rw [canonF, decide_eq_false (Nat.succ_ne_zero k)]
        congr 1
        rw [Bool.eq_iff_iff, Bool.and_eq_true, Bool.or_eq_true, decide_eq_true_iff, decide_eq_true_iff, decide_eq_true_iff, decide_eq_true_iff]
        simp only
        omega)
      clear hs
      by_cases h1 : q = 0
      · have e1 : (q == 0) = true := by simpa using h1
        have HF : Hid (canonF true l = false) := Lib.hid (by rw [hd.out, HD.out, HX.out, decide_eq_false (by omega)]; rfl)
        clear h1
        go_wp2
        go_ret
        exact ⟨by rw [HE.out, HF.out]; rfl, B1.out⟩
      · have e1 : (q == 0) = false := by simpa using h1
        by_cases h2 : 0 < k
        · have e2 : decide ((k : Int) > 0) = true := by simp; omega
          have e2' : decide (0 < (k : Int)) = true := by simp; omega
          have e2n : decide (0 < k) = true := by simp; omega
          by_cases h3 : o = 0
          · have e3 : (o == 0) = true := by simpa using h3
            have HF : Hid (canonF true l = false) := Lib.hid (by rw [hd.out, HD.out, HX.out, decide_eq_false (by omega)]; rfl)
            clear h1 h3
            go_wp2
            go_ret
            exact ⟨by rw [HE.out, HF.out]; rfl, B1.out⟩
          · have e3 : (o == 0) = false := by simpa using h3
            have HF : Hid (canonF true l = canonF (decide (k + 1 = 0)) (l.drop (k + 1))) := Lib.hid (by rw [hd.out, HD.out, HX.out, decide_eq_true (by omega)]; rfl)
            clear h1 h3
            go_wp2
            go_round
            case rel => exact ⟨k + 1, by omega, by go_num, HF⟩
            case measure => simp [intOf]; omega
        · have e2 : decide ((k : Int) > 0) = false := by simp; omega
          have e2' : decide (0 < (k : Int)) = false := by simp; omega
          have e2n : decide (0 < k) = false := by simp; omega
          have HF : Hid (canonF true l = canonF (decide (k + 1 = 0)) (l.drop (k + 1))) := Lib.hid (by rw [hd.out, HD.out, HX.out, decide_eq_true (by omega)]; rfl)
          clear h1
          go_wp2
          go_round
          case rel => exact ⟨k + 1, by omega, by go_num, HF⟩
          case measure => simp [intOf]; omega
    · obtain rfl : k = l.length := by omega
      have HF : Hid (canonF true l = true) := Lib.hid (by rw [hd.out, List.drop_length]; rfl)
      clear hd
      go_wp2
      go_ret
      exact ⟨by rw [HE.out, HF.out]; rfl, B1.out⟩
/-- what is wrong, as the reference tells it. -/
def wr (c : Nat) (p : ByteArray) (n : Nat) : Value := if c = 0 then .agg #[.int .i64 0, .string ⟨#[]⟩, .int .i64 0] else .agg #[.int .i64 c, .string p, .int .i64 n]
theorem below_three {n : Nat} {w w1 : World} {b : Nat} (h : Below n w w1) (hb : n ≤ b) (v0 v1 v2 : Value) : Below n w (((w1.setCell ⟨b, 0, none⟩ v0).setCell ⟨b, 1, none⟩ v1).setCell ⟨b, 2, none⟩ v2) :=
  ((h.setCell hb v0).setCell hb v1).setCell hb v2
set_option maxHeartbeats 3200000 in
theorem Check14_calls (h : Hd) (p : Lc) (w : World) (hh : HdIn w h p) :
    Calls Tryz.prog 18 #[.agg (hcs h p).toArray] w fun e w' => e = .returned (wr (headErr h).1 (headErr h).2 0) ∧ Below w.heap.size w w' := by
  obtain ⟨vr, hint, schema, zt, pos, neg⟩ := h
  obtain ⟨A, c, B, d⟩ := p
  obtain ⟨hp, hn, hz⟩ := hh
  simp only at hp hn hz
  show Calls Tryz.prog 18 #[.agg #[.int .i64 vr, .int .i64 hint, .int .i64 schema, .int .u64 zt, .slice A pos.length c, .slice B neg.length d]] w _
  by_cases h1 : vr < 0
  · have HE : Hid (headErr ⟨vr, hint, schema, zt, pos, neg⟩ = (25, pVariant)) := Lib.hid (if_pos (by simp only; omega))
    have d1 : decide (vr < 0) = true := decide_eq_true h1
    clear hp hn
    go_enter Tryz.func18, Tryz.ntmps18
    go_wp2
    refine bodyPost_ret (v := .agg #[.int .i64 25, .string ⟨#[118, 97, 114, 105, 97, 110, 116]⟩, .int .i64 0]) (by rw [results_cell1 rfl]; go_simp) rfl ?_
    exact ⟨by rw [HE.out]; rfl, below_alloc (below_alloc (Below.refl _ _) _) _⟩
  have d1 : decide (vr < 0) = false := decide_eq_false h1
  by_cases h2 : 1 < vr
  · have HE : Hid (headErr ⟨vr, hint, schema, zt, pos, neg⟩ = (25, pVariant)) := Lib.hid (if_pos (by simp only; omega))
    have d2 : decide (vr > 1) = true := decide_eq_true h2
    have d2' : decide (1 < vr) = true := decide_eq_true h2
    clear hp hn
    go_enter Tryz.func18, Tryz.ntmps18
    go_wp2
    refine bodyPost_ret (v := .agg #[.int .i64 25, .string ⟨#[118, 97, 114, 105, 97, 110, 116]⟩, .int .i64 0]) (by rw [results_cell1 rfl]; go_simp) rfl ?_
    exact ⟨by rw [HE.out]; rfl, below_alloc (below_alloc (Below.refl _ _) _) _⟩
  have d2 : decide (vr > 1) = false := decide_eq_false h2
  have d2' : decide (1 < vr) = false := decide_eq_false h2
  have n1 : ¬ (vr ≠ 0 ∧ vr ≠ 1) := by omega
  by_cases h3 : hint < 0
  · have HE : Hid (headErr ⟨vr, hint, schema, zt, pos, neg⟩ = (26, pHint)) := Lib.hid (by unfold headErr; simp only; rw [if_neg n1, if_pos (.inl h3)])
    have d3 : decide (hint < 0) = true := decide_eq_true h3
    clear hp hn
    go_enter Tryz.func18, Tryz.ntmps18
    go_wp2
    refine bodyPost_ret (v := .agg #[.int .i64 26, .string ⟨#[104, 105, 110, 116]⟩, .int .i64 0]) (by rw [results_cell1 rfl]; go_simp) rfl ?_
    exact ⟨by rw [HE.out]; rfl, below_alloc (below_alloc (Below.refl _ _) _) _⟩
  have d3 : decide (hint < 0) = false := decide_eq_false h3
  by_cases h4 : 3 < hint
  · have HE : Hid (headErr ⟨vr, hint, schema, zt, pos, neg⟩ = (26, pHint)) := Lib.hid (by unfold headErr; simp only; rw [if_neg n1, if_pos (.inr h4)])
    have d4 : decide (hint > 3) = true := decide_eq_true h4
    have d4' : decide (3 < hint) = true := decide_eq_true h4
    clear hp hn
    go_enter Tryz.func18, Tryz.ntmps18
    go_wp2
    refine bodyPost_ret (v := .agg #[.int .i64 26, .string ⟨#[104, 105, 110, 116]⟩, .int .i64 0]) (by rw [results_cell1 rfl]; go_simp) rfl ?_
    exact ⟨by rw [HE.out]; rfl, below_alloc (below_alloc (Below.refl _ _) _) _⟩
  have d4 : decide (hint > 3) = false := decide_eq_false h4
  have d4' : decide (3 < hint) = false := decide_eq_false h4
  have n2 : ¬ (hint < 0 ∨ 3 < hint) := by omega
  have H1 := Lib.hid (fun W => Head_calls schema 0 W)
  have H2 := Lib.hid (fun W => Head_calls 0 zt W)
  rw [headE_s] at H1
  rw [headE_z] at H2
  clear h1 h2 h3 h4
  by_cases h5 : shapeE schema ≠ 0
  · have h21 : shapeE schema = 21 := by unfold shapeE at h5 ⊢; by_cases hs : schema < -4 ∨ 8 < schema; exact if_pos hs; rw [if_neg hs] at h5; exact absurd rfl h5
    have HE : Hid (headErr ⟨vr, hint, schema, zt, pos, neg⟩ = (21, pSchema)) := Lib.hid (by unfold headErr; simp only; rw [if_neg n1, if_neg n2, if_pos h5])
    rw [h21] at H1
    clear hp hn n1 n2 h5 h21 H2
    go_enter Tryz.func18, Tryz.ntmps18
    go_wp2_with (fail)
    refine (H1.out _).mono ?_
    rintro e w9 ⟨rfl, rfl⟩
    go_wp2
    refine bodyPost_ret (v := .agg #[.int .i64 21, .string ⟨#[115, 99, 104, 101, 109, 97]⟩, .int .i64 0]) (by rw [results_cell1 rfl]; go_simp) rfl ?_
    exact ⟨by rw [HE.out]; rfl, below_alloc (below_alloc (Below.refl _ _) _) _⟩
  rw [Decidable.not_not.1 h5] at H1
  cases hk : thrOk zt with
  | false =>
    have HE : Hid (headErr ⟨vr, hint, schema, zt, pos, neg⟩ = (11, pZero)) := Lib.hid (by unfold headErr; simp only; rw [if_neg n1, if_neg n2, if_neg h5, if_pos hk])
    rw [hk] at H2
    clear hp hn n1 n2 h5 hk
    go_enter Tryz.func18, Tryz.ntmps18
    go_wp2_with (fail)
    refine (H1.out _).mono ?_
    rintro e w9 ⟨rfl, rfl⟩
    go_wp2_with (fail)
    refine (H2.out _).mono ?_
    rintro e w9 ⟨rfl, rfl⟩
    go_wp2
    refine bodyPost_ret (v := .agg #[.int .i64 11, .string ⟨#[122, 101, 114, 111]⟩, .int .i64 0]) (by rw [results_cell1 rfl]; go_simp) rfl ?_
    exact ⟨by rw [HE.out]; rfl, below_alloc (below_alloc (Below.refl _ _) _) _⟩
  | true =>
    rw [hk] at H2
    have hb0 := below_alloc (below_alloc (Below.refl w.heap.size w) (.cells #[.int .i64 vr, .int .i64 hint, .int .i64 schema, .int .u64 zt, .slice A pos.length c, .slice B neg.length d] 41)) (.cells #[.int .i64 0, .string ⟨#[]⟩, .int .i64 0] 37)
    have HK0 := Lib.hid ((Below.heap_alloc (w.alloc (.cells #[.int .i64 vr, .int .i64 hint, .int .i64 schema, .int .u64 zt, .slice A pos.length c, .slice B neg.length d] 41)) (.cells #[.int .i64 0, .string ⟨#[]⟩, .int .i64 0] 37) w.heap.size (blk_lt (blk_last w _))).trans (blk_last w _))
    have HK1 := Lib.hid (blk_last (w.alloc (.cells #[.int .i64 vr, .int .i64 hint, .int .i64 schema, .int .u64 zt, .slice A pos.length c, .slice B neg.length d] 41)) (.cells #[.int .i64 0, .string ⟨#[]⟩, .int .i64 0] 37))
    rw [show (w.alloc (.cells #[.int .i64 vr, .int .i64 hint, .int .i64 schema, .int .u64 zt, .slice A pos.length c, .slice B neg.length d] 41)).heap.size = w.heap.size + 1 from by simp] at HK1
    have HSP := Lib.hid (Sides_calls A c pos _ (hp.below hb0).rd (by have := hp.len; omega))
    have HSN := Lib.hid (fun W (h : Below w.heap.size w W) => Sides_calls B d neg W (hn.below h).rd (by have := hn.len; omega))
    have HB0 := Lib.hid hb0
    have HN : Hid (headErr ⟨vr, hint, schema, zt, pos, neg⟩ = if sidesE pos ≠ 0 then (sidesE pos, pPos) else (sidesE neg, pNeg)) := Lib.hid (by unfold headErr; simp only; rw [if_neg n1, if_neg n2, if_neg h5, if_neg (by rw [hk]; decide)])
    obtain ⟨sp, hsp⟩ : ∃ x, x = sidesE pos := ⟨_, rfl⟩
    rw [← hsp] at HSP HN
    clear hp hn n1 n2 h5 hk hb0 hsp
    by_cases h6 : sp ≠ 0
    · have HE : Hid (headErr ⟨vr, hint, schema, zt, pos, neg⟩ = (sp, pPos)) := Lib.hid (by rw [HN.out, if_pos h6])
      have e6 : ((sp : Int) != 0) = true := by simp; omega
      have HW : Hid (wr sp pPos 0 = .agg #[.int .i64 sp, .string pPos, .int .i64 0]) := Lib.hid (if_neg h6)
      clear h6 HN
      go_enter Tryz.func18, Tryz.ntmps18
      go_wp2_with (fail)
      refine (H1.out _).mono ?_
      rintro e w9 ⟨rfl, rfl⟩
      go_wp2_with (fail)
      refine (H2.out _).mono ?_
      rintro e w9 ⟨rfl, rfl⟩
      go_wp2_with (fail)
      refine HSP.out.mono ?_
      rintro e w3 ⟨rfl, hb3⟩
      have HB3 := Lib.hid (below_then HB0.out HB0.out.size hb3)
      have hk0 := (Ch.of_below (S := fun _ => False) hb3).blk HK0.out (fun x => x)
      have hk1 := (Ch.of_below (S := fun _ => False) hb3).blk HK1.out (fun x => x)
      have c0 := obj_cell (i := 0) hk1 rfl
      have c1 := obj_cell (i := 1) hk1 rfl
      have c2 := obj_cell (i := 2) hk1 rfl
      have f0 := obj_free (i := 0) hk1
      have f1 := obj_free (i := 1) hk1
      have f2 := obj_free (i := 2) hk1
      clear hb3 hk0 hk1
      go_wp2
      refine bodyPost_ret (v := .agg #[.int .i64 sp, .string ⟨#[112, 111, 115]⟩, .int .i64 0]) (by rw [results_cell1 rfl]; go_simp) rfl ?_
      exact ⟨by rw [HE.out, HW.out]; rfl, below_three HB3.out (Nat.le_succ _) _ _ _⟩
    have h6 := Decidable.not_not.1 h6
    rw [h6] at HSP
    obtain ⟨sn, hsn⟩ : ∃ x, x = sidesE neg := ⟨_, rfl⟩
    rw [← hsn] at HSN HN
    have HE : Hid (headErr ⟨vr, hint, schema, zt, pos, neg⟩ = (sn, pNeg)) := Lib.hid (by rw [HN.out, if_neg (by omega)])
    clear h6 HN hsn
    go_enter Tryz.func18, Tryz.ntmps18
    go_wp2_with (fail)
    refine (H1.out _).mono ?_
    rintro e w9 ⟨rfl, rfl⟩
    go_wp2_with (fail)
    refine (H2.out _).mono ?_
    rintro e w9 ⟨rfl, rfl⟩
    go_wp2_with (fail)
    refine HSP.out.mono ?_
    rintro e w3 ⟨rfl, hb3⟩
    have HB3 := Lib.hid (below_then HB0.out HB0.out.size hb3)
    have hk0 := (Ch.of_below (S := fun _ => False) hb3).blk HK0.out (fun x => x)
    have hk1 := (Ch.of_below (S := fun _ => False) hb3).blk HK1.out (fun x => x)
    have c0 := obj_cell (i := 0) hk0 rfl
    have c1 := obj_cell (i := 1) hk0 rfl
    have c2 := obj_cell (i := 2) hk0 rfl
    have c3 := obj_cell (i := 3) hk0 rfl
    have c4 := obj_cell (i := 4) hk0 rfl
    have c5 := obj_cell (i := 5) hk0 rfl
    have HK3 := Lib.hid hk1
    clear hb3 hk0 hk1
    go_wp2_with (fail)
    refine (HSN.out _ HB3.out).mono ?_
    rintro e w4 ⟨rfl, hb4⟩
    have HB4 := Lib.hid (below_then HB3.out HB3.out.size hb4)
    have hk1 := (Ch.of_below (S := fun _ => False) hb4).blk HK3.out (fun x => x)
    clear c0
    clear c1
    clear c2
    clear c3
    clear c4
    clear c5
    have c0 := obj_cell (i := 0) hk1 rfl
    have c1 := obj_cell (i := 1) hk1 rfl
    have c2 := obj_cell (i := 2) hk1 rfl
    have f0 := obj_free (i := 0) hk1
    have f1 := obj_free (i := 1) hk1
    have f2 := obj_free (i := 2) hk1
    clear hb4 hk1
    by_cases h7 : sn = 0
    · subst h7
      go_wp2
      refine bodyPost_ret (v := .agg #[.int .i64 0, .string ⟨#[]⟩, .int .i64 0]) (by rw [results_cell1 rfl]; go_simp) rfl ?_
      exact ⟨by rw [HE.out]; rfl, below_three HB4.out (Nat.le_succ _) _ _ _⟩
    · have e7 : ((sn : Int) != 0) = true := by simp; omega
      have HW : Hid (wr sn pNeg 0 = .agg #[.int .i64 sn, .string pNeg, .int .i64 0]) := Lib.hid (if_neg h7)
      clear h7
      go_wp2
      refine bodyPost_ret (v := .agg #[.int .i64 sn, .string ⟨#[110, 101, 103]⟩, .int .i64 0]) (by rw [results_cell1 rfl]; go_simp) rfl ?_
      exact ⟨by rw [HE.out, HW.out]; rfl, below_three HB4.out (Nat.le_succ _) _ _ _⟩
end Go.Proofs.YtjfekjbmgckkcaaGreatDoor.Ref14A
