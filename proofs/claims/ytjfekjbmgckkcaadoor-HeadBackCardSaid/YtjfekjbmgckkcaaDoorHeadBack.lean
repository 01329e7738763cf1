/- law 14: what is read has just the bits that it has, and is right. -/
import Derived.Test.YtjfekjbmgckkcaaDoorLaw14B
import Derived.Test.YtjfekjbmgckkcaaDoorHeadLaid
import Derived.Test.YtjfekjbmgckkcaaDoorRef12
import Derived.Deep.RegionHeld3
namespace Go.Proofs.YtjfekjbmgckkcaaDoor.HeadBack
open Go.RowKit Go.Proofs.YtjfekjbmgckkcaaDoorW.PrintWords
open Go.Proofs.YtjfekjbmgckkcaaDoor.Bits Go.Proofs.YtjfekjbmgckkcaaDoor.Base Go.Proofs.YtjfekjbmgckkcaaDoor.VarPure Go.Proofs.YtjfekjbmgckkcaaDoor.VarbitA Go.Proofs.YtjfekjbmgckkcaaDoor.VarbitD Go.Proofs.YtjfekjbmgckkcaaDoor.VarKit Go.Proofs.YtjfekjbmgckkcaaDoor.StreamA Go.Proofs.YtjfekjbmgckkcaaDoor.StreamR Go.Proofs.YtjfekjbmgckkcaaDoor.SpanPure Go.Proofs.YtjfekjbmgckkcaaDoor.SpanBase Go.Proofs.YtjfekjbmgckkcaaDoor.FailAs Go.Proofs.YtjfekjbmgckkcaaDoor.FailB Go.Proofs.YtjfekjbmgckkcaaDoor.FailC Go.Proofs.YtjfekjbmgckkcaaDoor.ThrPure Go.Proofs.YtjfekjbmgckkcaaDoor.ReadP Go.Proofs.YtjfekjbmgckkcaaDoor.HeadA Go.Proofs.YtjfekjbmgckkcaaDoor.HeadB Go.Proofs.YtjfekjbmgckkcaaDoor.HeadC Go.Proofs.YtjfekjbmgckkcaaDoor.HeadD Go.Proofs.YtjfekjbmgckkcaaDoor.HeadPure Go.Proofs.YtjfekjbmgckkcaaDoor.HeadE Go.Proofs.YtjfekjbmgckkcaaDoor.HeadF Go.Proofs.YtjfekjbmgckkcaaDoor.HeadG Go.Proofs.YtjfekjbmgckkcaaDoor.HeadH Go.Proofs.YtjfekjbmgckkcaaDoor.HeadJ Go.Proofs.YtjfekjbmgckkcaaDoor.HeadK Go.Proofs.YtjfekjbmgckkcaaDoor.HeadM Go.Proofs.YtjfekjbmgckkcaaDoor.Ref01 Go.Proofs.YtjfekjbmgckkcaaDoor.Ref12 Go.Proofs.YtjfekjbmgckkcaaDoor.Law14A Go.Proofs.YtjfekjbmgckkcaaDoor.Law14B Go.Proofs.YtjfekjbmgckkcaaDoor.HeadLaid Go.Proofs.YtjfekjbmgckkcaaDoor.LawBase

set_option maxHeartbeats 1600000 in
theorem narrow (A : Option Addr) (c : Nat) (l : List UInt8) (n : Int) (w : World) (hT : Tab w) (hE : GlE w) (hl : 150 < l.length ∨ n < 0 ∨ 8 * (l.length : Int) < n) :
    Calls Tryd.prog 3 #[.slice A l.length c, .int .i64 n] w fun e w' => e = .returned (.bool true) ∧ Below w.heap.size w w' := by
  have CAW := Lib.hid (awake_calls w hT hE)
  clear hT hE
  by_cases h1 : 150 < l.length
  · have d1 : decide ((l.length : Int) > 150) = true := by simp; omega
    have d1' : decide (150 < (l.length : Int)) = true := by simp; omega
    have d1n : decide (150 < l.length) = true := by simp; omega
    clear hl h1
    go_enter Tryd.func3, Tryd.ntmps3
    go_wp2_with (fail)
    refine CAW.out.mono ?_
    rintro e w1 ⟨rfl, hb⟩
    go_wp2
    go_ret
    exact ⟨rfl, hb⟩
  · have d1 : decide ((l.length : Int) > 150) = false := by simp; omega
    have d1' : decide (150 < (l.length : Int)) = false := by simp; omega
    have d1n : decide (150 < l.length) = false := by simp; omega
    by_cases h2 : n < 0
    · have d2 : decide (n < 0) = true := by simp; omega
      clear hl h1 h2
      go_enter Tryd.func3, Tryd.ntmps3
      go_wp2_with (fail)
      refine CAW.out.mono ?_
      rintro e w1 ⟨rfl, hb⟩
      go_wp2
      go_ret
      exact ⟨rfl, hb⟩
    · have d2 : decide (n < 0) = false := by simp; omega
      have d3 : decide (n > 8 * (l.length : Int)) = true := by simp; omega
      have d3' : decide (8 * (l.length : Int) < n) = true := by simp; omega
      go_enter Tryd.func3, Tryd.ntmps3
      go_wp2_with (fail)
      refine CAW.out.mono ?_
      rintro e w1 ⟨rfl, hb⟩
      go_wp2
      go_ret
      exact ⟨rfl, hb⟩

set_option maxRecDepth 100000 in
set_option maxHeartbeats 6400000 in
theorem core (A : Option Addr) (c n : Nat) (l : List UInt8) (w : World) (hT : Tab w) (hE : GlE w) (hr : RdB w A l) (hl : l.length ≤ 150) (hc : l.length ≤ c) (hA : A = none → c = 0) (hn : n ≤ 8 * l.length) :
    Calls Tryd.prog 3 #[.slice A l.length c, .int .i64 n] w fun e w' => e = .returned (.bool true) ∧ Below w.heap.size w w' := by
  have HT := Lib.hid hT
  have HE := Lib.hid hE
  have HR := Lib.hid hr
  have hq : ((bts l).take n).length = n := by rw [List.length_take, bts_length]; omega
  have HRD := Lib.hid (newReader_calls A c n l w hr (by omega) hc hA hn)
  have HTE := Lib.hid (fun W => text_calls (str l) n W (by rw [str_size]; omega) (by rw [str_size]; omega))
  rw [show (str l).data.toList = l from by simp [str]] at HTE
  have d1 : decide ((l.length : Int) > 150) = false := by simp; omega
  have d1' : decide (150 < (l.length : Int)) = false := by simp; omega
  have d1n : decide (150 < l.length) = false := by simp; omega
  have d2 : decide ((n : Int) < 0) = false := by simp
  have d3 : decide ((n : Int) > 8 * (l.length : Int)) = false := by simp; omega
  have d3' : decide (8 * (l.length : Int) < (n : Int)) = false := by simp; omega
  obtain ⟨q, hqq⟩ : ∃ q, q = (bts l).take n := ⟨_, rfl⟩
  rw [← hqq] at HTE HRD hq
  have HQ := Lib.hid hq
  have hn12 : n ≤ 1200 := by omega
  clear hT hE hr hA hqq hq
  go_enter Tryd.func3, Tryd.ntmps3
  go_wp2_with (fail)
  refine HRD.out.mono ?_
  rintro e w1 ⟨gr, SR, rfl, hR, hSR, hb1⟩
  have HRR := Lib.hid hR
  have HSR := Lib.hid hSR
  have HB1 := Lib.hid hb1
  have HNW := Lib.hid (newWriter_calls none 0 0 [] w1 (nil_read w1) (by decide) (by decide) (fun _ => rfl) (by decide))
  clear hR hSR hb1 HRD
  go_wp2_with (fail)
  refine HNW.out.mono ?_
  rintro e w2 ⟨g, S, rfl, hw, hS, hb2⟩
  have HW := Lib.hid hw
  have HS := Lib.hid hS
  have HB2 := Lib.hid (below_then HB1.out HB1.out.size hb2)
  have HT2 := Lib.hid (HT.out.below HB2.out)
  have HE2 := Lib.hid (gle_below HE.out HB2.out)
  have HX := Lib.hid (fun k h1 h2 => by have := HRR.out.old k h2; have := HS.out k h1; omega : ∀ k, S k → ¬ SR k)
  have HNR := Lib.hid (not_old HT.out HSR.out)
  have HNS := Lib.hid (not_old (HT.out.below HB1.out) HS.out)
  have HRE := Lib.hid (fun x => by have := HSR.out _ x; have := gle_lt HE.out; omega : ¬ SR 0)
  have HG := Lib.hid (Get_calls gr 0 SR q w2 HT2.out HE2.out HNR.out HRE.out (HRR.out.below hb2))
  clear hw hS hb2 HNW HRR
  go_wp2_with (fail)
  refine HG.out.mono ?_
  rintro e w3 ⟨hc3, hcase⟩
  have HB3 := Lib.hid (ch_new HB2.out HB2.out.size HSR.out hc3)
  have HT3 := Lib.hid (HT2.out.ch hc3 HNR.out)
  have HE3 := Lib.hid (gle_ch HE2.out hc3 HRE.out)
  have HW3 := Lib.hid (HW.out.ch hc3 (fun k h => HX.out k h))
  have HSZ := Lib.hid hc3.size
  rcases hcase with ⟨h1, ⟨v, rfl, he⟩, h3⟩ | ⟨h1, ⟨p, rfl, ho⟩, h3⟩
  · obtain ⟨ge, rfl⟩ := err_some (by omega) he
    have hb3a := below_alloc (Below.refl w3.heap.size w3) (.cells #[.int .i64 0, .int .i64 0, .int .i64 0, .int .u64 0, .slice none 0 0, .slice none 0 0] 34)
    have HAW := Lib.hid (awake_calls _ (HT3.out.below hb3a) (gle_below HE3.out hb3a))
    have HB3a := Lib.hid (below_then HB3.out HB3.out.size hb3a)
    clear hc3 h1 he h3 hb3a
    dsimp only [hcs, hd0, List.length]
    go_wp2_with (fail)
    refine HAW.out.mono ?_
    rintro e w4 ⟨rfl, hb4⟩
    have HB4 := Lib.hid (below_then HB3a.out HB3a.out.size hb4)
    clear hb4
    go_wp2
    go_ret
    exact ⟨rfl, HB4.out⟩
  · obtain ⟨i1, i2, i3, i4⟩ := pHead_inv h1
    obtain ⟨z1, z2, z3, z4, z5, z6, z7, z8⟩ := err_zero i3
    obtain ⟨P, hP⟩ : ∃ P, P = pHead q := ⟨_, rfl⟩
    rw [← hP] at i1 i2 i3 i4 z1 z2 z3 z4 z5 z6 z7 z8 ho h3 ⊢
    obtain ⟨pe, pp, pa, h, pu, pr⟩ := P
    simp only at i1 i2 i3 i4 z7 z8 ho h3 ⊢
    have hin := hdin_out ho (by have := (sides_in z7).1; omega) (by have := (sides_in z8).1; omega) i4
    have hle : (encH h).length ≤ n := by
      have := congrArg List.length i1
      rw [HQ.out, List.length_append] at this
      omega
    have htk : q.take (encH h).length = encH h := by rw [i1, List.take_left' rfl]
    have HCUT := Lib.hid (fun W => cut_lo (P := Tryd.prog) 9 Tryd.underlying9 (txt q) q (encH h).length rfl (by rw [HQ.out]; exact hle) W)
    rw [htk] at HCUT
    obtain ⟨A1, c1, B1, d1h⟩ := p
    obtain ⟨vr, hint, schema, zt, pos, neg⟩ := h
    have hb3a := below_alloc (Below.refl w3.heap.size w3) (.cells #[.int .i64 vr, .int .i64 hint, .int .i64 schema, .int .u64 zt, .slice A1 pos.length c1, .slice B1 neg.length d1h] 34)
    have HBK := Lib.hid (blk_last w3 (.cells #[.int .i64 vr, .int .i64 hint, .int .i64 schema, .int .u64 zt, .slice A1 pos.length c1, .slice B1 neg.length d1h] 34))
    have HB3a := Lib.hid (below_then HB3.out HB3.out.size hb3a)
    have HIN := Lib.hid (hin.below hb3a)
    have HTA := Lib.hid (HT3.out.below hb3a)
    have HEA := Lib.hid (gle_below HE3.out hb3a)
    have HWA := Lib.hid (HW3.out.below hb3a)
    have HRA := Lib.hid (h3.below hb3a)
    have HNP := Lib.hid (own_not (S := S) ho.pos HW.out.old)
    have HNQ := Lib.hid (own_not (S := S) ho.neg HW.out.old)
    have HCK := Lib.hid (check_calls ⟨vr, hint, schema, zt, pos, neg⟩ ⟨A1, c1, B1, d1h⟩ _ HIN.out HEA.out)
    have HI := Lib.hid i3
    have HU := Lib.hid i2
    have k0 := obj_cell (i := 0) HBK.out rfl
    have k1 := obj_cell (i := 1) HBK.out rfl
    have k2 := obj_cell (i := 2) HBK.out rfl
    have k3 := obj_cell (i := 3) HBK.out rfl
    have k4 := obj_cell (i := 4) HBK.out rfl
    have k5 := obj_cell (i := 5) HBK.out rfl
    clear hc3 h1 hb3a i1 i2 i3 i4 z1 z2 z3 z4 z5 z6 z7 z8 ho h3 hP hin htk HG HT3 HE3 HW3
    dsimp only [hcs]
    go_wp2_with (fail)
    refine HCK.out.mono ?_
    rintro e w4 ⟨v4, rfl, he4, hb4⟩
    rw [HI.out] at he4
    obtain rfl := err_none he4
    have hbk4 := (Ch.of_below (S := fun _ => False) hb4).blk HBK.out (fun x => x)
    have HB4 := Lib.hid (below_then HB3a.out HB3a.out.size hb4)
    have HT4 := Lib.hid (HTA.out.below hb4)
    have HE4 := Lib.hid (gle_below HEA.out hb4)
    have HR4 := Lib.hid (HRA.out.below hb4)
    have HPU := Lib.hid (Put_calls g S _ ⟨vr, hint, schema, zt, pos, neg⟩ ⟨A1, c1, B1, d1h⟩ w4 (HIN.out.below hb4) HE4.out HT4.out HNS.out (HWA.out.below hb4) (by decide) HNP.out HNQ.out)
    have k0 := obj_cell (i := 0) hbk4 rfl
    have k1 := obj_cell (i := 1) hbk4 rfl
    have k2 := obj_cell (i := 2) hbk4 rfl
    have k3 := obj_cell (i := 3) hbk4 rfl
    have k4 := obj_cell (i := 4) hbk4 rfl
    have k5 := obj_cell (i := 5) hbk4 rfl
    clear he4 hb4 hbk4 HCK
    go_wp2_with (fail)
    refine HPU.out.mono ?_
    rintro e w5 hput
    obtain ⟨-, rfl, S5, hw5, hs5, hc5⟩ : (headErr ⟨vr, hint, schema, zt, pos, neg⟩).1 = 0 ∧ e = .returned .nilIface ∧ Upd (fun w S' => Wr w g S' ([] ++ encH ⟨vr, hint, schema, zt, pos, neg⟩)) S _ w5 := by
      rcases hput with h | ⟨h, -⟩
      · exact h
      · exact absurd HI.out h
    rw [List.nil_append] at hw5
    obtain ⟨X, hX⟩ : ∃ X, X = encH ⟨vr, hint, schema, zt, pos, neg⟩ := ⟨_, rfl⟩
    rw [← hX] at hw5 hle HCUT HU
    have HB5 := Lib.hid (ch_new HB4.out HB4.out.size (fun k h => Nat.le_trans HB1.out.size (HS.out k h)) hc5)
    have HT5 := Lib.hid (HT4.out.ch hc5 HNS.out)
    have HE5 := Lib.hid (gle_ch HE4.out hc5 (fun x => by have := HS.out _ x; have := gle_lt HE.out; have := HB1.out.size; omega))
    have HW5 := Lib.hid hw5
    have HR5 := Lib.hid (HR4.out.ch hc5 (fun k h1 h2 => HX.out k h2 h1))
    have HLEN := Lib.hid (len_calls g S5 _ w5 hw5)
    have HPOS := Lib.hid (pos_calls gr (0 + pu) SR pr false w5 HR5.out)
    rw [HU.out, Nat.zero_add] at HPOS
    clear hput hw5 hs5 hc5 hX HPU HWA HRA HR4 HT4 HE4 HTA HEA k0 k1 k2 k3 k4 k5
    go_wp2_with (fail)
    refine HLEN.out.mono ?_
    rintro e w6 ⟨rfl, rfl⟩
    go_wp2_with (fail)
    refine HPOS.out.mono ?_
    rintro e w6 ⟨rfl, rfl⟩
    have hcv : ∀ W, Below w5.heap.size w5 W → (convert 22 9 (.slice A l.length c)).run Tryd.prog W = .ok (.string (str l)) W := fun W hb =>
      RdB.string (HR.out.below (below_then HB5.out HB5.out.size hb)) rfl Tryd.underlying22 Tryd.underlying5 Tryd.underlying9
    have HBI := Lib.hid (fun W (hb : Below w5.heap.size w5 W) => lift hb hb.size (bits_calls g S5 X W (HW5.out.below hb) (by omega)))
    have HLN := Lib.hid (fun W (hb : Below w5.heap.size w5 W) => lift_eq hb (len_calls g S5 X W (HW5.out.below hb)))
    have HAW := Lib.hid (fun W (hb : Below w5.heap.size w5 W) => lift hb hb.size (awake_calls W (HT5.out.below hb) (gle_below HE5.out hb)))
    have HTX := Lib.hid (fun W (hb : Below w5.heap.size w5 W) => lift_eq hb (HTE.out W))
    have hcut := HCUT.out
    obtain ⟨sl, hsl⟩ : ∃ s, s = str l := ⟨_, rfl⟩
    obtain ⟨sq, hsq⟩ : ∃ s, s = txt q := ⟨_, rfl⟩
    obtain ⟨sx, hsx⟩ : ∃ s, s = txt X := ⟨_, rfl⟩
    rw [← hsl] at hcv HTX
    rw [← hsq] at HTX hcut
    rw [← hsx] at HBI hcut
    clear hsl hsq hsx HCUT HTE HLEN HPOS HT5 HE5 HR5
    go_wp2_with (fail)
    go_region_held3 (fun W => Below w5.heap.size w5 W)
      (first | exact below_drew (Below.refl _ _) | assumption)
      (first
      | (go_at_call 13; refine (HBI.out _ (by assumption)).mono ?_; rintro e w6 ⟨rfl, hb6⟩)
      | (go_at_call 11; refine (HLN.out _ (by assumption)).mono ?_; rintro e w6 ⟨rfl, hb7⟩)
      | (go_at_call 14; refine (HTX.out _ (by assumption)).mono ?_; rintro e w6 ⟨rfl, hb8⟩)
      | (go_at_call 5; refine (HAW.out _ (by assumption)).mono ?_; rintro e w6 ⟨rfl, hb9⟩))
    all_goals go_wp2
    all_goals
      go_ret
      exact ⟨rfl, below_then HB5.out HB5.out.size (by assumption)⟩

theorem walk (a0 : Option Addr) (len0 cap0 : Nat) (z0 : List Int) (n : Int) (w : World) (h0 : IsRow .u8 w a0 len0 cap0 z0) (h1 : (Lit.int .i64 n).wf = true) (hL : laidMetH Tryd.prog laidAll w) :
    Calls Tryd.prog 3 #[.slice a0 len0 cap0, .int .i64 n] w fun e w' => e = .returned (.bool true) ∧ Below w.heap.size w w' := by
  obtain ⟨l, rfl, hl, hc, hA⟩ := h0.bytes
  obtain ⟨hT, hE⟩ := of_laid hL
  by_cases hin : 150 < l.length ∨ n < 0 ∨ 8 * (l.length : Int) < n
  · exact narrow a0 cap0 l n w hT hE hin
  · obtain ⟨k, rfl⟩ : ∃ k : Nat, n = k := ⟨n.toNat, by omega⟩
    exact core a0 cap0 k l w hT hE hl (by omega) hc hA (by omega)
end Go.Proofs.YtjfekjbmgckkcaaDoor.HeadBack
