/- law 04: what its functions have in common: bits, awake. -/
import Derived.Test.YtlbkdmggafkghaaDoorVarKit
namespace Go.Proofs.YtlbkdmggafkghaaDoor.Law04A
open Go.RowKit Go.Proofs.YtlbkdmggafkghaaDoorW.PrintWords
open Go.Proofs.YtlbkdmggafkghaaDoor.Bits Go.Proofs.YtlbkdmggafkghaaDoor.Base Go.Proofs.YtlbkdmggafkghaaDoor.VarPure Go.Proofs.YtlbkdmggafkghaaDoor.VarbitA Go.Proofs.YtlbkdmggafkghaaDoor.VarbitB Go.Proofs.YtlbkdmggafkghaaDoor.VarbitD Go.Proofs.YtlbkdmggafkghaaDoor.StreamA Go.Proofs.YtlbkdmggafkghaaDoor.StreamR Go.Proofs.YtlbkdmggafkghaaDoor.VarKit Go.Proofs.YtlbkdmggafkghaaDoor.Ref01 Go.Proofs.YtlbkdmggafkghaaDoor.Ref04

theorem text_pack (l : List Bool) : (bts (str (pack l)).data.toList).take l.length = l := by
  rw [show (str (pack l)).data.toList = pack l from by simp [str], bts_pack _ _ rfl, List.take_left' rfl]

set_option maxHeartbeats 800000 in
theorem bits_calls (g : Nat) (S : Nat → Prop) (l : List Bool) (w : World) (h : Wr w g S l) (hm : l.length ≤ 1000000) :
    Calls Tryd.prog 14 #[.pointer (some ⟨g, 0, none⟩)] w fun e w' => e = .returned (.string (txt l)) ∧ Below w.heap.size w w' := by
  have HH := Lib.hid h
  have HBY := Lib.hid (bytes_calls g S l w h (by omega))
  have hpl := pack_length l
  have hss := str_size (pack l)
  have HTX := Lib.hid (text_pack l)
  have HLEN := Lib.hid (fun W (hb : Below w.heap.size w W) => len_calls g S l W (h.below hb))
  have HTE := Lib.hid (fun W => text_calls (str (pack l)) l.length W (by rw [hss, hpl]; omega) (by rw [hss, hpl]; omega))
  obtain ⟨s, hs⟩ : ∃ s, s = str (pack l) := ⟨_, rfl⟩
  rw [← hs] at HTX HTE hss
  have d1 : decide ((l.length : Int) < 0) = false := by simp
  have d2 : decide ((l.length : Int) > 8 * (s.size : Int)) = false := by simp; omega
  have d2' : decide (8 * (s.size : Int) < (l.length : Int)) = false := by simp; omega
  have HS := Lib.hid hs
  have hsz : s.size ≤ 1000000 := by omega
  clear h hs hss hpl
  go_enter Tryd.func14, Tryd.ntmps14
  go_wp2_with (fail)
  refine HBY.out.mono ?_
  rintro e w1 ⟨v, rfl, ho, hb⟩
  obtain ⟨D, d, rfl, hd, hr⟩ := ho.reads
  have hcv := RdB.string (P := Tryd.prog) (src := 37) (dst := 9) (e := 5) (c := d) hr rfl Tryd.underlying37 Tryd.underlying5 Tryd.underlying9
  rw [← HS.out] at hcv
  clear ho hr hd
  go_wp2_with (first | (go_at_call 21; refine (HLEN.out _ hb).mono ?_; rintro e w' ⟨rfl, rfl⟩) | (go_at_call 26; refine (HTE.out _).mono ?_; rintro e w' ⟨rfl, rfl⟩))
  go_ret
  exact ⟨by rw [HTX.out]; rfl, hb⟩

theorem awake_bits : [] ++ encS (-3) ++ encU 0 = [true, false, true, false, true, false] := by decide
theorem awake_pack : pack [true, false, true, false, true, false] = [168] := by decide

set_option maxHeartbeats 1600000 in
theorem awake_calls (w : World) (hT : Tab w) :
    Calls Tryd.prog 25 #[] w fun e w' => e = .returned (.bool true) ∧ Below w.heap.size w w' := by
  have HT := Lib.hid hT
  have HNW := Lib.hid (newWriter_calls none 0 0 [] w (nil_read w) (by decide) (by decide) (fun _ => rfl) (by decide))
  clear hT
  go_enter Tryd.func25, Tryd.ntmps25
  go_wp2_with (fail)
  refine HNW.out.mono ?_
  rintro e w1 ⟨g, S, rfl, hw, hS, hb⟩
  have HP := Lib.hid (putS_calls g S _ (-3) w1 (HT.out.below hb) (not_old HT.out hS) hw (by decide) (by decide) (by decide))
  have HB := Lib.hid hb
  have HHS := Lib.hid hS
  clear hw hS hb HNW
  go_wp2_with (fail)
  refine HP.out.mono ?_
  rintro e w2 ⟨rfl, hu⟩
  obtain ⟨S2, hw2, hS2, hb2⟩ := upd_new HB.out HB.out.size HHS.out hu
  have HP2 := Lib.hid (putU_calls g S2 _ 0 w2 (HT.out.below hb2) (not_old HT.out hS2) hw2 (by decide) (by decide))
  have HB2 := Lib.hid hb2
  have HHS2 := Lib.hid hS2
  clear hu hw2 hS2 hb2 HP HB HHS
  go_wp2_with (fail)
  refine HP2.out.mono ?_
  rintro e w3 ⟨rfl, hu⟩
  obtain ⟨S3, hw3, hS3, hb3⟩ := upd_new HB2.out HB2.out.size HHS2.out hu
  have hw3' : Wr w3 g S3 [true, false, true, false, true, false] := by
    have := awake_bits
    rw [← this]
    exact hw3
  have HW3 := Lib.hid hw3'
  have HB3 := Lib.hid hb3
  have HHS3 := Lib.hid hS3
  have HLEN := Lib.hid (len_calls g S3 _ w3 hw3')
  have HBY := Lib.hid (fun W (h : Below w3.heap.size w3 W) => bytes_calls g S3 _ W (hw3'.below h) (by decide))
  clear hu hw3 hS3 hb3 hw3' HP2 HB2 HHS2
  go_wp2_with (fail)
  refine (HBY.out _ (Below.refl _ _)).mono ?_
  rintro e w4 ⟨v, rfl, ho, hb4⟩
  obtain ⟨D, d, rfl, hd, hr⟩ := ho.reads
  rw [awake_pack] at hr hd ⊢
  have hD : D = none → d = 0 := by
    rintro rfl
    obtain ⟨ad, he⟩ := RdI.some_ hr (by decide)
    cases he
  have HNR := Lib.hid (newReader_calls D d 6 [168] w4 hr (by decide) hd hD (by decide))
  have HB4 := Lib.hid hb4
  have HT4 := Lib.hid ((HT.out.below HB3.out).below hb4)
  clear ho hr hd hb4 hD
  go_wp2_with (first | (go_at_call 21; refine ((len_calls g S3 _ w4 (HW3.out.below HB4.out))).mono ?_; rintro e w' ⟨rfl, rfl⟩))
  refine HNR.out.mono ?_
  rintro e w5 ⟨gr, SR, rfl, hR, hSR, hb5⟩
  rw [show (bts [168]).take 6 = encS (-3) ++ (encU 0 ++ []) from by decide] at hR
  have hT5 := HT4.out.below hb5
  have hnG := not_old HT4.out hSR
  have HB5 := Lib.hid (below_then HB4.out HB4.out.size hb5)
  have HSR := Lib.hid (fun k hk => Nat.le_trans HB4.out.size (hSR k hk))
  have HG1 := Lib.hid (getS_enc gr 0 SR (-3) _ w5 hT5 hnG (by decide) (by decide) hR)
  have HT5 := Lib.hid hT5
  have HNG := Lib.hid hnG
  clear hR hSR hb5 hT5 hnG HNR HT4 HB4 HBY HLEN
  go_wp2_with (fail)
  refine HG1.out.mono ?_
  rintro e w6 ⟨rfl, hR, hc⟩
  have HT6 := Lib.hid (HT5.out.ch hc HNG.out)
  have HB6 := Lib.hid (ch_new HB5.out HB5.out.size HSR.out hc)
  have HG2 := Lib.hid (getU_enc gr _ SR 0 _ w6 HT6.out HNG.out (by decide) hR)
  clear hR hc HG1 HT5 HB5
  go_wp2_with (fail)
  refine HG2.out.mono ?_
  rintro e w7 ⟨rfl, hR, hc⟩
  have HT7 := Lib.hid (HT6.out.ch hc HNG.out)
  have HB7 := Lib.hid (ch_new HB6.out HB6.out.size HSR.out hc)
  have HG3 := Lib.hid (getU_calls gr _ SR _ w7 HT7.out HNG.out hR)
  clear hR hc HG2 HT6 HB6
  go_wp2_with (fail)
  refine HG3.out.mono ?_
  rintro e w8 ⟨hc, hcase⟩
  have he : e = .returned (.tuple #[.int .u64 0, .int .i64 16]) := by
    rcases hcase with ⟨-, he, -⟩ | ⟨k, x, t, hp, -, -⟩
    · exact he
    · rw [show parse [] = none from rfl] at hp; cases hp
  subst he
  have HT8 := Lib.hid (HT7.out.ch hc HNG.out)
  have HB8 := Lib.hid (ch_new HB7.out HB7.out.size HSR.out hc)
  have HLEN := Lib.hid (fun W (h : Below w3.heap.size w3 W) => lift_eq h (len_calls g S3 _ W (HW3.out.below h)))
  have HBY := Lib.hid (fun W (h : Below w3.heap.size w3 W) => bytes_calls g S3 _ W (HW3.out.below h) (by decide))
  have HLS := Lib.hid (fun W (h : Below w3.heap.size w3 W) => lift_eq h (lenS_calls 4 W ((HT.out.below HB3.out).below h) (by decide) (by decide)))
  clear hc hcase HG3 HT7 HB7
  go_wp2_with (fail)
  refine (HLEN.out _ HB8.out).mono ?_
  rintro e w9 ⟨rfl, hb9⟩
  go_wp2_with (fail)
  refine (HBY.out _ hb9).mono ?_
  rintro e w10 ⟨v2, rfl, ho2, hb10⟩
  obtain ⟨E, c2, rfl, hd2, hr2⟩ := ho2.reads
  rw [awake_pack] at hr2 ⊢
  have hcv := RdB.string (P := Tryd.prog) (src := 37) (dst := 9) (e := 5) (n := 1) (c := c2) hr2 rfl Tryd.underlying37 Tryd.underlying5 Tryd.underlying9
  have e1 : str [168] = ⟨#[168]⟩ := rfl
  rw [e1] at hcv
  have HB10 := Lib.hid (below_then hb9 hb9.size hb10)
  clear ho2 hr2 hd2 hb10 hb9 e1
  go_wp2_with (fail)
  refine (HLS.out _ HB10.out).mono ?_
  rintro e w11 ⟨rfl, hb11⟩
  go_wp2
  go_ret
  exact ⟨rfl, below_then HB3.out HB3.out.size hb11⟩
end Go.Proofs.YtlbkdmggafkghaaDoor.Law04A
