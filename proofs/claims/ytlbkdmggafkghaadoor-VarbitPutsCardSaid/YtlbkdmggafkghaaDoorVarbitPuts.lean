/- law 04: any number has the bits that the document says, and is read from them again. -/
import Derived.Test.YtlbkdmggafkghaaDoorLaw04A
namespace Go.Proofs.YtlbkdmggafkghaaDoor.VarbitPuts
open Go.RowKit Go.Proofs.YtlbkdmggafkghaaDoorW.PrintWords
open Go.Proofs.YtlbkdmggafkghaaDoor.Bits Go.Proofs.YtlbkdmggafkghaaDoor.Base Go.Proofs.YtlbkdmggafkghaaDoor.VarPure Go.Proofs.YtlbkdmggafkghaaDoor.VarbitA Go.Proofs.YtlbkdmggafkghaaDoor.VarbitB Go.Proofs.YtlbkdmggafkghaaDoor.VarbitD Go.Proofs.YtlbkdmggafkghaaDoor.StreamA Go.Proofs.YtlbkdmggafkghaaDoor.StreamR Go.Proofs.YtlbkdmggafkghaaDoor.VarKit Go.Proofs.YtlbkdmggafkghaaDoor.Ref01 Go.Proofs.YtlbkdmggafkghaaDoor.Ref04 Go.Proofs.YtlbkdmggafkghaaDoor.Law04A

theorem encS_le (v : Int) : (encS v).length ≤ 72 := by
  rw [encS_length, front]
  have := gS_lt v
  have := behind_le (g := gS v)
  split <;> omega
theorem encU_le (x : Nat) : (encU x).length ≤ 72 := by
  rw [encU_length, front]
  have := gU_lt x
  have := behind_le (g := gU x)
  split <;> omega

set_option maxHeartbeats 1600000 in
theorem core (v : Int) (x : Nat) (w : World) (hT : Tab w) (h1 : -9223372036854775808 ≤ v) (h2 : v ≤ 9223372036854775807) (hx : x < 18446744073709551616) :
    Calls Tryd.prog 3 #[.int .i64 v, .int .u64 x] w fun e w' => e = .returned (.bool true) ∧ Below w.heap.size w w' := by
  have HT := Lib.hid hT
  have HX := Lib.hid hx
  have HNW := Lib.hid (newWriter_calls none 0 0 [] w (nil_read w) (by decide) (by decide) (fun _ => rfl) (by decide))
  have hlS := encS_le v
  have hlU := encU_le x
  clear hT hx
  go_enter Tryd.func3, Tryd.ntmps3
  go_wp2_with (fail)
  refine HNW.out.mono ?_
  rintro e w1 ⟨g, S, rfl, hw, hS, hb⟩
  rw [show (bts []).take 0 = [] from rfl] at hw
  have HP := Lib.hid (putS_calls g S _ v w1 (HT.out.below hb) (not_old HT.out hS) hw (by decide) h1 h2)
  have HB := Lib.hid hb
  have HHS := Lib.hid hS
  clear hw hS hb HNW
  go_wp2_with (fail)
  refine HP.out.mono ?_
  rintro e w2 ⟨rfl, hu⟩
  obtain ⟨S2, hw2, hS2, hb2⟩ := upd_new HB.out HB.out.size HHS.out hu
  rw [List.nil_append] at hw2
  have HP2 := Lib.hid (putU_calls g S2 _ x w2 (HT.out.below hb2) (not_old HT.out hS2) hw2 (by omega) HX.out)
  have HB2 := Lib.hid hb2
  have HHS2 := Lib.hid hS2
  clear hu hw2 hS2 hb2 HP HB HHS
  go_wp2_with (fail)
  refine HP2.out.mono ?_
  rintro e w3 ⟨rfl, hu⟩
  obtain ⟨S3, hw3, hS3, hb3⟩ := upd_new HB2.out HB2.out.size HHS2.out hu
  have HB3 := Lib.hid hb3
  have hT3 := HT.out.below hb3
  obtain ⟨L, hL⟩ : ∃ L, L = encS v ++ encU x := ⟨_, rfl⟩
  have hLl : L.length ≤ 144 := by rw [hL, List.length_append]; omega
  rw [← hL] at hw3
  have HW3 := Lib.hid hw3
  have C1 := Lib.hid (fun W (h : Below w3.heap.size w3 W) => lift h h.size (bits_calls g S3 L W (hw3.below h) (by omega)))
  have C2 := Lib.hid (fun W (h : Below w3.heap.size w3 W) => lift h h.size (S_calls v W h1 h2))
  have C3 := Lib.hid (fun W (h : Below w3.heap.size w3 W) => lift h h.size (U_calls x W HX.out))
  have C4 := Lib.hid (fun W (h : Below w3.heap.size w3 W) => lift_eq h (lenS_calls v W (hT3.below h) h1 h2))
  have C5 := Lib.hid (fun W (h : Below w3.heap.size w3 W) => lift_eq h (lenU_calls x W (hT3.below h) HX.out))
  have C6 := Lib.hid (fun W (h : Below w3.heap.size w3 W) => bytes_calls g S3 L W (hw3.below h) (by omega))
  have C7 := Lib.hid (fun W (h : Below w3.heap.size w3 W) => len_calls g S3 L W (hw3.below h))
  have HT3 := Lib.hid hT3
  have HL := Lib.hid hL
  have hb0 := Below.refl w3.heap.size w3
  have hcat : txt (encS v) ++ txt (encU x) = txt L := by rw [hL, txt_append]
  have s1 := txt_size (encS v)
  have s2 := txt_size (encU x)
  obtain ⟨tS, htS⟩ : ∃ t, t = txt (encS v) := ⟨_, rfl⟩
  obtain ⟨tU, htU⟩ : ∃ t, t = txt (encU x) := ⟨_, rfl⟩
  obtain ⟨nS, hnS⟩ : ∃ n, n = (encS v).length := ⟨_, rfl⟩
  obtain ⟨nU, hnU⟩ : ∃ n, n = (encU x).length := ⟨_, rfl⟩
  rw [← htS] at C2 hcat s1
  rw [← htU] at C3 hcat s2
  rw [← hnS] at C4 s1 hlS
  rw [← hnU] at C5 s2 hlU
  have hb1 : tS.size ≤ 72 := by omega
  have hb2 : tU.size ≤ 72 := by omega
  clear hu hw3 hS3 hb3 hL hT3 HP2 HB2 HHS2 htS htU hnS hnU
  go_wp2_with (first
    | (go_at_call 14; refine (C1.out _ (by assumption)).mono ?_; rintro e w' ⟨rfl, hb⟩)
    | (go_at_call 15; refine (C2.out _ (by assumption)).mono ?_; rintro e w' ⟨rfl, hb⟩)
    | (go_at_call 16; refine (C3.out _ (by assumption)).mono ?_; rintro e w' ⟨rfl, hb⟩)
    | (go_at_call 17; refine (C4.out _ (by assumption)).mono ?_; rintro e w' ⟨rfl, hb⟩)
    | (go_at_call 18; refine (C5.out _ (by assumption)).mono ?_; rintro e w' ⟨rfl, hb⟩))
  refine (C6.out _ hb).mono ?_
  rintro e w4 ⟨vb, rfl, ho, hb4⟩
  obtain ⟨D, d, rfl, hd, hr⟩ := ho.reads
  have hD := ho.nilcap
  have hb5 := below_then hb hb.size hb4
  have hpl := pack_length L
  have HNR := Lib.hid (newReader_calls D d L.length (pack L) w4 hr (by omega) hd hD (by omega))
  have HB4 := Lib.hid hb5
  have HT4 := Lib.hid (HT3.out.below hb5)
  clear ho hr hd hb4 hD hpl hcat s1 s2 C1 C2 C3 C4 C5 C6
  go_wp2_with (go_at_call 21; refine (C7.out _ HB4.out).mono ?_; rintro e w5 ⟨rfl, rfl⟩)
  refine HNR.out.mono ?_
  rintro e w5 ⟨gr, SR, rfl, hR, hSR, hb5⟩
  rw [pack_take_all, HL.out, ← List.append_nil (encU x)] at hR
  have hT5 := HT4.out.below hb5
  have hnG := not_old HT4.out hSR
  have HB5 := Lib.hid (below_then HB4.out HB4.out.size hb5)
  have HSR := Lib.hid (fun k hk => Nat.le_trans HB4.out.size (hSR k hk))
  have HG1 := Lib.hid (getS_enc gr 0 SR v _ w5 hT5 hnG h1 h2 hR)
  have HT5 := Lib.hid hT5
  have HNG := Lib.hid hnG
  clear hR hSR hb5 hT5 hnG HNR HT4 HB4 hb
  go_wp2_with (fail)
  refine HG1.out.mono ?_
  rintro e w6 ⟨rfl, hR, hc⟩
  have HT6 := Lib.hid (HT5.out.ch hc HNG.out)
  have HB6 := Lib.hid (ch_new HB5.out HB5.out.size HSR.out hc)
  have HG2 := Lib.hid (getU_enc gr _ SR x _ w6 HT6.out HNG.out HX.out hR)
  clear hR hc HG1 HT5 HB5
  go_wp2_with (fail)
  refine HG2.out.mono ?_
  rintro e w7 ⟨rfl, hR, hc⟩
  have HT7 := Lib.hid (HT6.out.ch hc HNG.out)
  have HB7 := Lib.hid (ch_new HB6.out HB6.out.size HSR.out hc)
  have HLF := Lib.hid (left_calls gr _ SR [] _ w7 hR)
  have HAW := Lib.hid (fun n => lift (pw_below_drewN HB7.out n) HB7.out.size (awake_calls (w7.drewN n) (HT7.out.drewN n)))
  clear hR hc HG2 HT6 HB6
  go_wp2_with (fail)
  refine HLF.out.mono ?_
  rintro e w8 ⟨rfl, nd, rfl⟩
  go_wp2_with (fail)
  refine (HAW.out nd).mono ?_
  rintro e w9 ⟨rfl, hb9⟩
  go_wp2
  go_ret
  exact ⟨rfl, below_then HB3.out HB3.out.size hb9⟩

theorem walk (v u : Int) (w : World) (h0 : (Lit.int .i64 v).wf = true) (h1 : (Lit.int .u64 u).wf = true) (hL : laidMetH Tryd.prog [("tidepole/varbit.behinds", Rows.laid_tidepole_varbit_behinds)] w) :
    Calls Tryd.prog 3 #[.int .i64 v, .int .u64 u] w fun e w' => e = .returned (.bool true) ∧ Below w.heap.size w w' := by
  simp [Lit.wf, IntKind.min, IntKind.max, IntKind.bits, IntKind.signed] at h0 h1
  obtain ⟨x, rfl⟩ : ∃ x : Nat, u = x := ⟨u.toNat, by omega⟩
  exact core v x w (tab_of hL) (by omega) (by omega) (by omega)
end Go.Proofs.YtlbkdmggafkghaaDoor.VarbitPuts
