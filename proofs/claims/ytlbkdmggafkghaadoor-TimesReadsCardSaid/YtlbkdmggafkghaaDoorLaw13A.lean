/- law 13: what its functions have in common: bits, awake. -/
import Derived.Test.YtlbkdmggafkghaaDoorLaw04A
import Derived.Test.YtlbkdmggafkghaaDoorTimesL
namespace Go.Proofs.YtlbkdmggafkghaaDoor.Law13A
open Go.RowKit Go.Proofs.YtlbkdmggafkghaaDoorW.PrintWords
open Go.Proofs.YtlbkdmggafkghaaDoor.Bits Go.Proofs.YtlbkdmggafkghaaDoor.Base Go.Proofs.YtlbkdmggafkghaaDoor.VarPure Go.Proofs.YtlbkdmggafkghaaDoor.TimesPure Go.Proofs.YtlbkdmggafkghaaDoor.VarbitA Go.Proofs.YtlbkdmggafkghaaDoor.VarbitD Go.Proofs.YtlbkdmggafkghaaDoor.StreamA Go.Proofs.YtlbkdmggafkghaaDoor.StreamR Go.Proofs.YtlbkdmggafkghaaDoor.VarKit Go.Proofs.YtlbkdmggafkghaaDoor.Ref01 Go.Proofs.YtlbkdmggafkghaaDoor.TimesA Go.Proofs.YtlbkdmggafkghaaDoor.TimesB Go.Proofs.YtlbkdmggafkghaaDoor.TimesL
open Go.Proofs.YtlbkdmggafkghaaDoor.Law04A (text_pack)

set_option maxHeartbeats 800000 in
theorem bits_calls (g : Nat) (S : Nat → Prop) (l : List Bool) (w : World) (h : Wr w g S l) (hm : l.length ≤ 1000000) :
    Calls Tryd.prog 49 #[.pointer (some ⟨g, 0, none⟩)] w fun e w' => e = .returned (.string (txt l)) ∧ Below w.heap.size w w' := by
  have HH := Lib.hid h
  have HBY := Lib.hid (bytes_calls g S l w h (by omega))
  have hpl := pack_length l
  have hss := str_size (pack l)
  have HTX := Lib.hid (text_pack l)
  have HLEN := Lib.hid (fun W (hb : Below w.heap.size w W) => len_calls g S l W (h.below hb))
  have HTE := Lib.hid (fun W => text_calls (str (pack l)) l.length W (by rw [hss, hpl]; omega) (by rw [hss, hpl]; omega))
  obtain ⟨s, hs⟩ : ∃ s, s = str (pack l) := ⟨_, rfl⟩
  rw [← hs] at HTX HTE hss
  have d1 : decide ((l.length : Int) < 0) = false := by simp
  have d2 : decide ((l.length : Int) > 8 * (s.size : Int)) = false := by simp; omega
  have d2' : decide (8 * (s.size : Int) < (l.length : Int)) = false := by simp; omega
  have HS := Lib.hid hs
  have hsz : s.size ≤ 1000000 := by omega
  clear h hs hss hpl
  go_enter Tryd.func49, Tryd.ntmps49
  go_wp2_with (fail)
  refine HBY.out.mono ?_
  rintro e w1 ⟨v, rfl, ho, hb⟩
  obtain ⟨D, d, rfl, hd, hr⟩ := ho.reads
  have hcv := RdB.string (P := Tryd.prog) (src := 37) (dst := 9) (e := 5) (c := d) hr rfl Tryd.underlying37 Tryd.underlying5 Tryd.underlying9
  rw [← HS.out] at hcv
  clear ho hr hd
  go_wp2_with (first | (go_at_call 21; refine (HLEN.out _ hb).mono ?_; rintro e w' ⟨rfl, rfl⟩) | (go_at_call 26; refine (HTE.out _).mono ?_; rintro e w' ⟨rfl, rfl⟩))
  go_ret
  exact ⟨by rw [HTX.out]; rfl, hb⟩


/-- the row of the fixed answer. -/
def fixed : List Nat := [1000, 1060, 1120, 1180]
theorem fixed_at (k : Nat) (h : k < 4) : ∃ h' : k < fixed.length, fixed[k] = 1000 + 60 * k := by
  have : k = 0 ∨ k = 1 ∨ k = 2 ∨ k = 3 := by omega
  rcases this with rfl | rfl | rfl | rfl <;> exact ⟨by decide, rfl⟩
theorem fixed_len : (allL true [] fixed).length = 32 := by decide +kernel
theorem fixed_state : lastOf fixed = 1180 ∧ stepOf fixed = 60 := by decide +kernel
/-- two objects of a call's own, turned by a call. -/
theorem two_new {S : Nat → Prop} {gx B : Nat} {w w1 w2 : World} (hb : Below B w w1) (hB : B ≤ w1.heap.size) (hS : ∀ k, S k → B ≤ k) (hg : B ≤ gx) (h : Ch (fun k => S k ∨ k = gx) w1 w2) : Below B w w2 :=
  ch_new hb hB (fun k hk => by rcases hk with h1 | rfl
                               · exact hS k h1
                               · exact hg) h

set_option maxHeartbeats 3200000 in
theorem awake_calls (w : World) (hT : Tab w) :
    Calls Tryd.prog 31 #[] w fun e w' => e = .returned (.bool true) ∧ Below w.heap.size w w' := by
  have HT := Lib.hid hT
  have HNW := Lib.hid (newWriter_calls none 0 0 [] w (nil_read w) (by decide) (by decide) (fun _ => rfl) (by decide))
  clear hT
  go_enter Tryd.func31, Tryd.ntmps31
  go_wp2_with (fail)
  refine HNW.out.mono ?_
  rintro e w1 ⟨g, S, rfl, hw, hS, hb⟩
  rw [show (bts []).take 0 = [] from rfl] at hw
  have HNX := Lib.hid (newS_row w1)
  have HW := Lib.hid hw
  have HB := Lib.hid hb
  have HHS := Lib.hid hS
  clear hw hS hb HNW
  go_wp2_with (fail)
  refine HNX.out.mono ?_
  rintro e w2 ⟨gx, rfl, hx, hgx, hb2⟩
  have HX := Lib.hid hx
  have HGX := Lib.hid hgx
  have HB2 := Lib.hid hb2
  have HNY := Lib.hid (newS_row w2)
  clear hx hgx hb2 HNX
  go_wp2_with (fail)
  refine HNY.out.mono ?_
  rintro e w3 ⟨gy, rfl, hy, hgy, hb3⟩
  have HY := Lib.hid hy
  have HW3 := Lib.hid ((HW.out.below HB2.out).below hb3)
  have HX3 := Lib.hid (HX.out.below hb3)
  have HXS := Lib.hid (fun h => by have := HW.out.old _ h; have := HGX.out; omega : ¬ S gx)
  have HYS := Lib.hid (fun h => by have := (HW.out.below HB2.out).old _ h; omega : ¬ S gy)
  have HXY := Lib.hid (by have := HX.out.lt; omega : gx ≠ gy)
  have HGX' := Lib.hid (Nat.le_trans HB.out.size HGX.out)
  have HGY' := Lib.hid (Nat.le_trans (Nat.le_trans HB.out.size HB2.out.size) hgy)
  have HB3 := Lib.hid (below_then (below_then HB.out HB.out.size HB2.out) (below_then HB.out HB.out.size HB2.out).size hb3)
  clear hy hgy hb3 HNY HW HX HGX HB HB2
  go_wp2_with (fail)
  go_loopw [32] (fun i wr => ∃ k : Nat, k ≤ 4 ∧ i = .int .i64 k ∧ ∃ S', Wr wr g S' (allL true [] (fixed.take k)) ∧ RowS wr gx (fixed.take k) ∧ RowS wr gy [] ∧ (∀ j, S' j → w.heap.size ≤ j) ∧ ¬ S' gx ∧ ¬ S' gy ∧ Below w.heap.size w wr) (fun i _ => 4 - (intOf i).toNat)
  case atStart => exact ⟨0, by omega, rfl, S, HW3.out, HX3.out, HY.out, HHS.out, HXS.out, HYS.out, HB3.out⟩
  case round =>
    clear HW3 HX3 HY HHS HXS HYS HB3
    obtain ⟨k, hk, rfl, S1, hw, hx, hy, hS, hxs, hys, hb⟩ := hrel
    have HB := Lib.hid hb
    have HHS := Lib.hid hS
    have HX := Lib.hid hx
    have HY := Lib.hid hy
    have HW := Lib.hid hw
    have HXS := Lib.hid hxs
    have HYS := Lib.hid hys
    have hal := allL_le true (fixed.take k) []
    have htl : (fixed.take k).length ≤ 4 := by rw [List.length_take]; have : fixed.length = 4 := rfl; omega
    by_cases hlt : k < 4
    · obtain ⟨hkl, hv⟩ := fixed_at k hlt
      have hv64 : 1000 + 60 * k < 18446744073709551616 := by omega
      have hvi : i64 (1000 + 60 * k) = 1000 + 60 * (k : Int) := by unfold i64; rw [if_pos (by omega)]; omega
      have hp := putS_list g gx S1 _ (fixed.take k) (1000 + 60 * k) wr (HT.out.below hb) (not_old HT.out hS) hx hw hxs (by omega) hv64 (by omega)
      rw [hvi] at hp
      have HP := Lib.hid hp
      have HTK := Lib.hid (allL_take true fixed k hkl)
      have HFT := Lib.hid (show fixed.take (k + 1) = fixed.take k ++ [1000 + 60 * k] from by rw [List.take_succ_eq_append_getElem hkl, hv])
      have HV := Lib.hid hv
      clear hw hx hy hS hxs hys hb hp hv hvi hal htl
      go_wp2_with (fail)
      refine HP.out.mono ?_
      rintro e w4 ⟨rfl, S2, hw2, hs2, hx2, hc2⟩
      have HW2 := Lib.hid hw2
      have HS2 := Lib.hid hs2
      have HX2 := Lib.hid hx2
      have HC2 := Lib.hid hc2
      clear hw2 hs2 hx2 hc2 HP
      go_wp2
      go_roundw
      case rel =>
        refine ⟨k + 1, by omega, by go_num, S2, ?_, ?_, ?_, ?_, ?_, ?_, two_new HB.out HB.out.size HHS.out HGX'.out HC2.out⟩
        · have := HTK.out
          rw [HV.out] at this
          rw [this]; exact HW2.out
        · rw [HFT.out]; exact HX2.out
        · refine HY.out.ch HC2.out ?_
          rintro (h | h)
          · exact HYS.out h
          · exact HXY.out h.symm
        · intro j hj
          rcases HS2.out j hj with h | h
          · exact HHS.out j h
          · exact Nat.le_trans HB.out.size h
        · intro h
          rcases HS2.out _ h with h | h
          · exact HXS.out h
          · have := HX.out.lt; omega
        · intro h
          rcases HS2.out _ h with h | h
          · exact HYS.out h
          · have := HY.out.lt; omega
      case measure => simp [intOf]; omega
    · obtain rfl : k = 4 := by omega
      rw [show fixed.take 4 = fixed from rfl] at HW HX
      obtain ⟨L, hL⟩ : ∃ L, L = allL true [] fixed := ⟨_, rfl⟩
      have hLl : L.length = 32 := by rw [hL]; exact fixed_len
      rw [← hL] at HW
      have HL := Lib.hid hL
      have C6 := Lib.hid (bytes_calls g S1 L wr HW.out (by omega))
      clear hw hx hy hS hxs hys hb hL hal htl
      go_wp2_with (fail)
      refine C6.out.mono ?_
      rintro e w4 ⟨vb, rfl, ho, hb4⟩
      obtain ⟨D, d, rfl, hd, hr⟩ := ho.reads
      have hD := ho.nilcap
      have hpl := pack_length L
      have HNR := Lib.hid (newReader_calls D d L.length (pack L) w4 hr (by omega) hd hD (by omega))
      rw [hLl] at HNR
      have HB4 := Lib.hid (below_then HB.out HB.out.size hb4)
      have HW4 := Lib.hid (HW.out.below hb4)
      have HX4 := Lib.hid (HX.out.below hb4)
      have HY4 := Lib.hid (HY.out.below hb4)
      have HLEN := Lib.hid (len_calls g S1 L w4 HW4.out)
      rw [hLl] at HLEN
      clear ho hr hd hb4 hD hpl C6 HW HB HX HY
      go_wp2_with (go_at_call 21; refine HLEN.out.mono ?_; rintro e w5 ⟨rfl, rfl⟩)
      refine HNR.out.mono ?_
      rintro e w5 ⟨gr, SR, rfl, hR, hSR, hb5⟩
      rw [← hLl, pack_take_all, HL.out] at hR
      have HB5 := Lib.hid (below_then HB4.out HB4.out.size hb5)
      have HSR := Lib.hid (fun k hk => Nat.le_trans HB4.out.size (hSR k hk) : ∀ k, SR k → w.heap.size ≤ k)
      have HR5 := Lib.hid hR
      have HW5 := Lib.hid (HW4.out.below hb5)
      have HX5 := Lib.hid (HX4.out.below hb5)
      have HY5 := Lib.hid (HY4.out.below hb5)
      have HSY := Lib.hid (fun h => by have := hSR _ h; have := HY4.out.lt; omega : ¬ SR gy)
      have HSX := Lib.hid (fun h => by have := hSR _ h; have := HX4.out.lt; omega : ¬ SR gx)
      have HSS := Lib.hid (fun j h1 h2 => by have := hSR _ h2; have := HW4.out.old j h1; omega : ∀ j, S1 j → ¬ SR j)
      have HNG := Lib.hid (not_old HT.out HSR.out)
      clear hR hSR hb5 HNR HB4 HW4 HX4 HY4 HLEN
      go_wp2_with (fail)
      go_loopw [56] (fun i wq => ∃ k : Nat, k ≤ 3 ∧ i = .int .i64 k ∧ RowS wq gy (fixed.take k) ∧ (∃ a, Rr wq gr SR a (allL true (fixed.take k) (fixed.drop k)) false) ∧ Wr wq g S1 L ∧ RowS wq gx fixed ∧ Below w.heap.size w wq) (fun i _ => 3 - (intOf i).toNat)
      case atStart => exact ⟨0, by omega, rfl, HY5.out, ⟨0, HR5.out⟩, HW5.out, HX5.out, HB5.out⟩
      case round =>
        clear HR5 HB5 HW5 HX5 HY5
        obtain ⟨k, hk, rfl, hy, ⟨a, hR⟩, hw, hx, hb⟩ := hrel
        have HBQ := Lib.hid hb
        have HY := Lib.hid hy
        have HW := Lib.hid hw
        have HX := Lib.hid hx
        obtain ⟨hkl, hv⟩ := fixed_at k (by omega)
        have hv64 : 1000 + 60 * k < 18446744073709551616 := by omega
        rw [allL_drop true fixed k hkl, hv] at hR
        have htl : (fixed.take k).length < 1000000 := by rw [List.length_take]; omega
        have HFT := Lib.hid (show fixed.take (k + 1) = fixed.take k ++ [1000 + 60 * k] from by rw [List.take_succ_eq_append_getElem hkl, hv])
        have HG := Lib.hid (getS_list gr gy a SR (fixed.take k) (1000 + 60 * k) _ _ (HT.out.below hb) HNG.out hy hR HSY.out htl hv64)
        have HNX := Lib.hid (fun (w6 : World) (hc : Ch (fun j => SR j ∨ j = gy) _ w6) => (HX.out.ch hc (fun h => by
          rcases h with h | h
          · exact HSX.out h
          · exact HXY.out h) : RowS w6 gx fixed))
        have HNW := Lib.hid (fun (w6 : World) (hc : Ch (fun j => SR j ∨ j = gy) _ w6) => (HW.out.ch hc (fun j hj h => by
          rcases h with h | h
          · exact HSS.out j hj h
          · exact HYS.out (h ▸ hj)) : Wr w6 g S1 L))
        clear hy hR hw hx hv htl hb
        by_cases hlt : k < 3
        · go_wp2_with (fail)
          refine HG.out.mono ?_
          rintro e w6 ⟨rfl, hy6, ⟨a6, hr6⟩, hc6⟩
          have HY6 := Lib.hid hy6
          have HR6 := Lib.hid hr6
          have HC6 := Lib.hid hc6
          clear hy6 hr6 hc6
          go_wp2
          go_roundw
          case rel => exact ⟨k + 1, by omega, by go_num, by rw [HFT.out]; exact HY6.out, ⟨_, HR6.out⟩, HNW.out _ HC6.out, HNX.out _ HC6.out, two_new HBQ.out HBQ.out.size HSR.out HGY'.out HC6.out⟩
          case measure => simp [intOf]; omega
        · obtain rfl : k = 3 := by omega
          rw [show i64 (1000 + 60 * 3) = 1180 from by decide] at HG
          rw [show fixed.take (3 + 1) = fixed from rfl] at HFT
          rw [← HFT.out, show allL true (fixed.take (3 + 1)) (fixed.drop (3 + 1)) = [] from rfl] at HG
          go_wp2_with (fail)
          refine HG.out.mono ?_
          rintro e w6 ⟨rfl, hy6, ⟨a6, hr6⟩, hc6⟩
          have hb6 := two_new HBQ.out HBQ.out.size HSR.out HGY'.out hc6
          have HW6 := Lib.hid (HNW.out _ hc6)
          have HX6 := Lib.hid (HNX.out _ hc6)
          have HG2 := Lib.hid (getS_row gr gy a6 SR [] _ _ _ w6 (HT.out.below hb6) HNG.out hy6.1 hr6 HSY.out (by decide))
          have HB6 := Lib.hid hb6
          clear hy6 hr6 hc6 hb6 HG HNX HNW HW HX HY HBQ HFT
          go_wp2_with (fail)
          refine HG2.out.mono ?_
          rintro e w7 ⟨hc7, hcase⟩
          have he : e = .returned (.tuple #[.int .i64 0, .int .i64 16]) ∧ TrS w7 gy (lastOf fixed) (stepOf fixed) fixed.length := by
            rcases hcase with ⟨-, he, -, hy7⟩ | ⟨k, x, t, hp, -⟩
            · exact ⟨he, hy7⟩
            · rw [show parse [] = none from rfl] at hp; cases hp
          obtain ⟨rfl, hy7⟩ := he
          have hw7 : Wr w7 g S1 L := HW6.out.ch hc7 fun j hj h => by
            rcases h with h | h
            · exact HSS.out j hj h
            · exact HYS.out (h ▸ hj)
          have hx7 : RowS w7 gx fixed := HX6.out.ch hc7 fun h => by
            rcases h with h | h
            · exact HSX.out h
            · exact HXY.out h
          have K1 := Lib.hid (len_calls g S1 L w7 hw7)
          have K2 := Lib.hid (rlenS_calls gx _ _ _ w7 hx7.1)
          have K3 := Lib.hid (stepS_calls gx _ _ _ w7 hx7.1)
          have K4 := Lib.hid (lastS_calls gy _ _ _ w7 hy7)
          rw [hLl] at K1
          rw [fixed_state.2, show i64 60 = 60 from by decide] at K3
          rw [fixed_state.1, show i64 1180 = 1180 from by decide] at K4
          rw [show fixed.length = 4 from rfl] at K2
          have HB7 := Lib.hid (two_new HB6.out HB6.out.size HSR.out HGY'.out hc7)
          clear hc7 hcase hy7 hw7 hx7 HG2
          go_wp2_with (first
            | (go_at_call 21; refine K1.out.mono ?_; rintro e w8 ⟨rfl, rfl⟩)
            | (go_at_call 36; refine K2.out.mono ?_; rintro e w8 ⟨rfl, rfl⟩)
            | (go_at_call 40; refine K3.out.mono ?_; rintro e w8 ⟨rfl, rfl⟩)
            | (go_at_call 47; refine K4.out.mono ?_; rintro e w8 ⟨rfl, rfl⟩))
          go_ret
          exact ⟨rfl, HB7.out⟩
end Go.Proofs.YtlbkdmggafkghaaDoor.Law13A
