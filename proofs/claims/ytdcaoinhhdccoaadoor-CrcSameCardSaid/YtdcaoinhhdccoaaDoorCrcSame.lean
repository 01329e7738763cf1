/- CrcSame: the walk. -/
import Derived.Test.YtdcaoinhhdccoaaDoorCrcBursts
import Derived.Deep.RegionLaw
namespace Go.Proofs.YtdcaoinhhdccoaaDoor.CrcSame
open Go.RowKit Go.Proofs.YtdcaoinhhdccoaaDoorW.PrintWords
open Go.Proofs.YtdcaoinhhdccoaaDoor.Bits Go.Proofs.YtdcaoinhhdccoaaDoor.Base Go.Proofs.YtdcaoinhhdccoaaDoor.LawBase Go.Proofs.YtdcaoinhhdccoaaDoor.CrcPure Go.Proofs.YtdcaoinhhdccoaaDoor.CrcStep Go.Proofs.YtdcaoinhhdccoaaDoor.CrcGo Go.Proofs.YtdcaoinhhdccoaaDoor.CrcOpen Go.Proofs.YtdcaoinhhdccoaaDoor.CrcBurst Go.Proofs.YtdcaoinhhdccoaaDoor.CrcAwake Go.Proofs.YtdcaoinhhdccoaaDoor.CrcTurns Go.Proofs.YtdcaoinhhdccoaaDoor.CrcBursts Go.Proofs.YtdcaoinhhdccoaaDoor.CrcLaws

theorem xor3_length (a b c : List UInt8) : (xor3 a b c).length = a.length := by simp [xor3]
theorem xor3_step (a b c : List UInt8) (k : Nat) (ha : k < a.length) (hb : k < b.length) (hc : k < c.length) : (xor3 a b c).take (k + 1) = (xor3 a b c).take k ++ [a[k] ^^^ b[k] ^^^ c[k]] := by
  rw [List.take_succ_eq_append_getElem (by rw [xor3_length]; exact ha)]
  simp [xor3, ha, hb, hc]
theorem byte_xor (x y : UInt8) : Go.bits .xor .u8 (x.toNat : Int) (y.toNat : Int) = ((x ^^^ y).toNat : Int) := by
  rw [u8_xor_nat _ _ x.toNat_lt y.toNat_lt, UInt8.toNat_xor]

set_option maxHeartbeats 1600000 in
theorem same0 (A B C : Option Addr) (ca cb cc : Nat) (a b c : List UInt8) (w : World) (ha : RdB w A a) (hb : RdB w B b) (hc : RdB w C c) (hT : Tab w) :
    Calls Tryd.prog 8 #[.slice A a.length ca, .slice B b.length cb, .slice C c.length cc] w fun e w' => e = .returned (.bool true) ∧ Below w.heap.size w w' := by
  have hma := ha.max
  have hmb := hb.max
  have hmc := hc.max
  rw [ints_length] at hma hmb hmc
  have HAW := Lib.hid (awake_any w hT)
  clear hT
  by_cases h1 : a.length > 100
  · have d1 : decide ((a.length : Int) > 100) = true := by simp; omega
    have d1' : decide (100 < (a.length : Int)) = true := by simp; omega
    clear ha hb hc
    go_enter Tryd.func8, Tryd.ntmps8
    go_wp2_with (go_at_call 10; refine (HAW.out _ (Below.refl _ _)).mono ?_; rintro e w' ⟨rfl, hbx⟩)
    go_ret
    exact ⟨rfl, hbx⟩
  · have d1 : decide ((a.length : Int) > 100) = false := by simp; omega
    have d1' : decide (100 < (a.length : Int)) = false := by simp; omega
    by_cases h2 : b.length = a.length
    · have d2 : ((b.length : Int) != (a.length : Int)) = false := by simp [h2]
      by_cases h3 : c.length = a.length
      · have d3 : ((c.length : Int) != (a.length : Int)) = false := by simp [h3]
        have H2 := Lib.hid h2
        have H3 := Lib.hid h3
        have HA := Lib.hid ha
        have HB := Lib.hid hb
        have HC := Lib.hid hc
        have hal : a.length ≤ 100 := by omega
        clear h2 h3 ha hb hc h1
        go_enter Tryd.func8, Tryd.ntmps8
        go_wp2
        go_loopw [7, 29] (fun v i wr => ∃ k : Nat, k ≤ a.length ∧ i = .int .i64 k ∧ OwB 5 wr w.heap.size v ((xor3 a b c).take k) ∧ Below w.heap.size w wr) (fun _ i _ => a.length - (intOf i).toNat)
        case atStart => exact ⟨0, by omega, rfl, OwI.nil _ _ _ _, Below.refl _ _⟩
        case round =>
          obtain ⟨k, hk, rfl, ho, hb⟩ := hrel
          have HO := Lib.hid ho
          have HBE := Lib.hid hb
          have hsz := hb.size
          clear ho hb
          by_cases hlt : k < a.length
          · have hkb : k < b.length := by have := H2.out; omega
            have hkc : k < c.length := by have := H3.out; omega
            obtain ⟨ad, rfl, ca1⟩ := RdB.at_ (HA.out.below HBE.out) k hlt
            obtain ⟨bd, rfl, cb1⟩ := RdB.at_ (HB.out.below HBE.out) k hkb
            obtain ⟨cd, rfl, cc1⟩ := RdB.at_ (HC.out.below HBE.out) k hkc
            have HX := Lib.hid (xor3_step a b c k hlt hkb hkc)
            have hx1 := byte_xor a[k] b[k]
            have hx2 := byte_xor (a[k] ^^^ b[k]) c[k]
            have hql : ((xor3 a b c).take k).length ≤ 100 := by rw [List.length_take, xor3_length]; omega
            go_wp2
            go_region_law (refine append_one_step (w0 := w) w.heap.size rfl (.tmp 32) (.tmp 47) 22 5 .u8 1 rfl Tryd.underlying22 info (by decide) _ (ints ((xor3 a b c).take k)) _ (by simp [Act.eval, Act.put]) (by simp [Act.eval, Act.put]) HO.out.drew (below_drew HBE.out) hsz (by rw [ints_length]; omega) ?_; intro v1 w1 ho1 hb1 _ _; have HO1 := Lib.hid ho1; have HB1 := Lib.hid hb1; clear ho1 hb1)
            all_goals
              go_wp2
              go_roundw
              case rel => exact ⟨k + 1, by omega, by go_num, by rw [HX.out, OwB, ints_append]; have h9 := HO1.out; have e2 := byte_xor (a[k] ^^^ b[k]) c[k]; simp only [UInt8.toNat_xor, ints, List.map_cons, List.map_nil] at h9 e2 ⊢; rw [e2] at h9; exact h9, HB1.out⟩
              case measure => simp [intOf]; omega
          · rw [List.take_of_length_le (by rw [xor3_length]; omega)] at HO
            obtain ⟨D, cd, rfl, _, hd⟩ := HO.out.reads
            have hxl := xor3_length a b c
            have hs := sum_xor3 a b c H2.out H3.out
            obtain ⟨X, hX⟩ : ∃ X, X = xor3 a b c := ⟨_, rfl⟩
            rw [← hX] at hxl hs hd ⊢
            have S1 := Lib.hid (sum_calls D cd X wr hd (by omega))
            have S2 := Lib.hid (sum_calls A ca a wr (HA.out.below HBE.out) (by omega))
            have S3 := Lib.hid (sum_calls B cb b wr (HB.out.below HBE.out) (by have := H2.out; omega))
            have S4 := Lib.hid (sum_calls C cc c wr (HC.out.below HBE.out) (by have := H3.out; omega))
            rw [hs, hxl] at S1
            rw [hxl]
            have hu1 := u_xor (sum a) (sum b)
            have hu2 := u_xor (sum a ^^^ sum b) (sum c)
            clear hd hs hX hxl
            go_wp2_with fail
            refine S1.out.mono ?_
            rintro e w' ⟨rfl, rfl⟩
            go_wp2_with fail
            refine S2.out.mono ?_
            rintro e w' ⟨rfl, rfl⟩
            go_wp2_with fail
            refine S3.out.mono ?_
            rintro e w' ⟨rfl, rfl⟩
            go_wp2_with fail
            refine S4.out.mono ?_
            rintro e w' ⟨rfl, rfl⟩
            go_wp2_with (go_at_call 10; refine (HAW.out _ HBE.out).mono ?_; rintro e w' ⟨rfl, hbx⟩)
            go_ret
            exact ⟨rfl, hbx⟩
      · have d3 : ((c.length : Int) != (a.length : Int)) = true := by rw [bne_iff_ne]; omega
        clear ha hb hc h2 h3
        go_enter Tryd.func8, Tryd.ntmps8
        go_wp2_with (go_at_call 10; refine (HAW.out _ (Below.refl _ _)).mono ?_; rintro e w' ⟨rfl, hbx⟩)
        go_ret
        exact ⟨rfl, hbx⟩
    · have d2 : ((b.length : Int) != (a.length : Int)) = true := by rw [bne_iff_ne]; omega
      clear ha hb hc h2
      go_enter Tryd.func8, Tryd.ntmps8
      go_wp2_with (go_at_call 10; refine (HAW.out _ (Below.refl _ _)).mono ?_; rintro e w' ⟨rfl, hbx⟩)
      go_ret
      exact ⟨rfl, hbx⟩
theorem walk (a0 : Option Addr) (len0 cap0 : Nat) (z0 : List Int) (a1 : Option Addr) (len1 cap1 : Nat) (z1 : List Int) (a2 : Option Addr) (len2 cap2 : Nat) (z2 : List Int) (w : World) (w0 : IsRow .u8 w a0 len0 cap0 z0) (w1 : IsRow .u8 w a1 len1 cap1 z1) (w2 : IsRow .u8 w a2 len2 cap2 z2) (hL : laidMetH Tryd.prog TabL w) :
    Calls Tryd.prog 8 #[.slice a0 len0 cap0, .slice a1 len1 cap1, .slice a2 len2 cap2] w fun e w' => e = .returned (.bool true) ∧ Below w.heap.size w w' := by
  obtain ⟨a, rfl, ha, _, _⟩ := w0.bytes
  obtain ⟨b, rfl, hb, _, _⟩ := w1.bytes
  obtain ⟨c, rfl, hc, _, _⟩ := w2.bytes
  exact same0 a0 a1 a2 cap0 cap1 cap2 a b c w ha hb hc (CrcLaidTab.tab_of hL)
end Go.Proofs.YtdcaoinhhdccoaaDoor.CrcSame
