/- CrcSums: the walk. -/
import Derived.Test.YtdcaoinhhdccoaaDoorCrcAwake
import Derived.Test.YtdcaoinhhdccoaaDoorCrcRef
import Derived.Test.YtdcaoinhhdccoaaDoorCrcLaidTab
import Derived.Deep.RegionWith
namespace Go.Proofs.YtdcaoinhhdccoaaDoor.CrcSums
open Go.RowKit Go.Proofs.YtdcaoinhhdccoaaDoorW.PrintWords
open Go.Proofs.YtdcaoinhhdccoaaDoor.Bits Go.Proofs.YtdcaoinhhdccoaaDoor.Base Go.Proofs.YtdcaoinhhdccoaaDoor.LawBase Go.Proofs.YtdcaoinhhdccoaaDoor.CrcPure Go.Proofs.YtdcaoinhhdccoaaDoor.CrcStep Go.Proofs.YtdcaoinhhdccoaaDoor.CrcGo Go.Proofs.YtdcaoinhhdccoaaDoor.CrcOpen Go.Proofs.YtdcaoinhhdccoaaDoor.CrcBurst Go.Proofs.YtdcaoinhhdccoaaDoor.CrcAwake

set_option maxHeartbeats 1600000 in
theorem walk0 (A : Option Addr) (c : Nat) (a : List UInt8) (B : Option Addr) (d : Nat) (b : List UInt8) (w : World) (ha : RdB w A a) (hc : a.length ≤ c) (hb : RdB w B b) (hd : b.length ≤ d) (hT : Tab w) :
    Calls Tryd.prog 3 #[.slice A a.length c, .slice B b.length d] w fun e w' => e = .returned (.bool true) ∧ Below w.heap.size w w' := by
  have haw := awake_calls w hT
  have HAW := Lib.hid haw
  clear haw
  by_cases hbig : a.length > 300 ∨ b.length > 300
  · by_cases hA : a.length > 300
    · have h1 : decide ((a.length : Int) > 300) = true := by simp; omega
      have h1' : decide (300 < (a.length : Int)) = true := by simp; omega
      have ma := ha.max
      have mb := hb.max
      rw [ints_length] at ma mb
      clear ha hb hbig hT
      go_enter Tryd.func3, Tryd.ntmps3
      go_wp2_with (go_at_call 10; refine HAW.out.mono ?_; rintro e w' ⟨rfl, hbx⟩)
      go_ret
      exact ⟨rfl, hbx⟩
    · have h1 : decide ((a.length : Int) > 300) = false := by simp; omega
      have h1' : decide (300 < (a.length : Int)) = false := by simp; omega
      have h2 : decide ((b.length : Int) > 300) = true := by simp; omega
      have h2' : decide (300 < (b.length : Int)) = true := by simp; omega
      have ma := ha.max
      have mb := hb.max
      rw [ints_length] at ma mb
      clear ha hb hbig hT
      go_enter Tryd.func3, Tryd.ntmps3
      go_wp2_with (go_at_call 10; refine HAW.out.mono ?_; rintro e w' ⟨rfl, hbx⟩)
      go_ret
      exact ⟨rfl, hbx⟩
  · have h1 : decide ((a.length : Int) > 300) = false := by simp; omega
    have h2 : decide ((b.length : Int) > 300) = false := by simp; omega
    have h1' : decide (300 < (a.length : Int)) = false := by simp; omega
    have h2' : decide (300 < (b.length : Int)) = false := by simp; omega
    have ha3 : a.length ≤ 300 := by omega
    have hb3 : b.length ≤ 300 := by omega
    have HA := Lib.hid ha
    have HB := Lib.hid hb
    clear ha hb hbig
    go_enter Tryd.func3, Tryd.ntmps3
    go_wp2_with (first
      | (at_builtin; refine append_row (w0 := w) w.heap.size rfl (.tmp 15) (.tmp 16) 22 5 .u8 1 rfl Tryd.underlying22 info (by decide) _ [] (ints a) A a.length c rfl rfl (ints_length a) (OwI.lit w w.heap.size 5 .u8 [] (Nat.le_refl _) (by decide)) (HA.out.alloc _) (below_alloc (Below.refl _ _) _) (by simp) (by simp; omega) ?_; intro v1 w1 ho1 hb1 _ _; have HO1 := Lib.hid ho1; have HB1 := Lib.hid hb1; have hz1 := hb1.size; clear ho1 hb1)
      | (at_builtin; refine append_row (w0 := w) w.heap.size rfl (.tmp 17) (.tmp 18) 22 5 .u8 1 rfl Tryd.underlying22 info (by decide) _ ([] ++ ints a) (ints b) B b.length d rfl rfl (ints_length b) HO1.out (HB.out.below HB1.out) HB1.out hz1 (by simp [ints_length]; omega) ?_; intro v2 w2 ho2 hb2 _ _; have HO2 := Lib.hid ho2; have HB2 := Lib.hid hb2; have hz2 := hb2.size; clear ho2 hb2))
    have ho : OwB 5 w2 w.heap.size v2 (a ++ b) := by have := HO2.out; rw [OwB, ints_append]; exact this
    obtain ⟨L, e, rfl, hle, hl⟩ := ho.reads
    obtain ⟨l, hlab⟩ : ∃ l, l = a ++ b := ⟨_, rfl⟩
    have hll : l.length ≤ 600 := by rw [hlab, List.length_append]; omega
    rw [← hlab] at hl hle
    have HL := Lib.hid hl
    have HLAB := Lib.hid hlab
    rw [← hlab]
    clear ho hl hlab HO1 HB1 HO2
    have hcv : ∀ W, Below w2.heap.size w2 W → (convert 22 9 (.slice L l.length e)).run Tryd.prog W = .ok (.string (str l)) W := fun W hb =>
      RdB.string (HL.out.below hb) rfl Tryd.underlying22 Tryd.underlying5 Tryd.underlying9
    have c1 : ∀ W, Below w2.heap.size w2 W → Calls Tryd.prog 11 #[.slice L l.length e] W fun e w' => e = .returned (.int .u32 (u (sum l))) ∧ W = w' := fun W hb => sum_calls L e l W (HL.out.below hb) (by omega)
    have c2 : ∀ W, Below w2.heap.size w2 W → Calls Tryd.prog 11 #[.slice A a.length c] W fun e w' => e = .returned (.int .u32 (u (sum a))) ∧ W = w' := fun W hb => sum_calls A c a W (HA.out.below (below_then HB2.out hz2 hb)) (by omega)
    have c3 : ∀ W, Below w2.heap.size w2 W → Calls Tryd.prog 13 #[.int .u32 (u (sum a)), .slice B b.length d] W fun e w' => e = .returned (.int .u32 (u (sum l))) ∧ W = w' := fun W hb => by
      have := go_calls (sum a) B d b W (HB.out.below (below_then HB2.out hz2 hb)) (by omega)
      rw [show CrcPure.go (sum a) b = sum l by rw [HLAB.out]; exact (go_append 0#32 a b).symm] at this
      exact this
    have c4 : ∀ W, Below w2.heap.size w2 W → Calls Tryd.prog 12 #[.string (str l)] W fun e w' => e = .returned (.int .u32 (u (sum l))) ∧ Below w2.heap.size w2 w' := fun W hb => by
      have := CrcRef.sum_calls (str l) W (by rw [str_size]; omega)
      refine this.mono ?_
      rintro e w' ⟨rfl, h⟩
      exact ⟨by simp [str, u], below_then hb hb.size h⟩
    have c5 : ∀ W, Below w2.heap.size w2 W → Calls Tryd.prog 10 #[] W fun e w' => e = .returned (.bool true) ∧ Below w2.heap.size w2 w' := fun W hb => by
      refine (awake_calls W (hT.below (below_then HB2.out hz2 hb))).mono ?_
      rintro e w' ⟨rfl, h⟩
      exact ⟨rfl, below_then hb hb.size h⟩
    have C1 := Lib.hid c1
    have C2 := Lib.hid c2
    have C3 := Lib.hid c3
    have C4 := Lib.hid c4
    have C5 := Lib.hid c5
    obtain ⟨q, hq⟩ : ∃ q, q = u (sum l) := ⟨_, rfl⟩
    rw [← hq] at C1 C3 C4
    have hqq : (q == q) = true := by simp
    clear c1 c2 c3 c4 c5 hq hT
    go_region_held3 (fun W => Below w2.heap.size w2 W)
      (first | exact below_drew (Below.refl _ _) | assumption)
      (first
      | (go_at_call_of 11 L; refine (C1.out _ (by assumption)).mono ?_; rintro e w' ⟨rfl, rfl⟩)
      | (go_at_call_of 11 A; refine (C2.out _ (by assumption)).mono ?_; rintro e w' ⟨rfl, rfl⟩)
      | (go_at_call 13; refine (C3.out _ (by assumption)).mono ?_; rintro e w' ⟨rfl, rfl⟩)
      | (go_at_call 12; refine (C4.out _ (by assumption)).mono ?_; rintro e w' ⟨rfl, hbx⟩)
      | (go_at_call 10; refine (C5.out _ (by assumption)).mono ?_; rintro e w' ⟨rfl, hbx⟩))
    all_goals
      go_wp2
      go_ret
      exact ⟨rfl, below_then HB2.out hz2 (by assumption)⟩

theorem walk (a0 : Option Addr) (len0 cap0 : Nat) (z0 : List Int) (a1 : Option Addr) (len1 cap1 : Nat) (z1 : List Int) (w : World) (h0 : IsRow .u8 w a0 len0 cap0 z0) (h1 : IsRow .u8 w a1 len1 cap1 z1)
    (hL : laidMetH Tryd.prog [("math/bits.deBruijn32tab", Rows.laid_math_bits_deBruijn32tab)] w) :
    Calls Tryd.prog 3 #[.slice a0 len0 cap0, .slice a1 len1 cap1] w fun e w' => e = .returned (.bool true) ∧ Below w.heap.size w w' := by
  obtain ⟨a, rfl, ha, hca, _⟩ := h0.bytes
  obtain ⟨b, rfl, hb, hcb, _⟩ := h1.bytes
  exact walk0 a0 cap0 a a1 cap1 b w ha hca hb hcb (CrcLaidTab.tab_of hL)
end Go.Proofs.YtdcaoinhhdccoaaDoor.CrcSums
