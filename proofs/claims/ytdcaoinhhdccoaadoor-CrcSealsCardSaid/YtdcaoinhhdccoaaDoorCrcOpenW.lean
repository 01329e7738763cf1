/- crc's walks: Open. -/
import Derived.Test.YtdcaoinhhdccoaaDoorCrcConcat
import Derived.RegionTactic
import Derived.Deep.RegionHeld3
namespace Go.Proofs.YtdcaoinhhdccoaaDoor.CrcOpenW
open Go.RowKit Go.Proofs.YtdcaoinhhdccoaaDoorW.PrintWords
open Go.Proofs.YtdcaoinhhdccoaaDoor.Bits Go.Proofs.YtdcaoinhhdccoaaDoor.Base Go.Proofs.YtdcaoinhhdccoaaDoor.CrcPure Go.Proofs.YtdcaoinhhdccoaaDoor.CrcStep Go.Proofs.YtdcaoinhhdccoaaDoor.CrcGo Go.Proofs.YtdcaoinhhdccoaaDoor.CrcOpen Go.Proofs.YtdcaoinhhdccoaaDoor.CrcEq Go.Proofs.YtdcaoinhhdccoaaDoor.CrcConcat

set_option maxHeartbeats 400000 in
theorem open_short (A : Option Addr) (c : Nat) (l : List UInt8) (w : World) (hm : l.length < 4) :
    Calls Tryd.prog 17 #[.slice A l.length c] w fun e w' => e = .returned (.tuple #[.slice none 0 0, .bool false]) ∧ Drawn0 w w' := by
  have h1 : decide ((l.length : Int) - 4 < 0) = true := by simp; omega
  go_enter Tryd.func17, Tryd.ntmps17
  go_wp2
  go_quiet (fail)
  go_wp2
  go_ret2
  exact ⟨rfl, by repeat (first | exact Drawn0.refl _ | apply Drawn0.step)⟩

/-- what is opened. -/
def opened (l : List UInt8) (m : Nat) : List UInt8 := if four (sum (l.take m)) = l.drop m then l.take m else []

set_option maxHeartbeats 800000 in
theorem open_long (A : Option Addr) (c m : Nat) (l : List UInt8) (w : World) (hr : RdB w A l) (hl : m + 4 = l.length) (hm : m ≤ 1000000) (hc : m + 4 ≤ c) :
    Calls Tryd.prog 17 #[.slice A (m + 4) c] w fun e w' => ∃ v, e = .returned (.tuple #[v, .bool (decide (four (sum (l.take m)) = l.drop m))]) ∧
      OwB 5 w' w.heap.size v (opened l m) ∧ Below w.heap.size w w' := by
  have h1 : decide ((m : Int) < 0) = false := by simp
  have hl1 : (l.take m).length = m := by rw [List.length_take]; omega
  have hl2 : (l.drop m).length = 4 := by rw [List.length_drop]; omega
  have ht : RdB w A (l.take m) := by rw [RdB, ints_take]; exact RdI.take hr m
  obtain ⟨i0, hi, hz0, hz1, hz2⟩ := info_parts info
  have hh := hr.rd
  rw [← hl] at hh
  obtain ⟨B, hcut, hB⟩ := print_cut (P := Tryd.prog) 22 5 .i64 Tryd.underlying22 hi hz1 A (m + 4) c m (by omega)
  have hd : RdB w B (l.drop m) := by
    have := hB w .u8 (ints l) hc hh
    rw [RdB, RdI, ints_drop, List.length_drop, ints_length, ← hl]
    exact this
  rw [show m + 4 - m = 4 from by omega] at hcut
  obtain ⟨q, hq⟩ : ∃ q, q = decide (four (sum (l.take m)) = l.drop m) := ⟨_, rfl⟩
  have HE : ∀ (D : Option Addr) (d : Nat) (w1 : World), RdB w1 D (four (sum (l.take m))) → RdB w1 B (l.drop m) → Calls Tryd.prog 26 #[.slice D (four (sum (l.take m))).length d, .slice B 4 (c - m)] w1 fun e w' => e = .returned (.bool q) ∧ Drawn0 w1 w' := by
    intro D d w1 h1 h2
    have := equal_calls D B d (c - m) _ _ w1 h1 h2
    rw [hl2, ← hq] at this
    exact this
  rw [← hq]
  have HQ2 := Lib.hid hq
  have HT := Lib.hid ht
  have HD := Lib.hid hd
  have hs := sum_calls A c (l.take m) w.drew ht (by omega)
  rw [hl1] at hs
  have HS := Lib.hid hs
  have hf := four_calls (sum (l.take m)) w.drew
  have HF := Lib.hid hf
  have hmc : (m : Int) ≤ (c : Int) := by omega
  have hm0 : (0 : Int) ≤ (m : Int) := by omega
  have HC : ∀ w1, Below w.heap.size w w1 → Calls Tryd.prog 27 #[.slice A m c] w1 fun e w' => ∃ v, e = .returned v ∧ OwB 5 w' w.heap.size v (l.take m) ∧ Below w.heap.size w w' := by
    intro w1 hb1
    have hsz := hb1.size
    by_cases hA : A = none
    · exact absurd hA (by rintro rfl; obtain ⟨ad, he⟩ := RdI.some_ hr (by rw [ints_length]; omega); cases he)
    · have := clone_calls A c (l.take m) w1 (ht.below hb1) (by omega) (by omega) (fun h => absurd h hA)
      rw [hl1] at this
      exact this.mono fun e w2 ⟨v, he, ho, hb⟩ => ⟨v, he, ho.lower hsz, below_then hb1 hsz hb⟩
  clear hs hf hl1 hl2 ht hd hh hB hr hl hz0 hz1 hz2 hi hq
  cases q with
  | false =>
    go_enter Tryd.func17, Tryd.ntmps17
    go_wp2
    go_region_held3 (fun w' => Below w.heap.size w w')
      (first | exact below_drew (Below.refl _ _) | exact HBB.out | exact pw_below_drewN HBB.out _)
      (first
      | (go_at_call 11; refine HS.out.mono ?_; rintro e w' ⟨rfl, rfl⟩)
      | (go_at_call 25; refine HF.out.mono ?_; rintro e w1 ⟨v, rfl, ho, hb⟩; obtain ⟨D, d, rfl, hdd, hq⟩ := ho.reads; have HQ := Lib.hid hq; have HBB := Lib.hid (below_then (below_drew (Below.refl w.heap.size w)) (Nat.le_refl _) hb); clear ho hb hq hdd)
      | (go_at_call 26; refine (HE _ _ _ HQ.out (HD.out.below HBB.out)).mono ?_; rintro e w2 ⟨rfl, ⟨k, rfl⟩⟩))
    all_goals
      go_wp2
      go_ret2
      refine ⟨_, rfl, ?_, by assumption⟩
      rw [opened, if_neg (of_decide_eq_false HQ2.out.symm)]
      exact OwI.nil _ _ _ _
  | true =>
    go_enter Tryd.func17, Tryd.ntmps17
    go_wp2
    go_region_held3 (fun w' => Below w.heap.size w w')
      (first | exact below_drew (Below.refl _ _) | exact HBB.out | exact pw_below_drewN HBB.out _)
      (first
      | (go_at_call 11; refine HS.out.mono ?_; rintro e w' ⟨rfl, rfl⟩)
      | (go_at_call 25; refine HF.out.mono ?_; rintro e w1 ⟨v, rfl, ho, hb⟩; obtain ⟨D, d, rfl, hdd, hq⟩ := ho.reads; have HQ := Lib.hid hq; have HBB := Lib.hid (below_then (below_drew (Below.refl w.heap.size w)) (Nat.le_refl _) hb); clear ho hb hq hdd)
      | (go_at_call 26; refine (HE _ _ _ HQ.out (HD.out.below HBB.out)).mono ?_; rintro e w2 ⟨rfl, ⟨k, rfl⟩⟩))
    all_goals
      go_wp2_with (go_at_call 27; refine (HC _ (by assumption)).mono ?_; rintro e w3 ⟨v3, rfl, ho3, hb3⟩)
      go_ret2
      refine ⟨_, rfl, ?_, hb3⟩
      rw [opened, if_pos (of_decide_eq_true HQ2.out.symm)]
      exact ho3
end Go.Proofs.YtdcaoinhhdccoaaDoor.CrcOpenW
