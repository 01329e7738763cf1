/- the fixed answer of layer 23's statements. -/
import Derived.Test.YtdcaoinhhdccoaaDoorCrcBurst
namespace Go.Proofs.YtdcaoinhhdccoaaDoor.CrcAwake
open Go.RowKit Go.Proofs.YtdcaoinhhdccoaaDoorW.PrintWords
open Go.Proofs.YtdcaoinhhdccoaaDoor.Bits Go.Proofs.YtdcaoinhhdccoaaDoor.Base Go.Proofs.YtdcaoinhhdccoaaDoor.CrcPure Go.Proofs.YtdcaoinhhdccoaaDoor.CrcStep Go.Proofs.YtdcaoinhhdccoaaDoor.CrcGo Go.Proofs.YtdcaoinhhdccoaaDoor.CrcOpen Go.Proofs.YtdcaoinhhdccoaaDoor.CrcEq Go.Proofs.YtdcaoinhhdccoaaDoor.CrcConcat Go.Proofs.YtdcaoinhhdccoaaDoor.CrcOpenW Go.Proofs.YtdcaoinhhdccoaaDoor.CrcTurn Go.Proofs.YtdcaoinhhdccoaaDoor.CrcBurst

theorem open_calls (A : Option Addr) (c : Nat) (l : List UInt8) (w : World) (hr : RdB w A l) (hm : l.length ≤ 1000000) (hc : l.length ≤ c) :
    Calls Tryd.prog 17 #[.slice A l.length c] w fun e w' => ∃ v, e = .returned (.tuple #[v, .bool (decide (4 ≤ l.length) && decide (four (sum (l.take (l.length - 4))) = l.drop (l.length - 4)))]) ∧
      OwB 5 w' w.heap.size v (if 4 ≤ l.length then opened l (l.length - 4) else []) ∧ Below w.heap.size w w' := by
  by_cases h : 4 ≤ l.length
  · have := open_long A c (l.length - 4) l w hr (by omega) (by omega) (by omega)
    rw [show l.length - 4 + 4 = l.length from by omega] at this
    refine this.mono ?_
    rintro e w' ⟨v, rfl, ho, hb⟩
    exact ⟨v, by rw [decide_eq_true h]; rfl, by rw [if_pos h]; exact ho, hb⟩
  · refine (open_short A c l w (by omega)).mono ?_
    rintro e w' ⟨rfl, hd⟩
    exact ⟨_, by rw [decide_eq_false h]; rfl, by rw [if_neg h]; exact OwI.nil _ _ _ _, hd.below⟩
/-- what is sealed is opened. -/
theorem open_sealed (l : List UInt8) : (sealed l).length - 4 = l.length ∧ (sealed l).take l.length = l ∧ (sealed l).drop l.length = four (sum l) := by
  refine ⟨?_, ?_, ?_⟩
  · simp [sealed, four]
  · simp [sealed]
  · simp [sealed]

set_option maxHeartbeats 1600000 in
theorem awake_calls (w : World) (hT : Tab w) :
    Calls Tryd.prog 10 #[] w fun e w' => e = .returned (.bool true) ∧ Below w.heap.size w w' := by
  have HT := Lib.hid hT
  clear hT
  have kc := fun (w : World) (C : Array Value) (n c : Nat) => Lib.run_convert_bytes_const (P := Tryd.prog) w 22 5 C n c Tryd.underlying22 Tryd.underlying5
  go_enter Tryd.func10, Tryd.ntmps10
  go_wp2_with fail
  have b1 : Below w.heap.size w (w.alloc (.cells #[.int .u8 0, .int .u8 255] 5)) := below_alloc (Below.refl _ _) _
  have r1 : RdB (w.alloc (.cells #[.int .u8 0, .int .u8 255] 5)) (some ⟨w.heap.size, 0, none⟩) [0, 255] := RdI.lit .u8 w _ (0, 0) (ints [0, 255]) (by decide)
  have B1 := Lib.hid b1
  have R1 := Lib.hid r1
  clear b1 r1
  refine (burst_ok (some ⟨w.heap.size, 0, none⟩) 2 [0, 255] 7 3221225472#32 _ R1.out (by decide) (HT.out.below B1.out) (by intro _; decide) (by decide)).mono ?_
  rintro e w1 ⟨v1, rfl, ho, hb⟩
  have B2 := Lib.hid (below_then B1.out B1.out.size hb)
  rw [show burst [0, 255] 7 3221225472#32 = [1, 127] from by decide +kernel] at ho
  obtain ⟨A1, c1, rfl, hc1, hr1⟩ := ho.reads
  have R1 := Lib.hid hr1
  clear ho hb hr1 B1 hc1
  go_wp2_with fail
  -- the second burst goes too far
  have B3 := Lib.hid (below_alloc B2.out (.cells #[.int .u8 0, .int .u8 255] 5))
  refine (burst_far _ 2 2 15 3221225472#32 _ (by decide) (HT.out.below B3.out) (by decide) (by decide) (by decide +kernel)).mono ?_
  rintro e w2 ⟨rfl, rfl⟩
  have R3 := Lib.hid (R1.out.alloc (.cells #[.int .u8 0, .int .u8 255] 5))
  generalize (w1.alloc (.cells #[.int .u8 0, .int .u8 255] 5)) = W3 at *
  clear R1 B2
  go_wp2_with fail
  -- sealed and opened
  have b4 := below_alloc B3.out (.cells #[.int .u8 97, .int .u8 98] 5 (2, 3))
  have r4 : RdB (W3.alloc (.cells #[.int .u8 97, .int .u8 98] 5 (2, 3))) (some ⟨W3.heap.size, 0, none⟩) [97, 98] := RdI.lit .u8 W3 _ (2, 3) (ints [97, 98]) (by decide)
  have r5 := R3.out.alloc (.cells #[.int .u8 97, .int .u8 98] 5 (2, 3))
  have B4 := Lib.hid b4
  have R4 := Lib.hid r4
  have R5 := Lib.hid r5
  clear b4 r4 r5 R3
  refine (seal_calls (some ⟨W3.heap.size, 0, none⟩) 2 [97, 98] _ R4.out (by decide)).mono ?_
  rintro e w4 ⟨v4, rfl, ho, hb⟩
  have B5 := Lib.hid (below_then B4.out B4.out.size hb)
  have R6 := Lib.hid (R5.out.below hb)
  obtain ⟨A4, c4, rfl, hc4, hr4⟩ := ho.reads
  have R7 := Lib.hid hr4
  clear ho hb hr4 R5 R4 B4 B3
  go_wp2_with fail
  have hopen := open_calls A4 c4 (sealed [97, 98]) w4 R7.out (by decide) hc4
  have H := Lib.hid hopen
  clear hopen hc4
  refine H.out.mono ?_
  rintro e w5 ⟨v5, rfl, ho, hb⟩
  have B6 := Lib.hid (below_then B5.out B5.out.size hb)
  have R8 := Lib.hid (R6.out.below hb)
  have hq1 : (decide (4 ≤ (sealed [97, 98]).length) && decide (four (sum ((sealed [97, 98]).take ((sealed [97, 98]).length - 4))) = (sealed [97, 98]).drop ((sealed [97, 98]).length - 4))) = true := by decide +kernel
  have hq2 : (if 4 ≤ (sealed [97, 98]).length then opened (sealed [97, 98]) ((sealed [97, 98]).length - 4) else []) = [97, 98] := by decide +kernel
  rw [hq2] at ho
  rw [hq1]
  obtain ⟨A5, c5, rfl, hc5, hr5⟩ := ho.reads
  have R9 := Lib.hid hr5
  clear ho hb hr5 R6 R7 B5 H hq1 hq2
  go_wp2_with fail
  have s1 := sum_calls none 0 [] w5 (RdI.nil .u8 w5 none) (by decide)
  rw [show u (sum []) = 0 from by decide +kernel] at s1
  refine s1.mono ?_
  clear s1
  rintro e w' ⟨rfl, rfl⟩
  go_wp2_with fail
  have r : RdB (w5.alloc (.cells #[.int .u8 0] 5)) (some ⟨w5.heap.size, 0, none⟩) [0] := RdI.lit .u8 w5 5 (0, 0) (ints [0]) (by decide)
  have s2 := sum_calls (some ⟨w5.heap.size, 0, none⟩) 1 [0] _ r (by decide)
  obtain ⟨x, hx⟩ : ∃ x, x = u (sum [0]) := ⟨_, rfl⟩
  have hx0 : (x == 0) = false := by rw [hx]; decide +kernel
  have hx1 : (x != 0) = true := by rw [hx]; decide +kernel
  rw [← hx] at s2
  have S2 := Lib.hid s2
  have B7 := Lib.hid (below_alloc B6.out (.cells #[.int .u8 0] 5))
  have r8 := R8.out.alloc (.cells #[.int .u8 0] 5)
  have r9 := R9.out.alloc (.cells #[.int .u8 0] 5)
  clear r s2 hx R8 R9 B6
  refine S2.out.mono ?_
  rintro e w' ⟨rfl, rfl⟩
  have c1 := RdB.string (P := Tryd.prog) (src := 22) (dst := 9) (e := 5) (n := 2) (c := c1) r8 rfl Tryd.underlying22 Tryd.underlying5 Tryd.underlying9
  have c2 := RdB.string (P := Tryd.prog) (src := 22) (dst := 9) (e := 5) (n := 2) (c := c5) r9 rfl Tryd.underlying22 Tryd.underlying5 Tryd.underlying9
  have e1 : str [1, 127] = ⟨#[1, 127]⟩ := rfl
  have e2 : str [97, 98] = ⟨#[97, 98]⟩ := rfl
  rw [e1] at c1
  rw [e2] at c2
  generalize (w5.alloc (.cells #[.int .u8 0] 5)) = W7 at *
  clear r8 r9 e1 e2 S2
  go_wp2_with fail
  -- the sums of parts
  have r10 : RdB (W7.alloc (.cells #[.int .u8 97] 5 (1, 2))) (some ⟨W7.heap.size, 0, none⟩) [97] := RdI.lit .u8 W7 5 (1, 2) (ints [97]) (by decide)
  have B8 := Lib.hid (below_alloc B7.out (.cells #[.int .u8 97] 5 (1, 2)))
  have s3 := sum_calls (some ⟨W7.heap.size, 0, none⟩) 1 [97] _ r10 (by decide)
  have S3 := Lib.hid s3
  clear r10 s3 B7 c1 c2
  refine S3.out.mono ?_
  rintro e w' ⟨rfl, rfl⟩
  clear S3
  generalize (W7.alloc (.cells #[.int .u8 97] 5 (1, 2))) = W8 at *
  go_wp2_with fail
  have r11 : RdB (W8.alloc (.cells #[.int .u8 98] 5 (1, 2))) (some ⟨W8.heap.size, 0, none⟩) [98] := RdI.lit .u8 W8 5 (1, 2) (ints [98]) (by decide)
  have B9 := Lib.hid (below_alloc B8.out (.cells #[.int .u8 98] 5 (1, 2)))
  have s4 := go_calls (sum [97]) (some ⟨W8.heap.size, 0, none⟩) 1 [98] _ r11 (by decide)
  have S4 := Lib.hid s4
  clear r11 s4 B8
  refine S4.out.mono ?_
  rintro e w' ⟨rfl, rfl⟩
  clear S4
  generalize (W8.alloc (.cells #[.int .u8 98] 5 (1, 2))) = W9 at *
  go_wp2_with fail
  have r12 : RdB (W9.alloc (.cells #[.int .u8 97, .int .u8 98] 5 (2, 3))) (some ⟨W9.heap.size, 0, none⟩) [97, 98] := RdI.lit .u8 W9 5 (2, 3) (ints [97, 98]) (by decide)
  have B10 := Lib.hid (below_alloc B9.out (.cells #[.int .u8 97, .int .u8 98] 5 (2, 3)))
  have s5 := sum_calls (some ⟨W9.heap.size, 0, none⟩) 2 [97, 98] _ r12 (by decide)
  have hsum : CrcPure.go (sum [97]) [98] = sum [97, 98] := by decide +kernel
  rw [hsum]
  have S5 := Lib.hid s5
  clear r12 s5 B9 hsum
  refine S5.out.mono ?_
  rintro e w' ⟨rfl, rfl⟩
  clear S5
  go_wp2
  go_ret
  exact ⟨by simp, B10.out⟩
end Go.Proofs.YtdcaoinhhdccoaaDoor.CrcAwake
