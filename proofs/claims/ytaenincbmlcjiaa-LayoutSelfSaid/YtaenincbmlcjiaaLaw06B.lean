/- law 06: the fixed answer. -/
import Derived.Test.YtaenincbmlcjiaaLaw06A
import Derived.Test.YtaenincbmlcjiaaProg
namespace Go.Proofs.Ytaenincbmlcjiaa.Law06B
open Go.RowKit Go.Proofs.YtaenincbmlcjiaaW.PrintWords
open Go.Proofs.Ytaenincbmlcjiaa.Base Go.Proofs.Ytaenincbmlcjiaa.SpanPure Go.Proofs.Ytaenincbmlcjiaa.SpanPure2 Go.Proofs.Ytaenincbmlcjiaa.SpanBase Go.Proofs.Ytaenincbmlcjiaa.SpanA Go.Proofs.Ytaenincbmlcjiaa.SpanB Go.Proofs.Ytaenincbmlcjiaa.SpanD Go.Proofs.Ytaenincbmlcjiaa.SpanG Go.Proofs.Ytaenincbmlcjiaa.Ref06

theorem rd_lit (w : World) (t : Nat) (cs : Array Value) (l : List Sp) (h : cs = (spc l).toArray) (hm : l.length ≤ 1000000000000) : RdSp (w.alloc (.cells cs t)) (some ⟨w.heap.size, 0, none⟩) l := by
  subst h
  obtain ⟨A, c, he, -, -, hr⟩ := (OwSp.lit w t l hm).reads
  injection he with he
  subst he
  exact hr
/-- a contract, in the world of the law. -/
theorem lift {P : Program} {f : Nat} {args : Array Value} {n : Nat} {w W : World} {Q : Ending → Prop} (hb : Below n w W) (hn : n ≤ W.heap.size) (h : Calls P f args W fun e w' => Q e ∧ Below W.heap.size W w') :
    Calls P f args W fun e w' => Q e ∧ Below n w w' := h.mono fun _ _ ⟨h1, h2⟩ => ⟨h1, below_then hb hn h2⟩

abbrev L1 : List Sp := [(3, 2), (1, 1)]
abbrev L2 : List Sp := [(3, 1), (0, 1), (1, 1)]
abbrev L3 : List Sp := [(5, 1)]
theorem f_chk1 : chk L1 = 0 := by decide
theorem f_chk2 : chk L2 = 0 := by decide
theorem f_chk3 : chk L3 = 0 := by decide
theorem f_chk4 : chk [(0, -1)] = 20 := by decide
theorem f_pl1 : places L1 = [3, 4, 6] := by decide
theorem f_canon : fromL (places L2) = L1 := by decide
theorem f_can : canonical L1 = true := by decide
theorem f_uni : uni (places L1) (places L3) = [3, 4, 5, 6] := by
  refine rise_ext (uni_spec _ _).1 (by unfold Rise; decide) fun x => ?_
  rw [(uni_spec _ _).2, f_pl1, show places L3 = [5] from by decide]
  simp only [List.mem_cons, List.not_mem_nil, or_false]
  omega
theorem f_from : fromL (uni (places L1) (places L3)) = [(3, 4)] := by rw [f_uni]; decide

set_option maxRecDepth 100000 in
set_option maxHeartbeats 3200000 in
theorem awake_calls (w : World) :
    Calls Try.prog 12 #[] w fun e w' => e = .returned (.bool true) ∧ Below w.heap.size w w' := by
  go_enter Try.func12, Try.ntmps12
  go_wp2_with (fail)
  have hl1 := rd_lit w 43 #[.int .i64 3, .int .i64 2, .int .i64 1, .int .i64 1] L1 rfl (by decide)
  have HW0 := Lib.hid (below_alloc (Below.refl w.heap.size w) (.cells #[.int .i64 3, .int .i64 2, .int .i64 1, .int .i64 1] 43))
  have HL1 := Lib.hid hl1
  refine (SpanD.places_calls (some ⟨w.heap.size, 0, none⟩) 2 L1 _ hl1 (by decide) (by decide) (fun h => by cases h)).mono ?_
  clear hl1
  rintro e w1 ⟨hb1, ⟨h0, -⟩ | ⟨-, v1, rfl, ho1⟩⟩
  · exact absurd f_chk1 h0
  have HB1 := Lib.hid (below_then HW0.out (by simp) hb1)
  have HL1a := Lib.hid (HL1.out.below hb1)
  rw [f_pl1] at ho1
  obtain ⟨A1, c1, rfl, -, hr1⟩ := ho1.reads
  have HR1 := Lib.hid hr1
  clear hb1 ho1 hr1 HL1
  go_wp2_with (fail)
  have hl2 := rd_lit w1 43 #[.int .i64 3, .int .i64 1, .int .i64 0, .int .i64 1, .int .i64 1, .int .i64 1] L2 rfl (by decide)
  have HW1 := Lib.hid (below_alloc (Below.refl w1.heap.size w1) (.cells #[.int .i64 3, .int .i64 1, .int .i64 0, .int .i64 1, .int .i64 1, .int .i64 1] 43))
  refine (canon_calls (some ⟨w1.heap.size, 0, none⟩) 3 L2 _ hl2 (by decide) (by decide) (fun h => by cases h)).mono ?_
  clear hl2
  rintro e w2 ⟨hb2, ⟨h0, -⟩ | ⟨-, v2, rfl, ho2⟩⟩
  · exact absurd f_chk2 h0
  rw [f_canon] at ho2
  have HC2 := Lib.hid (below_then HW1.out (by simp) hb2)
  have HB2 := Lib.hid (below_then HB1.out HB1.out.size HC2.out)
  obtain ⟨A2, c2, rfl, hc2, hA2, hr2⟩ := ho2.reads
  have HR2 := Lib.hid hr2
  have HA2 := Lib.hid hA2
  clear hb2 ho2 hr2 HW1 hA2
  go_wp2_with (fail)
  have hl3 := rd_lit w2 43 #[.int .i64 5, .int .i64 1] L3 rfl (by decide)
  have HW2 := Lib.hid (below_alloc (Below.refl w2.heap.size w2) (.cells #[.int .i64 5, .int .i64 1] 43))
  refine (union_calls (some ⟨w.heap.size, 0, none⟩) (some ⟨w2.heap.size, 0, none⟩) 2 1 L1 L3 _ ((HL1a.out.below HC2.out).below HW2.out) hl3 (by decide) (by decide) (by decide) (by decide) (fun h => by cases h) (fun h => by cases h)).mono ?_
  clear hl3
  rintro e w3 ⟨hb3, ⟨h0, -⟩ | ⟨-, h0, -⟩ | ⟨-, -, h0, -⟩ | ⟨-, -, -, -, v3, rfl, ho3⟩⟩
  · exact absurd f_chk1 h0
  · exact absurd f_chk3 h0
  · rw [f_from, f_uni] at h0; simp at h0
  rw [f_from] at ho3
  have HC3 := Lib.hid (below_then HW2.out (by simp) hb3)
  have HB3 := Lib.hid (below_then HB2.out HB2.out.size HC3.out)
  have HL1c := Lib.hid ((HL1a.out.below HC2.out).below HC3.out)
  obtain ⟨g3, c3, rfl, -, -, -⟩ := ho3.form (by decide)
  have hcu := (OwSp.last_ (l := []) ho3).1
  have HU := Lib.hid hcu
  have HO3 := Lib.hid ho3
  have HR1c := Lib.hid ((HR1.out.below HC2.out).below HC3.out)
  have HR2c := Lib.hid (HR2.out.below HC3.out)
  clear hb3 ho3 HW2 hcu HR1 HR2 HL1a
  go_wp2_with (fail)
  have hl4 := RdI.lit .i64 w3 3 (0, 0) [3, 4, 6] (by decide)
  have HW3 := Lib.hid (below_alloc (Below.refl w3.heap.size w3) (.cells #[.int .i64 3, .int .i64 4, .int .i64 6] 3))
  refine (same_calls A1 (some ⟨w3.heap.size, 0, none⟩) c1 3 [3, 4, 6] [3, 4, 6] _ (HR1c.out.below HW3.out) hl4 (by decide) (by decide)).mono ?_
  clear hl4
  rintro e w4 ⟨rfl, q, rfl⟩
  rw [show decide (([3, 4, 6] : List Int) = [3, 4, 6]) = true from by decide]
  have HC4 := Lib.hid (pw_below_drewN HW3.out q)
  generalize ((w3.alloc (.cells #[.int .i64 3, .int .i64 4, .int .i64 6] 3)).drewN q) = w4 at *
  have HB4 := Lib.hid (below_then HB3.out HB3.out.size HC4.out)
  have HL4 := Lib.hid (HL1c.out.below HC4.out)
  go_wp2_with (fail)
  refine (SpanG.equal_calls A2 (some ⟨w.heap.size, 0, none⟩) c2 2 L1 L1 w4 (HR2c.out.below HC4.out) HL4.out (by decide) (by decide) hc2 (by decide) HA2.out (fun h => by cases h)).mono ?_
  rintro e w5 ⟨rfl, hb5⟩
  rw [show decide (chk L1 = 0 ∧ chk L1 = 0 ∧ places L1 = places L1) = true from by decide]
  have HB5 := Lib.hid (below_then HB4.out HB4.out.size hb5)
  have HL5 := Lib.hid (HL4.out.below hb5)
  have hcu : w5.cell? ⟨g3, 1, none⟩ = some (.int .i64 4) := by
    have h1 := HO3.out.lt_ g3 rfl
    rw [hb5.cell (p := ⟨g3, 1, none⟩) (by have := HC4.out.size; simp; omega), HC4.out.cell (p := ⟨g3, 1, none⟩) h1]
    exact HU.out
  clear hb5
  go_wp2_with (fail)
  have hl6 := rd_lit w5 43 #[.int .i64 0, .int .i64 (-1)] [(0, -1)] rfl (by decide)
  have HW5 := Lib.hid (below_alloc (Below.refl w5.heap.size w5) (.cells #[.int .i64 0, .int .i64 (-1)] 43))
  refine (SpanA.check_calls (some ⟨w5.heap.size, 0, none⟩) 1 [(0, -1)] _ hl6 (by decide)).mono ?_
  clear hl6
  rintro e w6 ⟨rfl, hb6⟩
  rw [f_chk4]
  have HC6 := Lib.hid (below_then HW5.out (by simp) hb6)
  have HB6 := Lib.hid (below_then HB5.out HB5.out.size HC6.out)
  have HL6 := Lib.hid (HL5.out.below HC6.out)
  clear hb6 hcu
  go_wp2_with (fail)
  refine (canonical_calls (some ⟨w.heap.size, 0, none⟩) 2 L1 w6 HL6.out (by decide)).mono ?_
  rintro e w7 ⟨rfl, hb7⟩
  rw [f_can]
  have HB7 := Lib.hid (below_then HB6.out HB6.out.size hb7)
  have HL7 := Lib.hid (HL6.out.below hb7)
  clear hb7
  go_wp2_with (fail)
  refine (count_calls (some ⟨w.heap.size, 0, none⟩) 2 L1 w7 HL7.out (by decide)).mono ?_
  rintro e w8 ⟨rfl, hb8⟩
  rw [if_pos f_chk1, f_pl1]
  have HB8 := Lib.hid (below_then HB7.out HB7.out.size hb8)
  have HL8 := Lib.hid (HL7.out.below hb8)
  clear hb8
  go_wp2_with (fail)
  refine (has_calls (some ⟨w.heap.size, 0, none⟩) 2 L1 6 w8 HL8.out (by decide) (by decide) (fun h => by cases h)).mono ?_
  rintro e w9 ⟨rfl, hb9⟩
  rw [show decide ((6 : Int) ∈ plc L1) = true from by decide]
  have HB9 := Lib.hid (below_then HB8.out HB8.out.size hb9)
  clear hb9
  go_wp2
  go_ret
  exact ⟨rfl, HB9.out⟩
end Go.Proofs.Ytaenincbmlcjiaa.Law06B
