/- law 08: the fixed answer. -/
import Derived.Test.YtaenincbmlcjiaaLayH
import Derived.Test.YtaenincbmlcjiaaLaw06B
namespace Go.Proofs.Ytaenincbmlcjiaa.LayAw
open Go.RowKit Go.Proofs.YtaenincbmlcjiaaW.PrintWords
open Go.Proofs.Ytaenincbmlcjiaa.Base Go.Proofs.Ytaenincbmlcjiaa.SpanPure Go.Proofs.Ytaenincbmlcjiaa.SpanPure2 Go.Proofs.Ytaenincbmlcjiaa.LayPure Go.Proofs.Ytaenincbmlcjiaa.LayPure2 Go.Proofs.Ytaenincbmlcjiaa.LayPure3 Go.Proofs.Ytaenincbmlcjiaa.SpanBase Go.Proofs.Ytaenincbmlcjiaa.LayA Go.Proofs.Ytaenincbmlcjiaa.LayB Go.Proofs.Ytaenincbmlcjiaa.LayC Go.Proofs.Ytaenincbmlcjiaa.LayD Go.Proofs.Ytaenincbmlcjiaa.LayE Go.Proofs.Ytaenincbmlcjiaa.LayF Go.Proofs.Ytaenincbmlcjiaa.LayG
open Go.Proofs.Ytaenincbmlcjiaa.Law06B (rd_lit lift)

abbrev M1 : List Sp := [(3, 2)]
abbrev M2 : List Sp := [(4, 1), (1, 1)]
theorem m_both : both M1 M2 = [3, 4, 6] := by
  unfold both
  refine rise_ext (uni_spec _ _).1 (by unfold Rise; decide) fun x => ?_
  rw [(uni_spec _ _).2, show places M1 = [3, 4] from by decide, show places M2 = [4, 6] from by decide]
  simp only [List.mem_cons, List.not_mem_nil, or_false]
  omega
theorem m_err : cerr M1 M2 = 0 := by
  unfold cerr
  rw [m_both]
  decide
theorem m_l1 : lacks (places M1) (both M1 M2) = [(2, 1)] := by rw [m_both]; decide
theorem m_l2 : lacks (places M2) (both M1 M2) = [(0, 1)] := by rw [m_both]; decide
theorem m_cov : covers M1 M2 = false := by
  unfold covers
  rw [m_l1]
  simp
theorem m_r : right ([7, 8] : List Int).length [(2, 1)] = true := by decide
theorem m_r1 : right ([7, 1] : List Int).length [(2, 1)] = true := by decide
theorem m_e : expand ([7, 8] : List Int) [(2, 1)] 0 = [7, 8, 0] := by decide
theorem m_d : difs (expand (sums [7, 1]) [(2, 1)] 0) = [7, 1, -8] := by decide

set_option maxRecDepth 100000 in
set_option maxHeartbeats 3200000 in
theorem awake_calls (w : World) :
    Calls Try.prog 27 #[] w fun e w' => e = .returned (.bool true) ∧ Below w.heap.size w w' := by
  go_enter Try.func27, Try.ntmps27
  go_wp2_with (fail)
  have hw1 := below_alloc (Below.refl w.heap.size w) (.cells #[.int .i64 3, .int .i64 2] 43)
  have ha := (rd_lit w 43 #[.int .i64 3, .int .i64 2] M1 rfl (by decide)).below (below_alloc (Below.refl _ _) (.cells #[.int .i64 4, .int .i64 1, .int .i64 1, .int .i64 1] 43))
  have hb := rd_lit (w.alloc (.cells #[.int .i64 3, .int .i64 2] 43)) 43 #[.int .i64 4, .int .i64 1, .int .i64 1, .int .i64 1] M2 rfl (by decide)
  have HA := Lib.hid (⟨ha, by decide, by decide, fun h => by cases h⟩ : IsS _ (some ⟨w.heap.size, 0, none⟩) 1 M1)
  rw [show (w.alloc (.cells #[.int .i64 3, .int .i64 2] 43)).heap.size = w.heap.size + 1 from by simp] at hb
  have HB := Lib.hid (⟨hb, by decide, by decide, fun h => by cases h⟩ : IsS _ (some ⟨w.heap.size + 1, 0, none⟩) 2 M2)
  have HW0 := Lib.hid (below_alloc hw1 (.cells #[.int .i64 4, .int .i64 1, .int .i64 1, .int .i64 1] 43))
  have HC := Lib.hid (compare_calls HA.out HB.out)
  clear hw1 ha hb
  refine HC.out.mono ?_
  rintro e w1 ⟨hb1, ⟨h0, -⟩ | ⟨-, f, g, rfl, hof, hog⟩⟩
  · exact absurd m_err h0
  rw [m_l1] at hof
  rw [m_l2] at hog
  have HB1 := Lib.hid (below_then HW0.out HW0.out.size hb1)
  have HCV := Lib.hid (fun W (h : Below w1.heap.size w1 W) => covers_calls ((HA.out.below hb1).below h) ((HB.out.below hb1).below h))
  rw [m_cov] at HCV
  obtain ⟨gf, cf, ef, -, hlf, hcf⟩ := hof.form (by decide)
  obtain ⟨gg, cg, eg, -, hlg, -⟩ := hog.form (by decide)
  have ef : f = .slice (some ⟨gf, 0, none⟩) 1 cf := ef
  have eg : g = .slice (some ⟨gg, 0, none⟩) 1 cg := eg
  subst ef eg
  obtain ⟨_, _, he, -, -, hrf⟩ := hof.reads
  injection he with he1 he2 he3
  subst he1 he3
  have HRF := Lib.hid hrf
  have f0 := lastO (l := []) hof
  have f1 := (OwSp.last_ (l := []) hof).1
  have g0 := lastO (l := []) hog
  have g1 := (OwSp.last_ (l := []) hog).1
  have FG : Hid ((w1.cell? ⟨gf, 0, none⟩ = some (.int .i64 2) ∧ w1.cell? ⟨gf, 1, none⟩ = some (.int .i64 1)) ∧ w1.cell? ⟨gg, 0, none⟩ = some (.int .i64 0) ∧ w1.cell? ⟨gg, 1, none⟩ = some (.int .i64 1)) := Lib.hid ⟨⟨f0, f1⟩, g0, g1⟩
  clear hb1 hof hog HC f0 f1 g0 g1 hrf he2
  go_wp2_with (fail)
  have hl1 := RdI.lit .i64 w1 2 (0, 0) [7, 8] (by decide)
  have HW1 := Lib.hid (below_alloc (Below.refl w1.heap.size w1) (.cells #[.int .i64 7, .int .i64 8] 2))
  refine (expand_calls (some ⟨w1.heap.size, 0, none⟩) (some ⟨gf, 0, none⟩) 2 cf [7, 8] [(2, 1)] 0 _ hl1 (HRF.out.below HW1.out) (by decide) (by decide) (by decide)).mono ?_
  clear hl1
  rintro e w2 ⟨hb2, ⟨h0, -⟩ | ⟨-, v, rfl, hov⟩⟩
  · exact absurd h0 (by rw [m_r]; decide)
  rw [m_e] at hov
  have HB2 := Lib.hid (below_then HW1.out (by simp) hb2)
  obtain ⟨gv, cv, ev, -, hlv, -⟩ := hov.form (by decide)
  have ev : v = .slice (some ⟨gv, 0, none⟩) 3 cv := ev
  subst ev
  have HV := Lib.hid (hov.at_ 2 (by decide)).1
  clear hb2 hov HW1
  go_wp2_with (fail)
  have hl2 := RdI.lit .i64 w2 2 (0, 0) [7, 1] (by decide)
  have HW2 := Lib.hid (below_alloc (Below.refl w2.heap.size w2) (.cells #[.int .i64 7, .int .i64 1] 2))
  refine (deltas_calls (some ⟨w2.heap.size, 0, none⟩) (some ⟨gf, 0, none⟩) 2 cf [7, 1] [(2, 1)] _ hl2 ((HRF.out.below HB2.out).below HW2.out) (by decide) (by decide)).mono ?_
  clear hl2
  rintro e w3 ⟨hb3, ⟨h0, -⟩ | ⟨-, v, rfl, hod⟩⟩
  · exact absurd h0 (by rw [m_r1]; decide)
  rw [m_d] at hod
  have HB3 := Lib.hid (below_then HW2.out (by simp) hb3)
  have HB13 := Lib.hid (below_then HB2.out HB2.out.size HB3.out)
  have HB03 := Lib.hid (below_then HB1.out HB1.out.size HB13.out)
  obtain ⟨gd, cd, ed, -, -, -⟩ := hod.form (by decide)
  have ed : v = .slice (some ⟨gd, 0, none⟩) 3 cd := ed
  subst ed
  have d2 := (hod.at_ 2 (by decide)).1
  have v2 : w3.cell? ⟨gv, 2, none⟩ = some (.int .i64 0) := (HB3.out.cell (p := ⟨gv, 2, none⟩) hlv).trans HV.out
  have f0 := (HB13.out.cell (p := ⟨gf, 0, none⟩) hlf).trans FG.out.1.1
  have f1 := (HB13.out.cell (p := ⟨gf, 1, none⟩) hlf).trans FG.out.1.2
  have g0 := (HB13.out.cell (p := ⟨gg, 0, none⟩) hlg).trans FG.out.2.1
  have g1 := (HB13.out.cell (p := ⟨gg, 1, none⟩) hlg).trans FG.out.2.2
  have HCV3 := Lib.hid (HCV.out w3 HB13.out)
  have d2' : w3.cell? ⟨gd, 2, none⟩ = some (.int .i64 (-8)) := d2
  clear hb3 hod HW2 d2 HCV FG HV
  go_wp2_with (go_at_call 36; refine HCV3.out.mono ?_; rintro e w4 ⟨rfl, hb4⟩)
  go_ret
  exact ⟨rfl, below_then HB03.out HB03.out.size hb4⟩
end Go.Proofs.Ytaenincbmlcjiaa.LayAw
