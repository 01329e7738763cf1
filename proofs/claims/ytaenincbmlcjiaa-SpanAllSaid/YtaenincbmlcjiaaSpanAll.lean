/- law 06: all buckets are told with their places, as far as it is asked. -/
import Derived.Test.YtaenincbmlcjiaaSpanFrom
import Derived.Test.YtaenincbmlcjiaaSpanH
import Derived.Test.YtaenincbmlcjiaaOpenSp
namespace Go.Proofs.Ytaenincbmlcjiaa.SpanAll
open Go.RowKit Go.Shelf Go.Proofs.YtaenincbmlcjiaaW.PrintWords
open Go.Proofs.Ytaenincbmlcjiaa.Base Go.Proofs.Ytaenincbmlcjiaa.SpanPure Go.Proofs.Ytaenincbmlcjiaa.SpanPure2 Go.Proofs.Ytaenincbmlcjiaa.SpanBase Go.Proofs.Ytaenincbmlcjiaa.SpanA Go.Proofs.Ytaenincbmlcjiaa.SpanB Go.Proofs.Ytaenincbmlcjiaa.SpanC Go.Proofs.Ytaenincbmlcjiaa.SpanD Go.Proofs.Ytaenincbmlcjiaa.SpanG Go.Proofs.Ytaenincbmlcjiaa.SpanH Go.Proofs.Ytaenincbmlcjiaa.Ref06 Go.Proofs.Ytaenincbmlcjiaa.Law06A Go.Proofs.Ytaenincbmlcjiaa.Law06B Go.Proofs.Ytaenincbmlcjiaa.LawBase Go.Proofs.Ytaenincbmlcjiaa.OpenSp Go.Proofs.Ytaenincbmlcjiaa.SpanFrom
attribute [local go_sem] Oper.semAt_some

theorem bx {W W1 : World} {B : Nat} {t : TypeId} {v : Value} (h : Boxed W B t v) (hb : Below W.heap.size W W1) : Boxed W1 B t v := (hb.block B h.lt).trans h
theorem idx_at (PS : List Int) (k : Nat) (h : k < PS.length) : (idx 0 PS)[k]'(by rw [idx_length]; exact h) = ((k : Int), PS[k]) := by
  rw [idx_get PS 0 k h, Int.zero_add]
theorem pre_next {PS : List Int} {pre : List (Int × Int)} (hp : pre <+: idx 0 PS) (h : pre.length < PS.length) : pre ++ [((pre.length : Int), PS[pre.length])] <+: idx 0 PS := by
  obtain ⟨t, ht⟩ := hp
  have hl : pre.length < (idx 0 PS).length := by rw [idx_length]; exact h
  have h2 := idx_at PS pre.length h
  have h3 : (pre ++ t)[pre.length]'(by rw [ht]; exact hl) = ((pre.length : Int), PS[pre.length]) := by simp only [ht]; exact h2
  cases t with
  | nil => rw [List.append_nil] at ht; rw [← ht] at hl; omega
  | cons y t =>
    rw [List.getElem_append_right (Nat.le_refl _)] at h3
    simp only [Nat.sub_self, List.getElem_cons_zero] at h3
    exact ⟨t, by rw [← h3, List.append_assoc, List.singleton_append, ht]⟩
theorem pre_last {PS : List Int} {pre : List (Int × Int)} {x : Int × Int} (hp : pre ++ [x] <+: idx 0 PS) (h : pre.length < PS.length) : x = ((pre.length : Int), PS[pre.length]) := by
  obtain ⟨t, ht⟩ := hp
  rw [List.append_assoc] at ht
  have hl : pre.length < (idx 0 PS).length := by rw [idx_length]; exact h
  have h2 := idx_at PS pre.length h
  have h3 : (pre ++ ([x] ++ t))[pre.length]'(by rw [ht]; exact hl) = ((pre.length : Int), PS[pre.length]) := by simp only [ht]; exact h2
  rw [List.getElem_append_right (Nat.le_refl _)] at h3
  simpa using h3

set_option maxRecDepth 100000 in
set_option maxHeartbeats 3200000 in
theorem right (A : Option Addr) (c : Nat) (l : List Sp) (s : Int) (w : World) (hr : RdSp w A l) (hm : l.length ≤ 600) (hc : l.length ≤ c) (hA : A = none → c = 0) (hs : small l = true) (h1 : 1 ≤ s) (h0 : chk l = 0) :
    Calls Try.prog 3 #[.slice A l.length c, .int .i64 s] w fun e w' => e = .returned (.bool true) ∧ Below w.heap.size w w' := by
  have HSM := Lib.hid (fun W (h : Below w.heap.size w W) => small_calls A c l W (hr.below h) (by omega))
  rw [hs] at HSM
  have HAW := Lib.hid (fun W => awake_calls W)
  have HRF := Lib.hid (fun W (h : Below w.heap.size w W) => ref_calls A c l W (hr.below h) (by omega))
  have HALL := Lib.hid (fun W (h : Below w.heap.size w W) => all_calls A c l W (hr.below h) (by omega) hc hA)
  have d1 : decide (s < 1) = false := by simp; omega
  have H0 := Lib.hid h0
  clear hr hA hs h0
  refine (callsIn_wide (n := 4)).1 ?_
  refine callsIn_of_wp_marks Try.func3 rfl trivial ?_ rfl
  simp only [Try.ntmps3, List.size_toArray, List.length_cons, List.length_nil, Nat.reduceAdd, Nat.reduceSub, Array.replicate_succ, Array.replicate_zero, List.push_toArray, List.append_toArray, List.nil_append, List.cons_append]
  gi_wp2
  refine ⟨trivial, ?_⟩
  obtain ⟨W0, hW0⟩ : ∃ W0, W0 = (w.alloc (.cells #[.int .i64 s] 3)).alloc (.cells #[.bool false] 4) := ⟨_, rfl⟩
  have bS : Boxed W0 w.heap.size 3 (.int .i64 s) := by
    rw [hW0]
    exact (Below.heap_alloc _ _ _ (by simp)).trans (World.alloc_heap_new w _)
  have bR : Boxed W0 (w.heap.size + 1) 4 (.bool false) := by
    rw [hW0]
    have := Boxed.new (w.alloc (.cells #[.int .i64 s] 3)) 4 (.bool false)
    rwa [World.size_alloc] at this
  have HB0 : Hid (Below w.heap.size w W0) := Lib.hid (by rw [hW0]; exact below_alloc (below_alloc (Below.refl _ _) _) _)
  have z0 : W0.heap.size = w.heap.size + 2 := by rw [hW0]; simp
  have HBS := Lib.hid bS
  have HBR := Lib.hid bR
  rw [← hW0]
  clear hW0
  refine (callsIn_wide.2 (HSM.out W0 HB0.out)).mono ?_
  rintro e w1 ⟨rfl, hb1⟩
  have HB1 := Lib.hid (below_then HB0.out HB0.out.size hb1)
  have HC1 : Hid (Below W0.heap.size W0 w1) := Lib.hid hb1
  clear hb1 HSM bS bR
  gi_wp2
  refine ⟨trivial, ?_⟩
  refine (callsIn_wide.2 (HAW.out w1)).mono ?_
  rintro e w2 ⟨rfl, hb2⟩
  have HB2 := Lib.hid (below_then HB1.out HB1.out.size hb2)
  have HC2 := Lib.hid (below_then HC1.out HC1.out.size hb2)
  have cS2 : w2.cell? ⟨w.heap.size, 0, none⟩ = some (.int .i64 s) := (HC2.out.cell (p := ⟨w.heap.size, 0, none⟩) (by show w.heap.size < _; omega)).trans HBS.out.cell
  clear hb2
  gi_wp2
  refine ⟨trivial, ?_⟩
  obtain ⟨W3, hW3⟩ : ∃ W3, W3 = w2.alloc (.cells #[.slice none 0 0] 25) := ⟨_, rfl⟩
  rw [← hW3]
  have HBX : Hid (Boxed W3 w2.heap.size 25 (.slice none 0 0)) := Lib.hid (by rw [hW3]; exact Boxed.new _ _ _)
  have HB3 : Hid (Below w.heap.size w W3) := Lib.hid (by rw [hW3]; exact below_alloc HB2.out _)
  have HC3 : Hid (Below W0.heap.size W0 W3) := Lib.hid (by rw [hW3]; exact below_alloc HC2.out _)
  have z3 : W3.heap.size = w2.heap.size + 1 := by rw [hW3]; simp
  have z2 : w.heap.size + 2 ≤ w2.heap.size := by have := HC2.out.size; omega
  clear hW3 cS2
  refine (callsIn_wide.2 (HRF.out W3 HB3.out)).mono ?_
  rintro e w4 ⟨v4, rfl, ho4, hb4⟩
  obtain ⟨A4, c4, rfl, -, -, hr4⟩ := ho4.reads
  have HB4 := Lib.hid (below_then HB3.out HB3.out.size hb4)
  have HC4 := Lib.hid (below_then HC3.out HC3.out.size hb4)
  have HD4 : Hid (Below W3.heap.size W3 w4) := Lib.hid hb4
  have HCK := Lib.hid (Ref06C.check_calls A4 c4 l w4 hr4 (by omega))
  rw [H0.out] at HCK
  clear ho4 hr4 hb4
  gi_wp2
  refine ⟨trivial, ?_⟩
  refine (callsIn_wide.2 HCK.out).mono ?_
  rintro e w5 ⟨rfl, hb5⟩
  have HB5 := Lib.hid (below_then HB4.out HB4.out.size hb5)
  have HC5 := Lib.hid (below_then HC4.out HC4.out.size hb5)
  have HD5 := Lib.hid (below_then HD4.out HD4.out.size hb5)
  clear hb5 HCK
  gi_wp2
  refine ⟨trivial, ?_⟩
  refine (callsIn_wide.2 (HRF.out w5 HB5.out)).mono ?_
  rintro e w6 ⟨v6, rfl, ho6, hb6⟩
  obtain ⟨A6, c6, rfl, -, -, hr6⟩ := ho6.reads
  have HB6 := Lib.hid (below_then HB5.out HB5.out.size hb6)
  have HC6 := Lib.hid (below_then HC5.out HC5.out.size hb6)
  have HD6 := Lib.hid (below_then HD5.out HD5.out.size hb6)
  have HPL := Lib.hid (Ref06B.places_calls A6 c6 l w6 hr6 (by omega) H0.out)
  clear ho6 hr6 hb6
  gi_wp2
  refine ⟨trivial, ?_⟩
  refine (callsIn_wide.2 HPL.out).mono ?_
  rintro e w7 ⟨v7, rfl, ho7, hb7⟩
  have HD7 := Lib.hid (below_then HD6.out HD6.out.size hb7)
  have bX7 : Boxed w7 w2.heap.size 25 (.slice none 0 0) := bx HBX.out HD7.out
  have HB7 := Lib.hid (below_then HB6.out HB6.out.size hb7)
  have HC7 := Lib.hid (below_then HC6.out HC6.out.size hb7)
  have hcX := bX7.cell
  have hfX := bX7.frozen
  obtain ⟨A7, c7, rfl, -, hr7⟩ := ho7.reads
  have HO7 := Lib.hid ho7
  have HX7 := Lib.hid bX7
  clear HPL ho7 hb7 hr7 bX7
  gi_wp2
  refine ⟨trivial, ?_⟩
  obtain ⟨w8, hw8⟩ : ∃ w8, w8 = w7.setCell ⟨w2.heap.size, 0, none⟩ (.slice A7 (places l).length c7) := ⟨_, rfl⟩
  rw [← hw8]
  have z8 : w7.heap.size = w8.heap.size := by rw [hw8]; simp
  rw [z8]
  have HPS : Hid (plc l = places l) := Lib.hid (if_pos H0.out)
  have HB8 : Hid (Below w.heap.size w w8) := Lib.hid (by rw [hw8]; exact HB7.out.setCell (p := ⟨w2.heap.size, 0, none⟩) (by show w.heap.size ≤ w2.heap.size; omega) _)
  have HC8 : Hid (Below W0.heap.size W0 w8) := Lib.hid (by rw [hw8]; exact HC7.out.setCell (p := ⟨w2.heap.size, 0, none⟩) (by show W0.heap.size ≤ w2.heap.size; omega) _)
  have HX8 : Hid (Boxed w8 w2.heap.size 25 (.slice A7 (places l).length c7)) := Lib.hid (by rw [hw8]; exact HX7.out.set _)
  have HR8 : Hid (RdI .i64 w8 A7 (places l)) := Lib.hid (by
    have h9 : OwI 3 .i64 w8 w6.heap.size (.slice A7 (places l).length c7) (places l) := by
      rw [hw8]
      exact World.ownsRow.kept HO7.out (grownBy_setCell' _ _ _) (.inr (HX7.out.not_row (by decide) HO7.out).symm)
    obtain ⟨A', c', he, -, hr9⟩ := h9.reads
    injection he with e1
    subst e1
    exact hr9)
  obtain ⟨PS, hPS⟩ : ∃ PS, PS = places l := ⟨_, rfl⟩
  have hpl : (places l).length ≤ 4096 := places_len (right_of H0.out)
  have kz : w2.heap.size < w8.heap.size := HX8.out.lt
  rw [← hPS] at HPS HX8 HR8 hpl
  rw [← hPS]
  clear hw8 z8 hcX hfX HO7 HX7 hPS HD7 HB7 HC7
  have HB9 : Hid (Below w.heap.size w (w8.alloc (.cells #[.int .i64 0] 3))) := Lib.hid (below_alloc HB8.out _)
  have HK9 : Hid (Boxed (w8.alloc (.cells #[.int .i64 0] 3)) w8.heap.size 3 (.int .i64 0)) := Lib.hid (Boxed.new _ _ _)
  have HD9 : Hid (Below w8.heap.size w8 (w8.alloc (.cells #[.int .i64 0] 3))) := Lib.hid (below_alloc (Below.refl _ _) _)
  have z9 : (w8.alloc (.cells #[.int .i64 0] 3)).heap.size = w8.heap.size + 1 := by simp
  generalize w8.alloc (.cells #[.int .i64 0] 3) = w9 at *
  refine (callsIn_wide.2 (HALL.out w9 HB9.out)).mono ?_
  rintro e w10 ⟨A2, c2, Bn, rfl, hcell, hrd, hA2, hBn1, hBn2, hb10⟩
  have HB10 := Lib.hid (below_then HB9.out HB9.out.size hb10)
  have HD10 := Lib.hid (below_then HD9.out (by omega) hb10)
  have HK10 : Hid (Boxed w10 w8.heap.size 3 (.int .i64 0)) := Lib.hid (bx HK9.out hb10)
  have HA3 := Lib.hid (fun ad (h : A2 = some ad) => hA2 ad h)
  have HST := Lib.hid (all_told (n := 3) Bn A2 c2 l w10 hBn2 hcell hrd (by omega))
  rw [HPS.out] at HST
  have z10 : w9.heap.size ≤ w10.heap.size := hb10.size
  clear hcell hrd hA2 hBn1 hBn2 hb10 HALL HB9 HD9 HK9
  gi_wp2
  have hIb : OwnFrom w10.heap.size (fun (pre : List (Int × Int)) W => Boxed W w8.heap.size 3 (.int .i64 pre.length) ∧ Below w8.heap.size w8 W ∧ w10.heap.size ≤ W.heap.size) :=
    OwnFrom.and (Own.from (boxed_own w8.heap.size 3 (fun pre : List (Int × Int) => Value.int .i64 pre.length)) _) (OwnFrom.and (ownFrom_below (Nat.le_refl _) (by omega)) ownFrom_size)
  refine wpIn_rangeFunc_ownG rfl (by decide) (gf := 46) (lb := #[.pointer (some ⟨Bn, 0, none⟩)]) rfl trivial (enters_of Try.func46 (by kernel_rfl) rfl)
    HST.out (fun h1 h2 ad h => (h2 ad h).trans (h1 ad h)) (fun W r o o' hr _ _ _ ad h => World.putObj_heap_other (by have := (HA3.out ad h).2; omega)) (Below.refl _ _) (fun _ => rfl)
    (fun pre W => (pre <+: idx 0 PS ∧ (pre.length : Int) < s) ∧ (Boxed W w8.heap.size 3 (.int .i64 pre.length) ∧ Below w8.heap.size w8 W ∧ w10.heap.size ≤ W.heap.size))
    (fun c pre W => ((c = .ret ∧ ¬ pre <+: idx 0 PS) ∨ (c = .exit 0 ∧ (pre.length : Int) = s)) ∧ (c ≠ .ret → Boxed W w8.heap.size 3 (.int .i64 pre.length) ∧ Below w8.heap.size w8 W ∧ w10.heap.size ≤ W.heap.size))
    (OwnFrom.and (fun _ _ _ _ hs _ _ => hs) hIb)
    (fun c => OwnFrom.and (fun _ _ _ _ hs _ _ => hs) (fun p W W' row hs hg hr hne => hIb p W W' row (hs hne) hg hr))
    ⟨⟨List.nil_prefix, by simp; omega⟩, HK10.out, HD10.out, Nat.le_refl _⟩
    (fun x => { tmps := #[.slice A l.length c, .int .i64 s, undef, .pointer (some ⟨w.heap.size, 0, none⟩), .pointer (some ⟨w.heap.size + 1, 0, none⟩), .pointer (some ⟨w2.heap.size, 0, none⟩), .pointer (some ⟨w8.heap.size, 0, none⟩), .int .i64 x.1, .int .i64 x.2, .slice A l.length c, .bool true, .bool false, .bool false, .bool true, .bool false, .bool false, .bool false, .int .i64 s, .bool false, .bool false, undef, .slice A l.length c, .slice A4 l.length c4, .int .i64 0, .bool true, .slice A l.length c, .slice A6 l.length c6, .slice A7 PS.length c7, .slice A l.length c, .func (.func 46) #[] #[.pointer (some ⟨Bn, 0, none⟩)], .int .i64 x.1, .int .i64 x.2, undef, undef, undef, undef, undef, undef, undef, undef, undef, undef, undef, undef, undef, undef, undef, undef, undef, undef, undef, undef, undef, undef, undef, undef, undef, undef, undef, undef, undef, undef, undef], defers := [] }) ?assign ?body ?done ?stop
  case assign =>
    intro r x W K hK
    gi_wp2
    exact hK
  case body =>
    rintro r pre x W ⟨⟨hpre, hls⟩, hK, hD, hz⟩ hlt
    have cK := hK.cell
    have fK := hK.frozen
    have cS : W.cell? ⟨w.heap.size, 0, none⟩ = some (.int .i64 s) := (hD.cell (p := ⟨w.heap.size, 0, none⟩) (by show w.heap.size < w8.heap.size; omega)).trans (bx HBS.out HC8.out).cell
    have bR : Boxed W (w.heap.size + 1) 4 (.bool false) := (hD.block (w.heap.size + 1) (by omega)).trans (bx HBR.out HC8.out)
    have cR := bR.cell
    have fR := bR.frozen
    have cX : W.cell? ⟨w2.heap.size, 0, none⟩ = some (.slice A7 PS.length c7) := (hD.cell (p := ⟨w2.heap.size, 0, none⟩) (by show w2.heap.size < w8.heap.size; omega)).trans HX8.out.cell
    obtain ⟨ad, hA, c0⟩ := (HR8.out.below hD).at_ pre.length hlt
    subst hA
    obtain ⟨x1, x2⟩ := x
    have hPP := Lib.hid (pre_next hpre hlt)
    have hBad := Lib.hid (fun (h : pre ++ [(x1, x2)] <+: idx 0 PS) => pre_last h hlt)
    have hKp := Lib.hid hK
    have hDp := Lib.hid hD
    obtain ⟨q, hq⟩ : ∃ q, q = PS[pre.length] := ⟨_, rfl⟩
    rw [← hq] at c0 hPP
    have b0 : (0 : Int) ≤ (pre.length : Int) := by omega
    have b1 : (pre.length : Int) < (PS.length : Int) := by omega
    have d2 : decide ((pre.length : Int) ≥ (PS.length : Int)) = false := by simp; omega
    have d2' : decide ((PS.length : Int) ≤ (pre.length : Int)) = false := by simp; omega
    have d2n : decide (PS.length ≤ pre.length) = false := by simp; omega
    clear hK hD bR
    by_cases h1 : x1 = (pre.length : Int)
    · subst h1
      by_cases h2 : x2 = q
      · subst h2
        clear hBad
        by_cases h3 : (pre.length : Int) + 1 = s
        · have e3 : ((pre.length : Int) + 1 == s) = true := by simp; exact h3
          gi_wp2
          have hKs := hKp.out.set (.int .i64 s)
          exact ⟨(KeepsOthers.setCell _ _ _).from _, .inr ⟨rfl, by simp; exact h3⟩, fun _ => ⟨by rw [List.length_append, List.length_singleton, Int.natCast_add, Int.natCast_one, h3]; exact hKs, hDp.out.setCell (p := ⟨w8.heap.size, 0, none⟩) (Nat.le_refl _) _, by rw [World.size_setCell]; exact hz⟩⟩
        · have e3 : ((pre.length : Int) + 1 == s) = false := by simp; exact h3
          gi_wp2
          have hKs := hKp.out.set (.int .i64 ((pre.length : Int) + 1))
          exact ⟨(KeepsOthers.setCell _ _ _).from _, fun ad' h => Below.heap_setCell _ _ _ _ (by show ad'.block ≠ w8.heap.size; have := HA3.out ad' h; omega), ⟨hPP.out, by rw [List.length_append, List.length_singleton, Int.natCast_add, Int.natCast_one]; omega⟩, by rw [List.length_append, List.length_singleton, Int.natCast_add, Int.natCast_one]; exact hKs, hDp.out.setCell (p := ⟨w8.heap.size, 0, none⟩) (Nat.le_refl _) _, by rw [World.size_setCell]; exact hz⟩
      · have e3 : (x2 != q) = true := by simp; exact h2
        gi_wp2
        exact ⟨(KeepsOthers.setCell _ _ _).from _, .inl ⟨rfl, fun h => h2 (by rw [hq]; exact congrArg Prod.snd (hBad.out h))⟩, fun h => absurd rfl h⟩
    · have e3 : (x1 != (pre.length : Int)) = true := by simp; exact h1
      gi_wp2
      exact ⟨(KeepsOthers.setCell _ _ _).from _, .inl ⟨rfl, fun h => h1 (congrArg Prod.fst (hBad.out h))⟩, fun h => absurd rfl h⟩
  case done =>
    rintro D ys W hD rfl ⟨⟨-, hls⟩, hK, hDW, hz⟩ hKD
    rw [idx_length] at hls hK
    have cK := hK.cell
    have cS : W.cell? ⟨w.heap.size, 0, none⟩ = some (.int .i64 s) := (hDW.cell (p := ⟨w.heap.size, 0, none⟩) (by show w.heap.size < w8.heap.size; omega)).trans (bx HBS.out HC8.out).cell
    have bR : Boxed W (w.heap.size + 1) 4 (.bool false) := (hDW.block (w.heap.size + 1) (by omega)).trans (bx HBR.out HC8.out)
    have cR := bR.cell
    have fR := bR.frozen
    have cX : W.cell? ⟨w2.heap.size, 0, none⟩ = some (.slice A7 PS.length c7) := (hDW.cell (p := ⟨w2.heap.size, 0, none⟩) (by show w2.heap.size < w8.heap.size; omega)).trans HX8.out.cell
    have hDp := Lib.hid hDW
    clear hDW hK
    have e4 : ((PS.length : Int) == min s (PS.length : Int)) = true := by simp; omega
    gi_wp2
    refine ⟨trivial, ?_⟩
    refine (callsIn_wide.2 (HAW.out W)).mono ?_
    rintro e w11 ⟨rfl, hb11⟩
    have bR11 := bx bR hb11
    have cR11 := bR11.cell
    have fR11 := bR11.frozen
    have hK11 : w11.heap[D]? = some (.deferred (some [])) := (hb11.block D (Array.getElem?_eq_some_iff.1 hKD).1).trans hKD
    have HB11 := Lib.hid (below_then (HB8.out.trans (hDp.out.mono (by omega))) (by omega) hb11)
    clear cR fR
    gi_wp2
    have hK' := (KeepsOthers.setCell w11 ⟨w.heap.size + 1, 0, none⟩ (.bool true)).same D _ hK11 rfl
    refine ⟨by simp, .inl ⟨_, _, rfl, run_takeDeferred hK', ?_⟩⟩
    have hc5 := cell_kept (World.cell?_setCell_same' w11 ⟨w.heap.size + 1, 0, none⟩ (.bool true) (by rw [cR11]; rfl)) (grownBy_putObj' _ D (.deferred none)) (fun r e => by cases e; exact ⟨_, hK', rfl⟩)
    refine ⟨.bool true, ?_, rfl, (HB11.out.setCell (p := ⟨w.heap.size + 1, 0, none⟩) (by show w.heap.size ≤ w.heap.size + 1; omega) _).trans (belowK_b (w := w) (Nat.le_refl _) _ D _ _ (by omega) hK' rfl rfl)⟩
    simp [results, go_sem, hc5]
  case stop =>
    rintro D c pre W hD hp ⟨h3, h4⟩ hKD
    obtain ⟨rfl, h5⟩ | ⟨rfl, h5⟩ := h3
    · exact absurd hp h5
    have hp2 := hp.length_le
    rw [idx_length] at hp2
    obtain ⟨hK, hDW, hz⟩ := h4 (by simp)
    rw [h5] at hK
    have cK := hK.cell
    have cS : W.cell? ⟨w.heap.size, 0, none⟩ = some (.int .i64 s) := (hDW.cell (p := ⟨w.heap.size, 0, none⟩) (by show w.heap.size < w8.heap.size; omega)).trans (bx HBS.out HC8.out).cell
    have bR : Boxed W (w.heap.size + 1) 4 (.bool false) := (hDW.block (w.heap.size + 1) (by omega)).trans (bx HBR.out HC8.out)
    have cR := bR.cell
    have fR := bR.frozen
    have cX : W.cell? ⟨w2.heap.size, 0, none⟩ = some (.slice A7 PS.length c7) := (hDW.cell (p := ⟨w2.heap.size, 0, none⟩) (by show w2.heap.size < w8.heap.size; omega)).trans HX8.out.cell
    have hDp := Lib.hid hDW
    clear hDW hK
    have e4 : (s == min s (PS.length : Int)) = true := by simp; omega
    gi_wp2
    refine ⟨trivial, ?_⟩
    refine (callsIn_wide.2 (HAW.out W)).mono ?_
    rintro e w11 ⟨rfl, hb11⟩
    have bR11 := bx bR hb11
    have cR11 := bR11.cell
    have fR11 := bR11.frozen
    have hK11 : w11.heap[D]? = some (.deferred (some [])) := (hb11.block D (Array.getElem?_eq_some_iff.1 hKD).1).trans hKD
    have HB11 := Lib.hid (below_then (HB8.out.trans (hDp.out.mono (by omega))) (by omega) hb11)
    clear cR fR
    gi_wp2
    have hK' := (KeepsOthers.setCell w11 ⟨w.heap.size + 1, 0, none⟩ (.bool true)).same D _ hK11 rfl
    refine ⟨by simp, .inl ⟨_, _, rfl, run_takeDeferred hK', ?_⟩⟩
    have hc5 := cell_kept (World.cell?_setCell_same' w11 ⟨w.heap.size + 1, 0, none⟩ (.bool true) (by rw [cR11]; rfl)) (grownBy_putObj' _ D (.deferred none)) (fun r e => by cases e; exact ⟨_, hK', rfl⟩)
    refine ⟨.bool true, ?_, rfl, (HB11.out.setCell (p := ⟨w.heap.size + 1, 0, none⟩) (by show w.heap.size ≤ w.heap.size + 1; omega) _).trans (belowK_b (w := w) (Nat.le_refl _) _ D _ _ (by omega) hK' rfl rfl)⟩
    simp [results, go_sem, hc5]
set_option maxRecDepth 100000 in
set_option maxHeartbeats 3200000 in
theorem wrong (A : Option Addr) (c : Nat) (l : List Sp) (s : Int) (w : World) (hr : RdSp w A l) (hm : l.length ≤ 600) (hc : l.length ≤ c) (hA : A = none → c = 0) (hs : small l = true) (h1 : 1 ≤ s) (h0 : chk l ≠ 0) :
    Calls Try.prog 3 #[.slice A l.length c, .int .i64 s] w fun e w' => e = .returned (.bool true) ∧ Below w.heap.size w w' := by
  have HSM := Lib.hid (fun W (h : Below w.heap.size w W) => small_calls A c l W (hr.below h) (by omega))
  rw [hs] at HSM
  have HAW := Lib.hid (fun W => awake_calls W)
  have HRF := Lib.hid (fun W (h : Below w.heap.size w W) => ref_calls A c l W (hr.below h) (by omega))
  have HALL := Lib.hid (fun W (h : Below w.heap.size w W) => all_calls A c l W (hr.below h) (by omega) hc hA)
  have d1 : decide (s < 1) = false := by simp; omega
  have H0 := Lib.hid h0
  clear hr hA hs h0
  refine (callsIn_wide (n := 4)).1 ?_
  refine callsIn_of_wp_marks Try.func3 rfl trivial ?_ rfl
  simp only [Try.ntmps3, List.size_toArray, List.length_cons, List.length_nil, Nat.reduceAdd, Nat.reduceSub, Array.replicate_succ, Array.replicate_zero, List.push_toArray, List.append_toArray, List.nil_append, List.cons_append]
  gi_wp2
  refine ⟨trivial, ?_⟩
  obtain ⟨W0, hW0⟩ : ∃ W0, W0 = (w.alloc (.cells #[.int .i64 s] 3)).alloc (.cells #[.bool false] 4) := ⟨_, rfl⟩
  have bS : Boxed W0 w.heap.size 3 (.int .i64 s) := by
    rw [hW0]
    exact (Below.heap_alloc _ _ _ (by simp)).trans (World.alloc_heap_new w _)
  have bR : Boxed W0 (w.heap.size + 1) 4 (.bool false) := by
    rw [hW0]
    have := Boxed.new (w.alloc (.cells #[.int .i64 s] 3)) 4 (.bool false)
    rwa [World.size_alloc] at this
  have HB0 : Hid (Below w.heap.size w W0) := Lib.hid (by rw [hW0]; exact below_alloc (below_alloc (Below.refl _ _) _) _)
  have z0 : W0.heap.size = w.heap.size + 2 := by rw [hW0]; simp
  have HBS := Lib.hid bS
  have HBR := Lib.hid bR
  rw [← hW0]
  clear hW0
  refine (callsIn_wide.2 (HSM.out W0 HB0.out)).mono ?_
  rintro e w1 ⟨rfl, hb1⟩
  have HB1 := Lib.hid (below_then HB0.out HB0.out.size hb1)
  have HC1 : Hid (Below W0.heap.size W0 w1) := Lib.hid hb1
  clear hb1 HSM bS bR
  gi_wp2
  refine ⟨trivial, ?_⟩
  refine (callsIn_wide.2 (HAW.out w1)).mono ?_
  rintro e w2 ⟨rfl, hb2⟩
  have HB2 := Lib.hid (below_then HB1.out HB1.out.size hb2)
  have HC2 := Lib.hid (below_then HC1.out HC1.out.size hb2)
  have cS2 : w2.cell? ⟨w.heap.size, 0, none⟩ = some (.int .i64 s) := (HC2.out.cell (p := ⟨w.heap.size, 0, none⟩) (by show w.heap.size < _; omega)).trans HBS.out.cell
  clear hb2
  gi_wp2
  refine ⟨trivial, ?_⟩
  obtain ⟨W3, hW3⟩ : ∃ W3, W3 = w2.alloc (.cells #[.slice none 0 0] 25) := ⟨_, rfl⟩
  rw [← hW3]
  have HBX : Hid (Boxed W3 w2.heap.size 25 (.slice none 0 0)) := Lib.hid (by rw [hW3]; exact Boxed.new _ _ _)
  have HB3 : Hid (Below w.heap.size w W3) := Lib.hid (by rw [hW3]; exact below_alloc HB2.out _)
  have HC3 : Hid (Below W0.heap.size W0 W3) := Lib.hid (by rw [hW3]; exact below_alloc HC2.out _)
  have z3 : W3.heap.size = w2.heap.size + 1 := by rw [hW3]; simp
  have z2 : w.heap.size + 2 ≤ w2.heap.size := by have := HC2.out.size; omega
  clear hW3 cS2
  refine (callsIn_wide.2 (HRF.out W3 HB3.out)).mono ?_
  rintro e w4 ⟨v4, rfl, ho4, hb4⟩
  obtain ⟨A4, c4, rfl, -, -, hr4⟩ := ho4.reads
  have HB4 := Lib.hid (below_then HB3.out HB3.out.size hb4)
  have HC4 := Lib.hid (below_then HC3.out HC3.out.size hb4)
  have HD4 : Hid (Below W3.heap.size W3 w4) := Lib.hid hb4
  have HCK := Lib.hid (Ref06C.check_calls A4 c4 l w4 hr4 (by omega))
  have e0 : ((chk l : Int) == 0) = false := by simp; exact H0.out
  clear ho4 hr4 hb4
  gi_wp2
  refine ⟨trivial, ?_⟩
  refine (callsIn_wide.2 HCK.out).mono ?_
  rintro e w5 ⟨rfl, hb5⟩
  have HB5 := Lib.hid (below_then HB4.out HB4.out.size hb5)
  have HC5 := Lib.hid (below_then HC4.out HC4.out.size hb5)
  have HD5 := Lib.hid (below_then HD4.out HD4.out.size hb5)
  clear hb5 HCK
  gi_wp2
  refine ⟨trivial, ?_⟩
  obtain ⟨w8, hw8⟩ : ∃ w8, w8 = w5 := ⟨_, rfl⟩
  rw [← hw8]
  have HPS : Hid (plc l = []) := Lib.hid (if_neg H0.out)
  have HB8 : Hid (Below w.heap.size w w8) := Lib.hid (by rw [hw8]; exact HB5.out)
  have HC8 : Hid (Below W0.heap.size W0 w8) := Lib.hid (by rw [hw8]; exact HC5.out)
  obtain ⟨PS, hPS⟩ : ∃ PS : List Int, PS = [] := ⟨_, rfl⟩
  have hpl : PS.length ≤ 4096 := by rw [hPS]; exact Nat.zero_le _
  have HX8 : Hid (Boxed w8 w2.heap.size 25 (.slice none PS.length 0)) := Lib.hid (by rw [hw8, hPS]; exact bx HBX.out HD5.out)
  have HR8 : Hid (RdI .i64 w8 none PS) := Lib.hid (by rw [hPS]; obtain ⟨A', c', he, -, h9⟩ := (OwI.nil (k := .i64) 3 w8 0).reads; injection he with e1; subst e1; exact h9)
  have kz : w2.heap.size < w8.heap.size := HX8.out.lt
  rw [← hPS] at HPS
  clear hw8 hPS HB5 HC5 HD5
  have HB9 : Hid (Below w.heap.size w (w8.alloc (.cells #[.int .i64 0] 3))) := Lib.hid (below_alloc HB8.out _)
  have HK9 : Hid (Boxed (w8.alloc (.cells #[.int .i64 0] 3)) w8.heap.size 3 (.int .i64 0)) := Lib.hid (Boxed.new _ _ _)
  have HD9 : Hid (Below w8.heap.size w8 (w8.alloc (.cells #[.int .i64 0] 3))) := Lib.hid (below_alloc (Below.refl _ _) _)
  have z9 : (w8.alloc (.cells #[.int .i64 0] 3)).heap.size = w8.heap.size + 1 := by simp
  generalize w8.alloc (.cells #[.int .i64 0] 3) = w9 at *
  refine (callsIn_wide.2 (HALL.out w9 HB9.out)).mono ?_
  rintro e w10 ⟨A2, c2, Bn, rfl, hcell, hrd, hA2, hBn1, hBn2, hb10⟩
  have HB10 := Lib.hid (below_then HB9.out HB9.out.size hb10)
  have HD10 := Lib.hid (below_then HD9.out (by omega) hb10)
  have HK10 : Hid (Boxed w10 w8.heap.size 3 (.int .i64 0)) := Lib.hid (bx HK9.out hb10)
  have HA3 := Lib.hid (fun ad (h : A2 = some ad) => hA2 ad h)
  have HST := Lib.hid (all_told (n := 3) Bn A2 c2 l w10 hBn2 hcell hrd (by omega))
  rw [HPS.out] at HST
  have z10 : w9.heap.size ≤ w10.heap.size := hb10.size
  clear hcell hrd hA2 hBn1 hBn2 hb10 HALL HB9 HD9 HK9
  gi_wp2
  have hIb : OwnFrom w10.heap.size (fun (pre : List (Int × Int)) W => Boxed W w8.heap.size 3 (.int .i64 pre.length) ∧ Below w8.heap.size w8 W ∧ w10.heap.size ≤ W.heap.size) :=
    OwnFrom.and (Own.from (boxed_own w8.heap.size 3 (fun pre : List (Int × Int) => Value.int .i64 pre.length)) _) (OwnFrom.and (ownFrom_below (Nat.le_refl _) (by omega)) ownFrom_size)
  refine wpIn_rangeFunc_ownG rfl (by decide) (gf := 46) (lb := #[.pointer (some ⟨Bn, 0, none⟩)]) rfl trivial (enters_of Try.func46 (by kernel_rfl) rfl)
    HST.out (fun h1 h2 ad h => (h2 ad h).trans (h1 ad h)) (fun W r o o' hr _ _ _ ad h => World.putObj_heap_other (by have := (HA3.out ad h).2; omega)) (Below.refl _ _) (fun _ => rfl)
    (fun pre W => (pre <+: idx 0 PS ∧ (pre.length : Int) < s) ∧ (Boxed W w8.heap.size 3 (.int .i64 pre.length) ∧ Below w8.heap.size w8 W ∧ w10.heap.size ≤ W.heap.size))
    (fun c pre W => ((c = .ret ∧ ¬ pre <+: idx 0 PS) ∨ (c = .exit 0 ∧ (pre.length : Int) = s)) ∧ (c ≠ .ret → Boxed W w8.heap.size 3 (.int .i64 pre.length) ∧ Below w8.heap.size w8 W ∧ w10.heap.size ≤ W.heap.size))
    (OwnFrom.and (fun _ _ _ _ hs _ _ => hs) hIb)
    (fun c => OwnFrom.and (fun _ _ _ _ hs _ _ => hs) (fun p W W' row hs hg hr hne => hIb p W W' row (hs hne) hg hr))
    ⟨⟨List.nil_prefix, by simp; omega⟩, HK10.out, HD10.out, Nat.le_refl _⟩
    (fun x => { tmps := #[.slice A l.length c, .int .i64 s, undef, .pointer (some ⟨w.heap.size, 0, none⟩), .pointer (some ⟨w.heap.size + 1, 0, none⟩), .pointer (some ⟨w2.heap.size, 0, none⟩), .pointer (some ⟨w8.heap.size, 0, none⟩), .int .i64 x.1, .int .i64 x.2, .slice A l.length c, .bool true, .bool false, .bool false, .bool true, .bool false, .bool false, .bool false, .int .i64 s, .bool false, .bool false, undef, .slice A l.length c, .slice A4 l.length c4, .int .i64 (chk l), .bool false, undef, undef, undef, .slice A l.length c, .func (.func 46) #[] #[.pointer (some ⟨Bn, 0, none⟩)], .int .i64 x.1, .int .i64 x.2, undef, undef, undef, undef, undef, undef, undef, undef, undef, undef, undef, undef, undef, undef, undef, undef, undef, undef, undef, undef, undef, undef, undef, undef, undef, undef, undef, undef, undef, undef, undef], defers := [] }) ?assign ?body ?done ?stop
  case assign =>
    intro r x W K hK
    gi_wp2
    exact hK
  case body =>
    rintro r pre x W ⟨⟨hpre, hls⟩, hK, hD, hz⟩ hlt
    have cK := hK.cell
    have fK := hK.frozen
    have cS : W.cell? ⟨w.heap.size, 0, none⟩ = some (.int .i64 s) := (hD.cell (p := ⟨w.heap.size, 0, none⟩) (by show w.heap.size < w8.heap.size; omega)).trans (bx HBS.out HC8.out).cell
    have bR : Boxed W (w.heap.size + 1) 4 (.bool false) := (hD.block (w.heap.size + 1) (by omega)).trans (bx HBR.out HC8.out)
    have cR := bR.cell
    have fR := bR.frozen
    have cX : W.cell? ⟨w2.heap.size, 0, none⟩ = some (.slice none PS.length 0) := (hD.cell (p := ⟨w2.heap.size, 0, none⟩) (by show w2.heap.size < w8.heap.size; omega)).trans HX8.out.cell
    obtain ⟨ad, hA, c0⟩ := (HR8.out.below hD).at_ pre.length hlt
    cases hA
  case done =>
    rintro D ys W hD rfl ⟨⟨-, hls⟩, hK, hDW, hz⟩ hKD
    rw [idx_length] at hls hK
    have cK := hK.cell
    have cS : W.cell? ⟨w.heap.size, 0, none⟩ = some (.int .i64 s) := (hDW.cell (p := ⟨w.heap.size, 0, none⟩) (by show w.heap.size < w8.heap.size; omega)).trans (bx HBS.out HC8.out).cell
    have bR : Boxed W (w.heap.size + 1) 4 (.bool false) := (hDW.block (w.heap.size + 1) (by omega)).trans (bx HBR.out HC8.out)
    have cR := bR.cell
    have fR := bR.frozen
    have cX : W.cell? ⟨w2.heap.size, 0, none⟩ = some (.slice none PS.length 0) := (hDW.cell (p := ⟨w2.heap.size, 0, none⟩) (by show w2.heap.size < w8.heap.size; omega)).trans HX8.out.cell
    have hDp := Lib.hid hDW
    clear hDW hK
    have e4 : ((PS.length : Int) == min s (PS.length : Int)) = true := by simp; omega
    gi_wp2
    refine ⟨trivial, ?_⟩
    refine (callsIn_wide.2 (HAW.out W)).mono ?_
    rintro e w11 ⟨rfl, hb11⟩
    have bR11 := bx bR hb11
    have cR11 := bR11.cell
    have fR11 := bR11.frozen
    have hK11 : w11.heap[D]? = some (.deferred (some [])) := (hb11.block D (Array.getElem?_eq_some_iff.1 hKD).1).trans hKD
    have HB11 := Lib.hid (below_then (HB8.out.trans (hDp.out.mono (by omega))) (by omega) hb11)
    clear cR fR
    gi_wp2
    have hK' := (KeepsOthers.setCell w11 ⟨w.heap.size + 1, 0, none⟩ (.bool true)).same D _ hK11 rfl
    refine ⟨by simp, .inl ⟨_, _, rfl, run_takeDeferred hK', ?_⟩⟩
    have hc5 := cell_kept (World.cell?_setCell_same' w11 ⟨w.heap.size + 1, 0, none⟩ (.bool true) (by rw [cR11]; rfl)) (grownBy_putObj' _ D (.deferred none)) (fun r e => by cases e; exact ⟨_, hK', rfl⟩)
    refine ⟨.bool true, ?_, rfl, (HB11.out.setCell (p := ⟨w.heap.size + 1, 0, none⟩) (by show w.heap.size ≤ w.heap.size + 1; omega) _).trans (belowK_b (w := w) (Nat.le_refl _) _ D _ _ (by omega) hK' rfl rfl)⟩
    simp [results, go_sem, hc5]
  case stop =>
    rintro D c pre W hD hp ⟨h3, h4⟩ hKD
    obtain ⟨rfl, h5⟩ | ⟨rfl, h5⟩ := h3
    · exact absurd hp h5
    have hp2 := hp.length_le
    rw [idx_length] at hp2
    obtain ⟨hK, hDW, hz⟩ := h4 (by simp)
    rw [h5] at hK
    have cK := hK.cell
    have cS : W.cell? ⟨w.heap.size, 0, none⟩ = some (.int .i64 s) := (hDW.cell (p := ⟨w.heap.size, 0, none⟩) (by show w.heap.size < w8.heap.size; omega)).trans (bx HBS.out HC8.out).cell
    have bR : Boxed W (w.heap.size + 1) 4 (.bool false) := (hDW.block (w.heap.size + 1) (by omega)).trans (bx HBR.out HC8.out)
    have cR := bR.cell
    have fR := bR.frozen
    have cX : W.cell? ⟨w2.heap.size, 0, none⟩ = some (.slice none PS.length 0) := (hDW.cell (p := ⟨w2.heap.size, 0, none⟩) (by show w2.heap.size < w8.heap.size; omega)).trans HX8.out.cell
    have hDp := Lib.hid hDW
    clear hDW hK
    have e4 : (s == min s (PS.length : Int)) = true := by simp; omega
    gi_wp2
    refine ⟨trivial, ?_⟩
    refine (callsIn_wide.2 (HAW.out W)).mono ?_
    rintro e w11 ⟨rfl, hb11⟩
    have bR11 := bx bR hb11
    have cR11 := bR11.cell
    have fR11 := bR11.frozen
    have hK11 : w11.heap[D]? = some (.deferred (some [])) := (hb11.block D (Array.getElem?_eq_some_iff.1 hKD).1).trans hKD
    have HB11 := Lib.hid (below_then (HB8.out.trans (hDp.out.mono (by omega))) (by omega) hb11)
    clear cR fR
    gi_wp2
    have hK' := (KeepsOthers.setCell w11 ⟨w.heap.size + 1, 0, none⟩ (.bool true)).same D _ hK11 rfl
    refine ⟨by simp, .inl ⟨_, _, rfl, run_takeDeferred hK', ?_⟩⟩
    have hc5 := cell_kept (World.cell?_setCell_same' w11 ⟨w.heap.size + 1, 0, none⟩ (.bool true) (by rw [cR11]; rfl)) (grownBy_putObj' _ D (.deferred none)) (fun r e => by cases e; exact ⟨_, hK', rfl⟩)
    refine ⟨.bool true, ?_, rfl, (HB11.out.setCell (p := ⟨w.heap.size + 1, 0, none⟩) (by show w.heap.size ≤ w.heap.size + 1; omega) _).trans (belowK_b (w := w) (Nat.le_refl _) _ D _ _ (by omega) hK' rfl rfl)⟩
    simp [results, go_sem, hc5]
set_option maxHeartbeats 800000 in
theorem narrow (A : Option Addr) (c : Nat) (l : List Sp) (s : Int) (w : World) (hr : RdSp w A l) (hm : l.length ≤ 9223372036854775807) (h : small l = false ∨ small l = true ∧ s < 1) :
    Calls Try.prog 3 #[.slice A l.length c, .int .i64 s] w fun e w' => e = .returned (.bool true) ∧ Below w.heap.size w w' := by
  have HSM := Lib.hid (fun W (h : Below w.heap.size w W) => small_calls A c l W (hr.below h) hm)
  have HAW := Lib.hid (fun W => awake_calls W)
  clear hr
  refine (callsIn_wide (n := 4)).1 ?_
  refine callsIn_of_wp_marks Try.func3 rfl trivial ?_ rfl
  simp only [Try.ntmps3, List.size_toArray, List.length_cons, List.length_nil, Nat.reduceAdd, Nat.reduceSub, Array.replicate_succ, Array.replicate_zero, List.push_toArray, List.append_toArray, List.nil_append, List.cons_append]
  gi_wp2
  refine ⟨trivial, ?_⟩
  obtain ⟨W0, hW0⟩ : ∃ W0, W0 = (w.alloc (.cells #[.int .i64 s] 3)).alloc (.cells #[.bool false] 4) := ⟨_, rfl⟩
  have bS : Boxed W0 w.heap.size 3 (.int .i64 s) := by
    rw [hW0]
    exact (Below.heap_alloc _ _ _ (by simp)).trans (World.alloc_heap_new w _)
  have bR : Boxed W0 (w.heap.size + 1) 4 (.bool false) := by
    rw [hW0]
    have := Boxed.new (w.alloc (.cells #[.int .i64 s] 3)) 4 (.bool false)
    rwa [World.size_alloc] at this
  have HB0 : Hid (Below w.heap.size w W0) := Lib.hid (by rw [hW0]; exact below_alloc (below_alloc (Below.refl _ _) _) _)
  have z0 : W0.heap.size = w.heap.size + 2 := by rw [hW0]; simp
  have HBS := Lib.hid bS
  have HBR := Lib.hid bR
  rw [← hW0]
  clear hW0 bS bR
  rcases h with hs | ⟨hs, h1⟩
  · rw [hs] at HSM
    clear hs
    refine (callsIn_wide.2 (HSM.out W0 HB0.out)).mono ?_
    rintro e w1 ⟨rfl, hb1⟩
    have HB1 := Lib.hid (below_then HB0.out HB0.out.size hb1)
    have HC1 : Hid (Below W0.heap.size W0 w1) := Lib.hid hb1
    clear hb1 HSM
    gi_wp2
    refine ⟨trivial, ?_⟩
    gi_wp2
    refine ⟨trivial, ?_⟩
    refine (callsIn_wide.2 (HAW.out w1)).mono ?_
    rintro e w2 ⟨rfl, hb2⟩
    have HB2 := Lib.hid (below_then HB1.out HB1.out.size hb2)
    have HC2 := Lib.hid (below_then HC1.out HC1.out.size hb2)
    have bR2 := bx HBR.out HC2.out
    have cR := bR2.cell
    have fR := bR2.frozen
    clear hb2 bR2
    gi_wp2
    refine ⟨.bool true, ?_, rfl, HB2.out.setCell (p := ⟨w.heap.size + 1, 0, none⟩) (by show w.heap.size ≤ w.heap.size + 1; omega) _⟩
    have hc5 := World.cell?_setCell_same' w2 ⟨w.heap.size + 1, 0, none⟩ (.bool true) (by rw [cR]; rfl)
    simp [results, go_sem, hc5]
  · rw [hs] at HSM
    have d1 : decide (s < 1) = true := by simp; omega
    clear hs
    refine (callsIn_wide.2 (HSM.out W0 HB0.out)).mono ?_
    rintro e w1 ⟨rfl, hb1⟩
    have HB1 := Lib.hid (below_then HB0.out HB0.out.size hb1)
    have HC1 : Hid (Below W0.heap.size W0 w1) := Lib.hid hb1
    clear hb1 HSM
    gi_wp2
    refine ⟨trivial, ?_⟩
    refine (callsIn_wide.2 (HAW.out w1)).mono ?_
    rintro e w2 ⟨rfl, hb2⟩
    have HB2 := Lib.hid (below_then HB1.out HB1.out.size hb2)
    have HC2 := Lib.hid (below_then HC1.out HC1.out.size hb2)
    have cS2 : w2.cell? ⟨w.heap.size, 0, none⟩ = some (.int .i64 s) := (HC2.out.cell (p := ⟨w.heap.size, 0, none⟩) (by show w.heap.size < _; omega)).trans HBS.out.cell
    clear hb2
    gi_wp2
    refine ⟨trivial, ?_⟩
    refine (callsIn_wide.2 (HAW.out w2)).mono ?_
    rintro e w3 ⟨rfl, hb3⟩
    have HB3 := Lib.hid (below_then HB2.out HB2.out.size hb3)
    have bR3 := bx HBR.out (below_then HC2.out HC2.out.size hb3)
    have cR := bR3.cell
    have fR := bR3.frozen
    clear hb3 bR3 cS2
    gi_wp2
    refine ⟨.bool true, ?_, rfl, HB3.out.setCell (p := ⟨w.heap.size + 1, 0, none⟩) (by show w.heap.size ≤ w.heap.size + 1; omega) _⟩
    have hc5 := World.cell?_setCell_same' w3 ⟨w.heap.size + 1, 0, none⟩ (.bool true) (by rw [cR]; rfl)
    simp [results, go_sem, hc5]
theorem walk (a0 : Option Addr) (len0 cap0 : Nat) (z0 : List Sp) (s : Int) (w : World) (h0 : IsSps w a0 len0 cap0 z0) (_ : (Lit.int .i64 s).wf = true) :
    Calls Try.prog 3 #[.slice a0 len0 cap0, .int .i64 s] w fun e w' => e = .returned (.bool true) ∧ Below w.heap.size w w' := by
  obtain ⟨hr, rfl, hc, hA, hm, -⟩ := h0
  unfold maxLen at hm
  cases hs : small z0 with
  | false => exact narrow a0 cap0 z0 s w hr (by omega) (.inl hs)
  | true =>
    by_cases h1 : 1 ≤ s
    · by_cases hk : chk z0 = 0
      · exact right a0 cap0 z0 s w hr (small_len hs) hc hA hs h1 hk
      · exact wrong a0 cap0 z0 s w hr (small_len hs) hc hA hs h1 hk
    · exact narrow a0 cap0 z0 s w hr (by omega) (.inr ⟨hs, by omega⟩)
end Go.Proofs.Ytaenincbmlcjiaa.SpanAll
