/- span's walks: what is canonical, the canonical list of places. -/
import Derived.Test.YtjfekjbmgckkcaaGreatDoorSpanA
namespace Go.Proofs.YtjfekjbmgckkcaaGreatDoor.SpanB
open Go.RowKit Go.Proofs.YtjfekjbmgckkcaaGreatDoorW.PrintWords
open Go.Proofs.YtjfekjbmgckkcaaGreatDoor.Base Go.Proofs.YtjfekjbmgckkcaaGreatDoor.SpanPure Go.Proofs.YtjfekjbmgckkcaaGreatDoor.SpanBase Go.Proofs.YtjfekjbmgckkcaaGreatDoor.SpanA

theorem infoSp : (Tryz.prog.info? 119).map (fun i => (i.zero, i.size, i.bytes)) = some (some (.agg #[.int .i64 0, .int .i64 0]), 2, 16) := by kernel_rfl

set_option maxHeartbeats 1600000 in
theorem canonical_calls (A : Option Addr) (c : Nat) (l : List Sp) (w : World) (hr : RdSp w A l) (hm : l.length ≤ 1000000000) :
    Calls Tryz.prog 199 #[.slice A l.length c] w fun e w' => e = .returned (.bool (canonical l)) ∧ Below w.heap.size w w' := by
  have HR := Lib.hid hr
  have HC := Lib.hid (fun W (h : Below w.heap.size w W) => check_calls A c l W (hr.below h) hm)
  clear hr
  go_enter Tryz.func199, Tryz.ntmps199
  go_wp2
  go_loopw [7] (fun i wr => ∃ (k : Nat), k ≤ l.length ∧ i = .int .i64 k ∧ Hid (canonF true l = canonF (decide (k = 0)) (l.drop k)) ∧ Below w.heap.size w wr) (fun i _ => l.length - (intOf i).toNat)
  case atStart => exact ⟨0, by omega, rfl, Lib.hid rfl, Below.refl _ _⟩
  case round =>
    obtain ⟨k, hk, rfl, hd, hb⟩ := hrel
    have HB := Lib.hid hb
    have hsz := hb.size
    by_cases hlt : k < l.length
    · obtain ⟨ad, hA, c0, c1⟩ := (HR.out.below hb).at_ k hlt
      subst hA
      have HD := Lib.hid (show l.drop k = l[k] :: l.drop (k + 1) from List.drop_eq_getElem_cons hlt)
      obtain ⟨s, hs⟩ : ∃ s, s = l[k] := ⟨_, rfl⟩
      rw [← hs] at c0 c1 HD
      obtain ⟨o, q⟩ := s
      simp only at c0 c1
      have HX : Hid (canonF (decide (k = 0)) ((o, q) :: l.drop (k + 1)) = (decide (q ≠ 0 ∧ (0 < k → o ≠ 0)) && canonF (decide (k + 1 = 0)) (l.drop (k + 1)))) := Lib.hid (by
        rw [canonF, decide_eq_false (Nat.succ_ne_zero k)]
        congr 1
        rw [Bool.eq_iff_iff, Bool.and_eq_true, Bool.or_eq_true, decide_eq_true_iff, decide_eq_true_iff, decide_eq_true_iff, decide_eq_true_iff]
        simp only
        omega)
      clear hs hb
      by_cases h1 : q = 0
      · have e1 : (q == 0) = true := by simpa using h1
        have HF : Hid (canonical l = false) := Lib.hid (by rw [canonical, hd.out, HD.out, HX.out, decide_eq_false (by omega)]; rfl)
        clear h1
        go_wp2
        go_ret
        exact ⟨by rw [HF.out]; rfl, HB.out.alloc hsz _⟩
      · have e1 : (q == 0) = false := by simpa using h1
        by_cases h2 : 0 < k
        · have e2 : decide ((k : Int) > 0) = true := by simp; omega
          have e2' : decide (0 < (k : Int)) = true := by simp; omega
          have e2n : decide (0 < k) = true := by simp; omega
          by_cases h3 : o = 0
          · have e3 : (o == 0) = true := by simpa using h3
            have HF : Hid (canonical l = false) := Lib.hid (by rw [canonical, hd.out, HD.out, HX.out, decide_eq_false (by omega)]; rfl)
            clear h1 h3
            go_wp2
            go_ret
            exact ⟨by rw [HF.out]; rfl, HB.out.alloc hsz _⟩
          · have e3 : (o == 0) = false := by simpa using h3
            have HF : Hid (canonF true l = canonF (decide (k + 1 = 0)) (l.drop (k + 1))) := Lib.hid (by rw [hd.out, HD.out, HX.out, decide_eq_true (by omega)]; rfl)
            clear h1 h3
            go_wp2
            go_roundw
            case rel => exact ⟨k + 1, by omega, by go_num, HF, HB.out.alloc hsz _⟩
            case measure => simp [intOf]; omega
        · have e2 : decide ((k : Int) > 0) = false := by simp; omega
          have e2' : decide (0 < (k : Int)) = false := by simp; omega
          have e2n : decide (0 < k) = false := by simp; omega
          have HF : Hid (canonF true l = canonF (decide (k + 1 = 0)) (l.drop (k + 1))) := Lib.hid (by rw [hd.out, HD.out, HX.out, decide_eq_true (by omega)]; rfl)
          clear h1
          go_wp2
          go_roundw
          case rel => exact ⟨k + 1, by omega, by go_num, HF, HB.out.alloc hsz _⟩
          case measure => simp [intOf]; omega
    · obtain rfl : k = l.length := by omega
      have HF : Hid (canonical l = decide (chk l = 0)) := Lib.hid (by rw [canonical, hd.out, List.drop_length]; rfl)
      have HCC := Lib.hid (HC.out wr HB.out)
      by_cases hc : chk l = 0
      · have e1 : ((chk l : Int) == 0) = true := by simp [hc]
        rw [decide_eq_true hc] at HF
        clear hc
        go_wp2_with (go_at_call 166; refine HCC.out.mono ?_; rintro e w1 ⟨rfl, hb1⟩)
        go_ret
        exact ⟨by rw [HF.out]; rfl, below_then HB.out hsz hb1⟩
      · have e1 : ((chk l : Int) == 0) = false := by simp; exact hc
        rw [decide_eq_false hc] at HF
        clear hc
        go_wp2_with (go_at_call 166; refine HCC.out.mono ?_; rintro e w1 ⟨rfl, hb1⟩)
        go_ret
        exact ⟨by rw [HF.out]; rfl, below_then HB.out hsz hb1⟩

/-- what From hands back. -/
def FromPost (ps : List Int) (w : World) (e : Ending) (w' : World) : Prop :=
  Below w.heap.size w w' ∧ ((rising ps = false ∧ e = .returned (.tuple #[.slice none 0 0, .int .i64 11])) ∨
    (rising ps = true ∧ (4096 < ps.length ∨ 1024 < (fromL ps).length) ∧ e = .returned (.tuple #[.slice none 0 0, .int .i64 12])) ∨
    (rising ps = true ∧ ps.length ≤ 4096 ∧ (fromL ps).length ≤ 1024 ∧ ∃ v, e = .returned (.tuple #[v, .int .i64 0]) ∧ OwSp 119 w' w.heap.size v (fromL ps)))
theorem buildF_cons_new (L : List Sp) (f p : Int) (ps : List Int) (h : L = [] ∨ f < p) : buildF L f (p :: ps) = buildF (L ++ [(p - f, 1)]) (p + 1) ps := by
  rw [buildF, addP, if_pos h]
theorem buildF_cons_old (i : List Sp) (s : Sp) (p : Int) (ps : List Int) : buildF (i ++ [s]) p (p :: ps) = buildF (i ++ [(s.1, s.2 + 1)]) (p + 1) ps := by
  rw [buildF, addP, if_neg (by simp)]
  simp
theorem rising_step (k : Nat) (f p : Int) (t : List Int) : risingF (decide (k = 0)) f (p :: t) = (decide (-1048576 ≤ p ∧ p ≤ 1048576 ∧ (0 < k → f ≤ p)) && risingF (decide (k + 1 = 0)) (p + 1) t) := by
  rw [risingF, decide_eq_false (Nat.succ_ne_zero k)]
  congr 1
  rw [Bool.eq_iff_iff, decide_eq_true_iff, decide_eq_true_iff, decide_eq_true_iff]
  omega

set_option maxHeartbeats 3200000 in
theorem from_calls (A : Option Addr) (c : Nat) (ps : List Int) (w : World) (hr : RdI .i64 w A ps) (hm : ps.length ≤ 100000000000) :
    Calls Tryz.prog 119 #[.slice A ps.length c] w (FromPost ps w) := by
  have HR := Lib.hid hr
  clear hr
  go_enter Tryz.func119, Tryz.ntmps119
  go_wp2
  go_loopw [4, 5, 10] (fun v t i wr => ∃ (k : Nat) (f : Int) (L : List Sp), k ≤ ps.length ∧ i = .int .i64 k ∧ t = .int .i64 f ∧ -1048576 ≤ f ∧ f ≤ 1048577 ∧ L.length ≤ k ∧ (0 < k → 0 < L.length) ∧ Hid (k = 0 → f = 0) ∧ (∀ s ∈ L, 0 ≤ s.2 ∧ s.2 ≤ k) ∧ OwSp 119 wr w.heap.size v L ∧
    Hid (rising ps = risingF (decide (k = 0)) f (ps.drop k)) ∧ Hid (fromL ps = buildF L f (ps.drop k)) ∧ Below w.heap.size w wr) (fun _ _ i _ => ps.length - (intOf i).toNat)
  case atStart => exact ⟨0, 0, [], by omega, rfl, rfl, by omega, by omega, by simp, by simp, Lib.hid (fun _ => rfl), by simp, OwSp.nil _ _ _, Lib.hid rfl, Lib.hid rfl, Below.refl _ _⟩
  case round =>
    obtain ⟨k, f, L, hk, rfl, rfl, hf1, hf2, hL, hL0, hz, hq, ho, hris, hfr, hb⟩ := hrel
    have HB := Lib.hid hb
    have HO := Lib.hid ho
    have HQ := Lib.hid hq
    have hsz := hb.size
    by_cases hlt : k < ps.length
    · obtain ⟨ad, hA, c0⟩ := (HR.out.below hb).at_ k hlt
      subst hA
      have HD := Lib.hid (show ps.drop k = ps[k] :: ps.drop (k + 1) from List.drop_eq_getElem_cons hlt)
      obtain ⟨p, hp⟩ : ∃ p, p = ps[k] := ⟨_, rfl⟩
      rw [← hp] at c0 HD
      have HX := Lib.hid (rising_step k f p (ps.drop (k + 1)))
      have hz0 : 0 < k ∨ f = 0 := by
        rcases Nat.eq_zero_or_pos k with h | h
        · exact .inr (hz.out h)
        · exact .inl h
      have HEND : Hid (∀ (w2 : World) (v2 : Value) (L2 : List Sp), rising ps = risingF (decide (k + 1 = 0)) (p + 1) (ps.drop (k + 1)) → fromL ps = buildF L2 (p + 1) (ps.drop (k + 1)) → OwSp 119 w2 w.heap.size v2 L2 → L2.length ≤ k + 1 → 0 < L2.length →
          (∀ s ∈ L2, 0 ≤ s.2 ∧ s.2 ≤ ((k + 1 : Nat) : Int)) → Below w.heap.size w w2 → -1048576 ≤ p → p ≤ 1048576 →
          ∃ (k' : Nat) (f' : Int) (L : List Sp), k' ≤ ps.length ∧ Value.int .i64 ((k : Int) + 1) = .int .i64 k' ∧ Value.int .i64 (p + 1) = .int .i64 f' ∧ -1048576 ≤ f' ∧ f' ≤ 1048577 ∧ L.length ≤ k' ∧ (0 < k' → 0 < L.length) ∧ Hid (k' = 0 → f' = 0) ∧ (∀ s ∈ L, 0 ≤ s.2 ∧ s.2 ≤ k') ∧ OwSp 119 w2 w.heap.size v2 L ∧
            Hid (rising ps = risingF (decide (k' = 0)) f' (ps.drop k')) ∧ Hid (fromL ps = buildF L f' (ps.drop k')) ∧ Below w.heap.size w w2) := Lib.hid (by
        intro w2 v2 L2 h1 h2 h3 h4 h5 h6 h7 h8 h9
        exact ⟨k + 1, p + 1, L2, by omega, by go_num, rfl, by omega, by omega, h4, fun _ => h5, Lib.hid (fun h => by omega), h6, h3, Lib.hid h1, Lib.hid h2, h7⟩)
      have hLk : L.length ≤ 100000000000 := by omega
      clear hp hb ho hq
      by_cases hin : -1048576 ≤ p ∧ p ≤ 1048576
      · have din : decide (-1048576 ≤ p ∧ p ≤ 1048576) = true := by simpa using hin
        obtain ⟨hin1, hin2⟩ := hin
        by_cases hbad : 0 < k ∧ p < f
        · have e1 : decide ((k : Int) > 0) = true := by simp; omega
          have e1' : decide (0 < (k : Int)) = true := by simp; omega
          have e1n : decide (0 < k) = true := by simp; omega
          have e2 : decide (p < f) = true := by simp; omega
          have HF : Hid (rising ps = false) := Lib.hid (by rw [hris.out, HD.out, HX.out, decide_eq_false (by omega)]; rfl)
          clear hbad
          go_wp2_with (go_at_call 183; refine (in_calls _ _).mono ?_; rintro e w' ⟨rfl, rfl⟩)
          go_ret2
          exact ⟨HB.out, .inl ⟨HF.out, rfl⟩⟩
        · have HR1 : Hid (rising ps = risingF (decide (k + 1 = 0)) (p + 1) (ps.drop (k + 1))) := Lib.hid (by rw [hris.out, HD.out, HX.out, decide_eq_true (by omega)]; rfl)
          by_cases hnew : k = 0 ∨ f < p
          · have HL : Hid (L = [] ∨ f < p) := Lib.hid (by
              rcases hnew with h | h
              · exact .inl (List.length_eq_zero_iff.1 (by omega))
              · exact .inr h)
            have HF1 : Hid (fromL ps = buildF (L ++ [(p - f, 1)]) (p + 1) (ps.drop (k + 1))) := Lib.hid (by rw [hfr.out, HD.out, buildF_cons_new _ _ _ _ HL.out])
            have HQ1 : Hid (∀ s ∈ L ++ [(p - f, (1 : Int))], 0 ≤ s.2 ∧ s.2 ≤ ((k + 1 : Nat) : Int)) := Lib.hid (by
              intro s hs
              rcases List.mem_append.1 hs with hs | hs
              · have := HQ.out s hs; omega
              · rw [List.mem_singleton.1 hs]; simp only; omega)
            by_cases hk0 : k = 0
            · have e0 : decide ((k : Int) > 0) = false := by simp; omega
              have e0' : decide (0 < (k : Int)) = false := by simp; omega
              have e0n : decide (0 < k) = false := by simp; omega
              have e1 : ((k : Int) == 0) = true := by simp; omega
              clear hbad hnew hL0 hz hz0 hk0
              go_wp2_with (first
                | (go_at_call 183; refine (in_calls _ _).mono ?_; rintro e w' ⟨rfl, rfl⟩)
                | (at_builtin; refine append_span (w0 := w) w.heap.size rfl (.tmp 34) (.tmp 39) 23 119 16 rfl Tryz.underlying23 infoSp _ L (p - f) 0 rfl rfl HO.out HB.out hsz (by omega) (by omega) ?_; intro g cap w1 ho1 hb1 hg1 hat1; have hl1 := ho1.last_; have hge := ho1.base_ g rfl; have HO1 := Lib.hid ho1; have HB1 := Lib.hid hb1; obtain ⟨hc1, hf1⟩ := hl1; simp only at hc1; clear ho1 hb1))
              go_roundw
              case rel => exact HEND.out _ _ _ HR1.out HF1.out HO1.out.setLast (by simp; omega) (by simp) HQ1.out (HB1.out.setCell hge _) hin1 hin2
              case measure => simp [intOf]; omega
            · have e0 : decide ((k : Int) > 0) = true := by simp; omega
              have e0' : decide (0 < (k : Int)) = true := by simp; omega
              have e0n : decide (0 < k) = true := by simp; omega
              have e1 : ((k : Int) == 0) = false := by simp; omega
              have e2 : decide (p < f) = false := by simp; omega
              have e3 : decide (p > f) = true := by simp; omega
              have e3' : decide (f < p) = true := by simp; omega
              clear hbad hnew hL0 hz hz0 hk0
              go_wp2_with (first
                | (go_at_call 183; refine (in_calls _ _).mono ?_; rintro e w' ⟨rfl, rfl⟩)
                | (at_builtin; refine append_span (w0 := w) w.heap.size rfl (.tmp 34) (.tmp 39) 23 119 16 rfl Tryz.underlying23 infoSp _ L (p - f) 0 rfl rfl HO.out HB.out hsz (by omega) (by omega) ?_; intro g cap w1 ho1 hb1 hg1 hat1; have hl1 := ho1.last_; have hge := ho1.base_ g rfl; have HO1 := Lib.hid ho1; have HB1 := Lib.hid hb1; obtain ⟨hc1, hf1⟩ := hl1; simp only at hc1; clear ho1 hb1))
              go_roundw
              case rel => exact HEND.out _ _ _ HR1.out HF1.out HO1.out.setLast (by simp; omega) (by simp) HQ1.out (HB1.out.setCell hge _) hin1 hin2
              case measure => simp [intOf]; omega
          · have hk0 : 0 < k := by omega
            obtain rfl : f = p := by omega
            obtain ⟨i, s, rfl, -, -⟩ := dropLast_snoc (l := L) (fun h => by rw [h] at hL0; have := hL0 hk0; simp at this)
            have HF1 : Hid (fromL ps = buildF (i ++ [(s.1, s.2 + 1)]) (f + 1) (ps.drop (k + 1))) := Lib.hid (by rw [hfr.out, HD.out, buildF_cons_old])
            have hs0 := HQ.out s (by simp)
            have HQ1 : Hid (∀ u ∈ i ++ [(s.1, s.2 + 1)], 0 ≤ u.2 ∧ u.2 ≤ ((k + 1 : Nat) : Int)) := Lib.hid (by
              intro u hu
              rcases List.mem_append.1 hu with hu | hu
              · have := HQ.out u (List.mem_append_left _ hu); omega
              · rw [List.mem_singleton.1 hu]; simp only; omega)
            obtain ⟨g, cap, rfl, hge, hgl, hcap⟩ := HO.out.form (by simp)
            rw [List.length_append, List.length_singleton] at HO hL hLk hcap ⊢
            have HO1 := Lib.hid HO.out
            obtain ⟨hc1, hf1⟩ := HO1.out.last_
            obtain ⟨x, q⟩ := s
            simp only at hc1 hs0
            obtain ⟨h01, h02⟩ := hs0
            have hi64 : q ≤ 100000000000 := by omega
            have e0 : decide ((k : Int) > 0) = true := by simp; omega
            have e0' : decide (0 < (k : Int)) = true := by simp; omega
            have e0n : decide (0 < k) = true := by simp; omega
            have e1 : ((k : Int) == 0) = false := by simp; omega
            clear hbad hnew hL0 hz hz0 h02 HO HQ
            go_wp2_with (go_at_call 183; refine (in_calls _ _).mono ?_; rintro e w' ⟨rfl, rfl⟩)
            go_roundw
            case rel => exact HEND.out _ _ _ HR1.out HF1.out HO1.out.setLast (by simp; omega) (by simp) HQ1.out (HB.out.setCell hge _) hin1 hin2
            case measure => simp [intOf]; omega
      · have din : decide (-1048576 ≤ p ∧ p ≤ 1048576) = false := by simpa using hin
        have HF : Hid (rising ps = false) := Lib.hid (by rw [hris.out, HD.out, HX.out, decide_eq_false (by omega)]; rfl)
        clear hin
        go_wp2_with (go_at_call 183; refine (in_calls _ _).mono ?_; rintro e w' ⟨rfl, rfl⟩)
        go_ret2
        exact ⟨HB.out, .inl ⟨HF.out, rfl⟩⟩
    · obtain rfl : k = ps.length := by omega
      have HR1 : Hid (rising ps = true) := Lib.hid (by rw [hris.out, List.drop_length]; rfl)
      have HF1 : Hid (fromL ps = L) := Lib.hid (by rw [hfr.out, List.drop_length]; rfl)
      obtain ⟨A1, c1, rfl, hc1, -, -⟩ := ho.reads
      clear hq ho hb hL0 hz hris hfr
      by_cases h1 : 4096 < ps.length
      · have d1 : decide ((ps.length : Int) > 4096) = true := by simp; omega
        have d1' : decide (4096 < (ps.length : Int)) = true := by simp; omega
        have d1n : decide (4096 < ps.length) = true := by simp; omega
        have HP : Hid (4096 < ps.length ∨ 1024 < (fromL ps).length) := Lib.hid (.inl h1)
        clear h1
        go_wp2
        go_ret2
        exact ⟨HB.out, .inr (.inl ⟨HR1.out, HP.out, rfl⟩)⟩
      · have d1 : decide ((ps.length : Int) > 4096) = false := by simp; omega
        have d1' : decide (4096 < (ps.length : Int)) = false := by simp; omega
        have d1n : decide (4096 < ps.length) = false := by simp; omega
        by_cases h2 : 1024 < L.length
        · have d2 : decide ((L.length : Int) > 1024) = true := by simp; omega
          have d2' : decide (1024 < (L.length : Int)) = true := by simp; omega
          have d2n : decide (1024 < L.length) = true := by simp; omega
          have HP : Hid (4096 < ps.length ∨ 1024 < (fromL ps).length) := Lib.hid (.inr (by rw [HF1.out]; exact h2))
          clear h1 h2
          go_wp2
          go_ret2
          exact ⟨HB.out, .inr (.inl ⟨HR1.out, HP.out, rfl⟩)⟩
        · have d2 : decide ((L.length : Int) > 1024) = false := by simp; omega
          have d2' : decide (1024 < (L.length : Int)) = false := by simp; omega
          have d2n : decide (1024 < L.length) = false := by simp; omega
          have HP1 : Hid (ps.length ≤ 4096) := Lib.hid (by omega)
          have HP2 : Hid ((fromL ps).length ≤ 1024) := Lib.hid (by rw [HF1.out]; omega)
          clear h1 h2
          go_wp2
          go_ret2
          exact ⟨HB.out, .inr (.inr ⟨HR1.out, HP1.out, HP2.out, _, rfl, by rw [HF1.out]; exact HO.out⟩)⟩
end Go.Proofs.YtjfekjbmgckkcaaGreatDoor.SpanB
