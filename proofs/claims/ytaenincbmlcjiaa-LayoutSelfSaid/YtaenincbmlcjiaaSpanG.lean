/- span's walks: how many, the canonical list, equal, one place, the union. -/
import Derived.Test.YtaenincbmlcjiaaSpanF
namespace Go.Proofs.Ytaenincbmlcjiaa.SpanG
open Go.RowKit Go.Proofs.YtaenincbmlcjiaaW.PrintWords
open Go.Proofs.Ytaenincbmlcjiaa.Base Go.Proofs.Ytaenincbmlcjiaa.SpanPure Go.Proofs.Ytaenincbmlcjiaa.SpanPure2 Go.Proofs.Ytaenincbmlcjiaa.SpanBase Go.Proofs.Ytaenincbmlcjiaa.SpanA Go.Proofs.Ytaenincbmlcjiaa.SpanB Go.Proofs.Ytaenincbmlcjiaa.SpanC Go.Proofs.Ytaenincbmlcjiaa.SpanD Go.Proofs.Ytaenincbmlcjiaa.SpanE Go.Proofs.Ytaenincbmlcjiaa.SpanF

/-- a turn of what is the call's own. -/
theorem ch_to {S : Nat → Prop} {B : Nat} {w w1 w2 : World} (hb : Below B w w1) (hB : B ≤ w1.heap.size) (hS : ∀ k, S k → B ≤ k) (h : Ch S w1 w2) : Below B w w2 := hb.trans (h.below_of hB hS)
theorem chk_lt (l : List Sp) : chk l ≤ 20 := by rcases chk_cases l with ⟨h, _⟩ | ⟨h, _⟩ | ⟨h, _⟩ <;> omega
theorem ne_chk {l : List Sp} (h : chk l ≠ 0) : ((chk l : Int) != 0) = true := by simp; exact h
/-- what is known of a right list. -/
theorem right_of {l : List Sp} (h : chk l = 0) : rightF true 0 0 l = true := (chk_zero.1 h).2
theorem from_len {l : List Sp} (h : chk l = 0) : (fromL (places l)).length ≤ l.length ∧ l.length ≤ 1024 := by
  obtain ⟨f, hb⟩ := fromL_built (places_rising (right_of h))
  exact ⟨by rw [hb.len]; exact runs_le l, (chk_zero.1 h).1⟩

set_option maxHeartbeats 1600000 in
theorem count_calls (A : Option Addr) (c : Nat) (l : List Sp) (w : World) (hr : RdSp w A l) (hm : l.length ≤ 1000000000) :
    Calls Try.prog 43 #[.slice A l.length c] w fun e w' => e = .returned (.int .i64 (if chk l = 0 then (places l).length else 0 : Nat)) ∧ Below w.heap.size w w' := by
  have HR := Lib.hid hr
  have HC := Lib.hid (check_calls A c l w hr hm)
  clear hr
  by_cases h0 : chk l = 0
  · rw [if_pos h0]
    rw [h0] at HC
    have hR := right_of h0
    have HRR := Lib.hid hR
    have HCN := Lib.hid (places_cnt hR)
    have HPL := Lib.hid (places_len hR)
    clear h0 hR
    go_enter Try.func43, Try.ntmps43
    go_wp2_with (go_at_call 23; refine HC.out.mono ?_; rintro e w1 ⟨rfl, hb1⟩; have HB1 := Lib.hid hb1; clear hb1)
    go_loopw [3, 11] (fun s i wr => ∃ (k : Nat) (m : Int), k ≤ l.length ∧ i = .int .i64 k ∧ s = .int .i64 m ∧ Hid (m = cntF 0 (l.take k)) ∧ 0 ≤ m ∧ m ≤ 4096 ∧ Below w.heap.size w wr) (fun _ i _ => l.length - (intOf i).toNat)
    case atStart => exact ⟨0, 0, by omega, rfl, rfl, Lib.hid rfl, by omega, by omega, HB1.out⟩
    case round =>
      obtain ⟨k, m, hk, rfl, rfl, hm1, hm2, hm3, hb⟩ := hrel
      have HB := Lib.hid hb
      have hsz := hb.size
      by_cases hlt : k < l.length
      · obtain ⟨ad, hA, c0, c1⟩ := (HR.out.below hb).at_ k hlt
        subst hA
        obtain ⟨r1, r2, -, -, -, -⟩ := right_at HRR.out k hlt
        have hn := rightF_facts (l.take (k + 1)) true 0 0 (right_take HRR.out (k + 1)) (by decide) (by decide)
        have he : cntF 0 (l.take (k + 1)) = m + l[k].2 := by rw [List.take_succ_eq_append_getElem hlt, cntF_append, ← hm1.out]; rfl
        have hle : m + l[k].2 ≤ 4096 := by
          rw [← he]
          rcases hn.2.1 with h | h
          · exact h
          · exact absurd h (by intro h2; have := congrArg List.length h2; simp only [List.length_take, List.length_nil] at this; omega)
        have HE := Lib.hid he
        obtain ⟨s, hs⟩ : ∃ s, s = l[k] := ⟨_, rfl⟩
        rw [← hs] at c0 c1 r1 r2 hle HE
        obtain ⟨o, q⟩ := s
        simp only at c0 c1 r1 r2 hle HE
        clear hs hb hn he
        go_wp2
        go_roundw
        case rel => exact ⟨k + 1, m + q, by omega, by go_num, rfl, Lib.hid HE.out.symm, by omega, by omega, HB.out.alloc hsz _⟩
        case measure => simp [intOf]; omega
      · obtain rfl : k = l.length := by omega
        have hmm : m = ((places l).length : Int) := by rw [hm1.out, List.take_length]; exact HCN.out
        subst hmm
        clear hb
        go_wp2
        go_ret
        exact ⟨rfl, HB.out⟩
  · rw [if_neg h0]
    have e1 := ne_chk h0
    clear h0
    go_enter Try.func43, Try.ntmps43
    go_wp2_with (go_at_call 23; refine HC.out.mono ?_; rintro e w1 ⟨rfl, hb1⟩; have HB1 := Lib.hid hb1; clear hb1)
    go_ret
    exact ⟨rfl, HB1.out⟩

/-- what Canon hands back. -/
def CanonPost (l : List Sp) (w : World) (e : Ending) (w' : World) : Prop :=
  Below w.heap.size w w' ∧ ((chk l ≠ 0 ∧ e = .returned (.tuple #[.slice none 0 0, .int .i64 (chk l)])) ∨ (chk l = 0 ∧ ∃ v, e = .returned (.tuple #[v, .int .i64 0]) ∧ OwSp 43 w' w.heap.size v (fromL (places l))))
set_option maxHeartbeats 800000 in
theorem canon_calls (A : Option Addr) (c : Nat) (l : List Sp) (w : World) (hr : RdSp w A l) (hm : l.length ≤ 1000000000) (hc : l.length ≤ c) (hA : A = none → c = 0) :
    Calls Try.prog 22 #[.slice A l.length c] w (CanonPost l w) := by
  have HP := Lib.hid (places_calls A c l w hr hm hc hA)
  clear hr hA hc
  go_enter Try.func22, Try.ntmps22
  go_wp2_with (fail)
  refine HP.out.mono ?_
  rintro e w1 ⟨hb1, ⟨h0, rfl⟩ | ⟨h0, v, rfl, ho⟩⟩
  · have HB1 := Lib.hid hb1
    have e1 := ne_chk h0
    have H0 := Lib.hid h0
    clear hb1 h0 HP
    go_wp2
    go_ret2
    exact ⟨HB1.out, .inl ⟨H0.out, rfl⟩⟩
  · obtain ⟨A1, c1, rfl, hc1, hr1⟩ := ho.reads
    have hpl := places_len (right_of h0)
    have hfl := from_len h0
    have HF := Lib.hid (from_calls A1 c1 (places l) w1 hr1 (by omega))
    have HB1 := Lib.hid hb1
    have H0 := Lib.hid h0
    clear ho hr1 hb1 h0 HP
    go_wp2_with (fail)
    refine HF.out.mono ?_
    rintro e w2 ⟨hb2, ⟨h1, -⟩ | ⟨-, h1, -⟩ | ⟨-, -, -, v, rfl, ho2⟩⟩
    · exact absurd (places_rising (right_of H0.out)) (by rw [h1]; simp)
    · exact absurd h1 (by omega)
    · have HB2 := Lib.hid (below_then HB1.out HB1.out.size hb2)
      have HO2 := Lib.hid (ho2.lower HB1.out.size)
      obtain ⟨A2, c2, rfl, -, -, -⟩ := ho2.reads
      clear hb2 ho2 HF
      go_wp2
      go_ret2
      exact ⟨HB2.out, .inr ⟨H0.out, _, rfl, HO2.out⟩⟩

/-- places, or none. -/
def plc (l : List Sp) : List Int := if chk l = 0 then places l else []
set_option maxHeartbeats 800000 in
theorem has_calls (A : Option Addr) (c : Nat) (l : List Sp) (x : Int) (w : World) (hr : RdSp w A l) (hm : l.length ≤ 1000000000) (hc : l.length ≤ c) (hA : A = none → c = 0) :
    Calls Try.prog 44 #[.slice A l.length c, .int .i64 x] w fun e w' => e = .returned (.bool (decide (x ∈ plc l))) ∧ Below w.heap.size w w' := by
  have HP := Lib.hid (places_calls A c l w hr hm hc hA)
  clear hr hA hc
  go_enter Try.func44, Try.ntmps44
  go_wp2_with (fail)
  refine HP.out.mono ?_
  have : ∀ (e : Ending) (w1 : World), PlacesPost l w e w1 → ∃ (v : Value) (k : Int), e = .returned (.tuple #[v, .int .i64 k]) ∧ OwI 3 .i64 w1 w.heap.size v (plc l) ∧ Below w.heap.size w w1 := by
    rintro e w1 ⟨hb1, ⟨h0, rfl⟩ | ⟨h0, v, rfl, ho⟩⟩
    · exact ⟨_, _, rfl, by rw [plc, if_neg h0]; exact OwI.nil _ _ _ _, hb1⟩
    · exact ⟨_, _, rfl, by rw [plc, if_pos h0]; exact ho, hb1⟩
  have HT := Lib.hid this
  clear this
  intro e w1 hp
  obtain ⟨v, k, rfl, ho, hb⟩ := HT.out e w1 hp
  have hrise : Rise (plc l) ∧ (plc l).length ≤ 4096 := by
    unfold plc
    split
    · rename_i h; exact ⟨places_rise (right_of h), places_len (right_of h)⟩
    · exact ⟨List.Pairwise.nil, by simp⟩
  have HS := Lib.hid (search_calls v (plc l) x w.heap.size w1 ho hrise.1 (by omega))
  have HB := Lib.hid hb
  obtain ⟨A1, c1, rfl, -, -⟩ := ho.reads
  clear hp ho hb hrise HT HP
  go_wp2_with (fail)
  refine HS.out.mono ?_
  rintro e w2 ⟨⟨n, rfl⟩, ⟨q, rfl⟩⟩
  go_wp2
  go_ret
  exact ⟨rfl, pw_below_drewN HB.out q⟩

set_option maxHeartbeats 1600000 in
theorem equal_calls (A1 A2 : Option Addr) (c1 c2 : Nat) (l m : List Sp) (w : World) (h1 : RdSp w A1 l) (h2 : RdSp w A2 m) (hm1 : l.length ≤ 1000000000) (hm2 : m.length ≤ 1000000000) (hc1 : l.length ≤ c1) (hc2 : m.length ≤ c2) (hA1 : A1 = none → c1 = 0) (hA2 : A2 = none → c2 = 0) :
    Calls Try.prog 24 #[.slice A1 l.length c1, .slice A2 m.length c2] w fun e w' => e = .returned (.bool (decide (chk l = 0 ∧ chk m = 0 ∧ places l = places m))) ∧ Below w.heap.size w w' := by
  have HP1 := Lib.hid (places_calls A1 c1 l w h1 hm1 hc1 hA1)
  have HP2 := Lib.hid (fun W (h : Below w.heap.size w W) => places_calls A2 c2 m W (h2.below h) hm2 hc2 hA2)
  clear h1 h2 hc1 hc2 hA1 hA2
  go_enter Try.func24, Try.ntmps24
  go_wp2_with (fail)
  refine HP1.out.mono ?_
  rintro e w1 ⟨hb1, ⟨h0, rfl⟩ | ⟨h0, v, rfl, ho⟩⟩
  · have HB1 := Lib.hid hb1
    have e1 : ((chk l : Int) == 0) = false := by simp; exact h0
    have HF : Hid (decide (chk l = 0 ∧ chk m = 0 ∧ places l = places m) = false) := Lib.hid (by simp [h0])
    clear hb1 h0 HP1
    go_wp2_with (fail)
    refine (HP2.out _ HB1.out).mono ?_
    rintro e w2 ⟨hb2, hcase⟩
    have HB2 := Lib.hid (below_then HB1.out HB1.out.size hb2)
    have : ∃ (v2 : Value) (k : Int), e = .returned (.tuple #[v2, .int .i64 k]) := by
      rcases hcase with ⟨-, rfl⟩ | ⟨-, v2, rfl, -⟩
      · exact ⟨_, _, rfl⟩
      · exact ⟨_, _, rfl⟩
    obtain ⟨v2, k, rfl⟩ := this
    clear hcase hb2
    go_wp2
    go_ret
    exact ⟨by rw [HF.out]; rfl, HB2.out⟩
  · have HB1 := Lib.hid hb1
    have H0 := Lib.hid h0
    obtain ⟨A3, c3, rfl, -, -⟩ := ho.reads
    have HO := Lib.hid ho
    have hpl := places_len (right_of h0)
    clear hb1 h0 HP1 ho
    go_wp2_with (fail)
    refine (HP2.out _ HB1.out).mono ?_
    rintro e w2 ⟨hb2, ⟨g0, rfl⟩ | ⟨g0, v2, rfl, ho2⟩⟩
    · have HB2 := Lib.hid (below_then HB1.out HB1.out.size hb2)
      have e1 : ((chk m : Int) == 0) = false := by simp; exact g0
      have HF : Hid (decide (chk l = 0 ∧ chk m = 0 ∧ places l = places m) = false) := Lib.hid (by simp [g0])
      clear hb2 g0
      go_wp2
      go_ret
      exact ⟨by rw [HF.out]; rfl, HB2.out⟩
    · have HB2 := Lib.hid (below_then HB1.out HB1.out.size hb2)
      have HE := Lib.hid (SpanE.equal_calls _ _ (places l) (places m) _ _ w2 (HO.out.below hb2) ho2 (by omega) (by have := places_len (right_of g0); omega))
      have HF : Hid (decide (chk l = 0 ∧ chk m = 0 ∧ places l = places m) = decide (places l = places m)) := Lib.hid (by simp [H0.out, g0])
      obtain ⟨A4, c4, rfl, -, -⟩ := ho2.reads
      clear hb2 g0 ho2
      go_wp2_with (go_at_call 49; refine HE.out.mono ?_; rintro e w3 ⟨rfl, q, rfl⟩)
      go_ret
      exact ⟨by rw [HF.out]; rfl, pw_below_drewN HB2.out q⟩

/-- what Union hands back. -/
def UnionPost (a b : List Sp) (w : World) (e : Ending) (w' : World) : Prop :=
  Below w.heap.size w w' ∧ ((chk a ≠ 0 ∧ e = .returned (.tuple #[.slice none 0 0, .int .i64 (chk a)])) ∨
    (chk a = 0 ∧ chk b ≠ 0 ∧ e = .returned (.tuple #[.slice none 0 0, .int .i64 (chk b)])) ∨
    (chk a = 0 ∧ chk b = 0 ∧ (4096 < (uni (places a) (places b)).length ∨ 1024 < (fromL (uni (places a) (places b))).length) ∧ e = .returned (.tuple #[.slice none 0 0, .int .i64 12])) ∨
    (chk a = 0 ∧ chk b = 0 ∧ (uni (places a) (places b)).length ≤ 4096 ∧ (fromL (uni (places a) (places b))).length ≤ 1024 ∧ ∃ v, e = .returned (.tuple #[v, .int .i64 0]) ∧ OwSp 43 w' w.heap.size v (fromL (uni (places a) (places b)))))
set_option maxHeartbeats 3200000 in
theorem union_calls (A1 A2 : Option Addr) (c1 c2 : Nat) (l m : List Sp) (w : World) (h1 : RdSp w A1 l) (h2 : RdSp w A2 m) (hm1 : l.length ≤ 1000000000) (hm2 : m.length ≤ 1000000000) (hc1 : l.length ≤ c1) (hc2 : m.length ≤ c2) (hA1 : A1 = none → c1 = 0) (hA2 : A2 = none → c2 = 0) :
    Calls Try.prog 25 #[.slice A1 l.length c1, .slice A2 m.length c2] w (UnionPost l m w) := by
  have HP1 := Lib.hid (places_calls A1 c1 l w h1 hm1 hc1 hA1)
  have HP2 := Lib.hid (fun W (h : Below w.heap.size w W) => places_calls A2 c2 m W (h2.below h) hm2 hc2 hA2)
  clear h1 h2 hc1 hc2 hA1 hA2
  go_enter Try.func25, Try.ntmps25
  go_wp2_with (fail)
  refine HP1.out.mono ?_
  rintro e w1 ⟨hb1, ⟨h0, rfl⟩ | ⟨h0, v, rfl, ho⟩⟩
  · have HB1 := Lib.hid hb1
    have e1 := ne_chk h0
    have H0 := Lib.hid h0
    clear hb1 h0 HP1
    go_wp2
    go_ret2
    exact ⟨HB1.out, .inl ⟨H0.out, rfl⟩⟩
  · have HB1 := Lib.hid hb1
    have H0 := Lib.hid h0
    obtain ⟨A3, c3, rfl, -, hr3⟩ := ho.reads
    have HR3 := Lib.hid hr3
    have hpl := places_len (right_of h0)
    clear hb1 h0 HP1 ho hr3
    go_wp2_with (fail)
    refine (HP2.out _ HB1.out).mono ?_
    rintro e w2 ⟨hb2, ⟨g0, rfl⟩ | ⟨g0, v2, rfl, ho2⟩⟩
    · have HB2 := Lib.hid (below_then HB1.out HB1.out.size hb2)
      have e1 := ne_chk g0
      have G0 := Lib.hid g0
      clear hb2 g0
      go_wp2
      go_ret2
      exact ⟨HB2.out, .inr (.inl ⟨H0.out, G0.out, rfl⟩)⟩
    · have HB2 := Lib.hid (below_then HB1.out HB1.out.size hb2)
      have G0 := Lib.hid g0
      have hpl2 := places_len (right_of g0)
      obtain ⟨A4, c4, rfl, -, hr4⟩ := ho2.reads
      have HR3 := Lib.hid (HR3.out.below hb2)
      have HR4 := Lib.hid hr4
      have HCC := Lib.hid (fun W (hb : Below w2.heap.size w2 W) (h : Nat) (k1 : W.cell? ⟨h, 0, none⟩ = some (.slice A3 (places l).length c3)) (k2 : W.cell? ⟨h, 1, none⟩ = some (.slice A4 (places m).length c4)) =>
        concat_calls h c3 c4 A3 A4 (places l) (places m) W k1 k2 (HR3.out.below hb) (HR4.out.below hb) (by omega) (by omega))
      obtain ⟨Z, hZ⟩ : ∃ Z, Z = places l ++ places m := ⟨_, rfl⟩
      rw [← hZ] at HCC
      have hZl : Z.length ≤ 8192 := by rw [hZ, List.length_append]; omega
      have HZ := Lib.hid hZ
      clear hb2 g0 ho2 hr4 hZ
      go_wp2_with (fail)
      refine (HCC.out _ (below_alloc (Below.refl _ _) _) _ (by simp) (by simp)).mono ?_
      rintro e w3 ⟨v3, rfl, ho3, hb3⟩
      have HB3 := Lib.hid (below_then (below_alloc HB2.out _) (by simp; have := HB2.out.size; omega) hb3)
      have HS := Lib.hid (sort_calls v3 _ _ w3 ho3 (by omega))
      have HGE := Lib.hid (fun g (h : v3.ownBlock = some g) => (by have := ho3.base_ g h; have := HB2.out.size; simp at *; omega : w.heap.size ≤ g))
      have hsz3 : w.heap.size ≤ w3.heap.size := HB3.out.size
      obtain ⟨A5, c5, rfl, -, -⟩ := ho3.reads
      clear ho3 hb3 HCC
      go_wp2_with (fail)
      refine HS.out.mono ?_
      rintro e w4 ⟨rfl, ho4, hch4⟩
      have HB4 := Lib.hid (ch_to HB3.out hsz3 HGE.out hch4)
      have HK := Lib.hid (compact_calls _ _ _ w4 ho4 (by rw [List.length_mergeSort]; omega))
      clear ho4 hch4 HS
      go_wp2_with (fail)
      refine HK.out.mono ?_
      rintro e w5 ⟨v5, rfl, hvb, ho5, hch5⟩
      have HB5 := Lib.hid (ch_to HB4.out HB4.out.size HGE.out hch5)
      obtain ⟨U, hU⟩ : ∃ U, U = uni (places l) (places m) := ⟨_, rfl⟩
      rw [HZ.out, show Lib.compact ((places l ++ places m).mergeSort fun x y => decide (x ≤ y)) = U from hU.symm] at ho5
      have hul : U.length ≤ 8192 := by have := uni_len (places l) (places m); rw [← hU] at this; omega
      have HRU : Hid (rising U = true) := Lib.hid (by rw [hU]; exact uni_rising (places_in (right_of H0.out)) (places_in (right_of G0.out)))
      obtain ⟨A6, c6, rfl, -, hr6⟩ := ho5.reads
      have HF := Lib.hid (from_calls A6 c6 U w5 hr6 (by omega))
      have HU := Lib.hid hU
      clear hvb ho5 hch5 hr6 HK hU
      go_wp2_with (fail)
      refine HF.out.mono ?_
      rintro e w6 ⟨hb6, ⟨k1, -⟩ | ⟨-, k1, rfl⟩ | ⟨-, k1, k2, v, rfl, ho6⟩⟩
      · exact absurd HRU.out (by rw [k1]; simp)
      · have HB6 := Lib.hid (below_then HB5.out HB5.out.size hb6)
        have K1 := Lib.hid k1
        clear hb6 k1 HF
        go_wp2
        go_ret2
        exact ⟨HB6.out, .inr (.inr (.inl ⟨H0.out, G0.out, by rw [← HU.out]; exact K1.out, rfl⟩))⟩
      · have HB6 := Lib.hid (below_then HB5.out HB5.out.size hb6)
        have K1 := Lib.hid k1
        have K2 := Lib.hid k2
        have HO6 := Lib.hid (ho6.lower HB5.out.size)
        obtain ⟨A7, c7, rfl, -, -, -⟩ := ho6.reads
        clear hb6 k1 k2 ho6 HF
        go_wp2
        go_ret2
        exact ⟨HB6.out, .inr (.inr (.inr ⟨H0.out, G0.out, by rw [← HU.out]; exact K1.out, by rw [← HU.out]; exact K2.out, _, rfl, by rw [← HU.out]; exact HO6.out⟩))⟩
end Go.Proofs.Ytaenincbmlcjiaa.SpanG
