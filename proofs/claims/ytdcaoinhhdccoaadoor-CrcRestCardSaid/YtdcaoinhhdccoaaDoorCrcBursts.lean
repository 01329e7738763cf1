/- CrcTurns, CrcBursts, CrcSpoils, CrcRest: the walks. -/
import Derived.Test.YtdcaoinhhdccoaaDoorCrcTurns
namespace Go.Proofs.YtdcaoinhhdccoaaDoor.CrcBursts
open Go.RowKit Go.Proofs.YtdcaoinhhdccoaaDoorW.PrintWords
open Go.Proofs.YtdcaoinhhdccoaaDoor.Bits Go.Proofs.YtdcaoinhhdccoaaDoor.Base Go.Proofs.YtdcaoinhhdccoaaDoor.LawBase Go.Proofs.YtdcaoinhhdccoaaDoor.CrcPure Go.Proofs.YtdcaoinhhdccoaaDoor.CrcStep Go.Proofs.YtdcaoinhhdccoaaDoor.CrcGo Go.Proofs.YtdcaoinhhdccoaaDoor.CrcTurn Go.Proofs.YtdcaoinhhdccoaaDoor.CrcBurst Go.Proofs.YtdcaoinhhdccoaaDoor.CrcAwake Go.Proofs.YtdcaoinhhdccoaaDoor.CrcTurns

abbrev TabL := [("math/bits.deBruijn32tab", (Rows.laid_math_bits_deBruijn32tab : DataW Unit))]
theorem turns_walk (a0 : Option Addr) (len0 cap0 : Nat) (z0 : List Int) (a1 : Int) (a2 : Int) (w : World) (w0 : IsRow .u8 w a0 len0 cap0 z0) (w1 : (Lit.int .i64 a1).wf = true) (w2 : (Lit.int .u32 a2).wf = true) (hL : laidMetH Tryd.prog TabL w) :
    Calls Tryd.prog 5 #[.slice a0 len0 cap0, .int .i64 a1, .int .u32 a2] w fun e w' => e = .returned (.bool true) ∧ Below w.heap.size w w' := by
  obtain ⟨a, rfl, ha, _, _⟩ := w0.bytes
  obtain ⟨t, rfl⟩ := u_of w2
  exact turns0 a0 cap0 a a1 t w ha (i64_of w1) (CrcLaidTab.tab_of hL)

theorem awake_any (w : World) (hT : Tab w) : ∀ W, Below w.heap.size w W → Calls Tryd.prog 10 #[] W fun e w' => e = .returned (.bool true) ∧ Below w.heap.size w w' := fun W hb => by
  refine (awake_calls W (hT.below hb)).mono ?_
  rintro e w' ⟨rfl, h⟩
  exact ⟨rfl, below_then hb hb.size h⟩
/-- a burst that is refused is refused by the reference. -/
theorem ref_no (s : ByteArray) (p : Int) (t : BitVec 32) (W : World) (hs : s.size ≤ 1000000) (hp : p ≤ 9223372036854775807) (hf : 0 ≤ p → ¬ CrcRefB.fits p.toNat (8 * s.size) t) :
    Calls Tryd.prog 19 #[.string s, .int .i64 p, .int .u32 (u t)] W fun e w' => e = .returned (.tuple #[.string ⟨#[]⟩, .int .i64 0]) ∧ Below W.heap.size W w' := by
  by_cases hneg : p < 0
  · refine (CrcRefB.burst_neg s p t W hs hneg).mono ?_
    rintro e w' ⟨rfl, rfl⟩
    exact ⟨rfl, Below.refl _ _⟩
  · obtain ⟨n, rfl⟩ := Int.eq_ofNat_of_zero_le (show 0 ≤ p by omega)
    refine (CrcRefB.burst_calls s n t W hs (by omega)).mono ?_
    rintro e w' ⟨_, h2, h3⟩
    exact ⟨h2 (hf (by omega)), h3⟩
/-- so is it by the program. -/
theorem prog_no (A : Option Addr) (c n : Nat) (p : Int) (t : BitVec 32) (w : World) (hn : n ≤ 1000000) (hT : Tab w) (hp : p ≤ 9223372036854775807) (hf : 0 ≤ p → ¬ CrcRefB.fits p.toNat (8 * n) t) :
    Calls Tryd.prog 18 #[.slice A n c, .int .i64 p, .int .u32 (u t)] w fun e w' => e = .returned (.tuple #[.slice none 0 0, .int .i64 11]) ∧ w = w' := by
  by_cases hneg : p < 0
  · exact burst_neg A c n p t w hn hT hneg
  · obtain ⟨k, rfl⟩ := Int.eq_ofNat_of_zero_le (show 0 ≤ p by omega)
    have hf' := hf (by omega)
    have h0 : t ≠ 0#32 := by rintro rfl; exact hf' (fun k _ h => by simp at h)
    refine burst_far A c n k t w hn hT (by omega) h0 ?_
    rcases Nat.lt_or_ge (8 * n) (k + lastOf t) with h | h
    · exact h
    · exact absurd ((fits_iff k (8 * n) t).2 fun _ => h) hf'
/-- one that fits is done. -/
theorem prog_yes (A : Option Addr) (c : Nat) (l : List UInt8) (p : Int) (t : BitVec 32) (w : World) (hr : RdB w A l) (hm : l.length ≤ 1000000) (hT : Tab w) (hp : p ≤ 9223372036854775807) (h0 : 0 ≤ p) (hf : CrcRefB.fits p.toNat (8 * l.length) t) :
    Calls Tryd.prog 18 #[.slice A l.length c, .int .i64 p, .int .u32 (u t)] w fun e w' => ∃ v, e = .returned (.tuple #[v, .int .i64 0]) ∧ OwB 5 w' w.heap.size v (burst l p.toNat t) ∧ Below w.heap.size w w' := by
  obtain ⟨k, rfl⟩ := Int.eq_ofNat_of_zero_le h0
  exact burst_ok A c l k t w hr hm hT ((fits_iff k (8 * l.length) t).1 hf) (by omega)
theorem u_ne (a b : BitVec 32) (h : a ≠ b) : (u a != u b) = true := by
  rw [bne_iff_ne]
  intro he
  apply h
  apply BitVec.eq_of_toNat_eq
  unfold u at he
  omega

set_option maxHeartbeats 1600000 in
theorem bursts0 (A : Option Addr) (c : Nat) (l : List UInt8) (p : Int) (t : BitVec 32) (w : World) (ha : RdB w A l) (hp : p ≤ 9223372036854775807) (hT : Tab w) :
    Calls Tryd.prog 6 #[.slice A l.length c, .int .i64 p, .int .u32 (u t)] w fun e w' => e = .returned (.bool true) ∧ Below w.heap.size w w' := by
  have hm := ha.max
  rw [ints_length] at hm
  have HAW := Lib.hid (awake_any w hT)
  by_cases hbig : l.length > 100
  · have h1 : decide ((l.length : Int) > 100) = true := by simp; omega
    have h1' : decide (100 < (l.length : Int)) = true := by simp; omega
    clear ha hT
    go_enter Tryd.func6, Tryd.ntmps6
    go_wp2_with (go_at_call 10; refine (HAW.out _ (Below.refl _ _)).mono ?_; rintro e w' ⟨rfl, hbx⟩)
    go_ret
    exact ⟨rfl, hbx⟩
  · have h1 : decide ((l.length : Int) > 100) = false := by simp; omega
    have h1' : decide (100 < (l.length : Int)) = false := by simp; omega
    have hl : l.length ≤ 100 := by omega
    have HA := Lib.hid ha
    have hcv0 := RdB.string (P := Tryd.prog) (c := c) ha rfl Tryd.underlying22 Tryd.underlying5 Tryd.underlying9
    have hT' := Lib.hid hT
    clear ha hT
    by_cases h0 : t = 0#32
    · have hz : (u t == 0) = true := by rw [u_eq0]; exact decide_eq_true h0
      have h00 := Lib.hid h0
      clear h0
      go_enter Tryd.func6, Tryd.ntmps6
      go_wp2_with (go_at_call 10; refine (HAW.out _ (Below.refl _ _)).mono ?_; rintro e w' ⟨rfl, hbx⟩)
      go_ret
      exact ⟨rfl, hbx⟩
    · have hz : (u t == 0) = false := by rw [u_eq0]; exact decide_eq_false h0
      by_cases hf : 0 ≤ p ∧ CrcRefB.fits p.toNat (8 * l.length) t
      · obtain ⟨hp0, hf⟩ := hf
        have HBU := Lib.hid (prog_yes A c l p t w HA.out (by omega) hT'.out hp hp0 hf)
        have HN := Lib.hid (u_ne _ _ (CrcLaws.sum_burst l p.toNat t h0 hf))
        have hbl := burst_length l p.toNat t
        obtain ⟨q, hq⟩ : ∃ q, q = burst l p.toNat t := ⟨_, rfl⟩
        rw [← hq] at HBU HN hbl
        have HBL := Lib.hid hbl
        clear hf hq hbl hcv0
        go_enter Tryd.func6, Tryd.ntmps6
        go_wp2_with fail
        refine HBU.out.mono ?_
        rintro e w1 ⟨v1, rfl, ho1, hb1⟩
        obtain ⟨A1, c1, rfl, _, hr1⟩ := ho1.reads
        have HB1 := Lib.hid hb1
        have S1 := Lib.hid (sum_calls A1 c1 q w1 hr1 (by rw [HBL.out]; omega))
        have S2 := Lib.hid (sum_calls A c l w1 (HA.out.below hb1) (by omega))
        have hne := HN.out
        obtain ⟨x, hx⟩ : ∃ x, x = u (sum q) := ⟨_, rfl⟩
        obtain ⟨y, hy⟩ : ∃ y, y = u (sum l) := ⟨_, rfl⟩
        rw [← hx] at S1 hne
        rw [← hy] at S2 hne
        clear ho1 hb1 hr1 HN hx hy
        go_wp2_with fail
        refine S1.out.mono ?_
        rintro e w' ⟨rfl, rfl⟩
        go_wp2_with fail
        refine S2.out.mono ?_
        rintro e w' ⟨rfl, rfl⟩
        go_wp2_with (go_at_call 10; refine (HAW.out _ HB1.out).mono ?_; rintro e w' ⟨rfl, hbx⟩)
        go_ret
        exact ⟨rfl, hbx⟩
      · have hnf : 0 ≤ p → ¬ CrcRefB.fits p.toNat (8 * l.length) t := fun h h' => hf ⟨h, h'⟩
        have HBU := Lib.hid (prog_no A c l.length p t w (by omega) hT'.out hp hnf)
        have HRF := Lib.hid (ref_no (str l) p t w (by rw [str_size]; omega) hp (by rw [str_size]; exact hnf))
        clear hf hnf h0
        go_enter Tryd.func6, Tryd.ntmps6
        go_wp2_with (first
          | (go_at_call 18; refine HBU.out.mono ?_; rintro e w' ⟨rfl, rfl⟩)
          | (go_at_call 19; refine HRF.out.mono ?_; rintro e w2 ⟨rfl, hb2⟩)
          | (go_at_call 10; refine (HAW.out _ hb2).mono ?_; rintro e w' ⟨rfl, hbx⟩))
        go_ret
        exact ⟨rfl, hbx⟩
theorem bursts_walk (a0 : Option Addr) (len0 cap0 : Nat) (z0 : List Int) (a1 : Int) (a2 : Int) (w : World) (w0 : IsRow .u8 w a0 len0 cap0 z0) (w1 : (Lit.int .i64 a1).wf = true) (w2 : (Lit.int .u32 a2).wf = true) (hL : laidMetH Tryd.prog TabL w) :
    Calls Tryd.prog 6 #[.slice a0 len0 cap0, .int .i64 a1, .int .u32 a2] w fun e w' => e = .returned (.bool true) ∧ Below w.heap.size w w' := by
  obtain ⟨a, rfl, ha, _, _⟩ := w0.bytes
  obtain ⟨t, rfl⟩ := u_of w2
  exact bursts0 a0 cap0 a a1 t w ha (i64_of w1).2 (CrcLaidTab.tab_of hL)

set_option maxHeartbeats 1600000 in
theorem spoils0 (A : Option Addr) (c : Nat) (l : List UInt8) (p : Int) (t : BitVec 32) (w : World) (ha : RdB w A l) (hp : p ≤ 9223372036854775807) (hT : Tab w) :
    Calls Tryd.prog 7 #[.slice A l.length c, .int .i64 p, .int .u32 (u t)] w fun e w' => e = .returned (.bool true) ∧ Below w.heap.size w w' := by
  have hm := ha.max
  rw [ints_length] at hm
  have HAW := Lib.hid (awake_any w hT)
  by_cases hbig : l.length > 100
  · have h1 : decide ((l.length : Int) > 100) = true := by simp; omega
    have h1' : decide (100 < (l.length : Int)) = true := by simp; omega
    clear ha hT
    go_enter Tryd.func7, Tryd.ntmps7
    go_wp2_with (go_at_call 10; refine (HAW.out _ (Below.refl _ _)).mono ?_; rintro e w' ⟨rfl, hbx⟩)
    go_ret
    exact ⟨rfl, hbx⟩
  · have h1 : decide ((l.length : Int) > 100) = false := by simp; omega
    have h1' : decide (100 < (l.length : Int)) = false := by simp; omega
    have hl : l.length ≤ 100 := by omega
    have HA := Lib.hid ha
    have hT' := Lib.hid hT
    clear ha hT
    by_cases h0 : t = 0#32
    · have hz : (u t == 0) = true := by rw [u_eq0]; exact decide_eq_true h0
      clear h0
      go_enter Tryd.func7, Tryd.ntmps7
      go_wp2_with (go_at_call 10; refine (HAW.out _ (Below.refl _ _)).mono ?_; rintro e w' ⟨rfl, hbx⟩)
      go_ret
      exact ⟨rfl, hbx⟩
    · have hz : (u t == 0) = false := by rw [u_eq0]; exact decide_eq_false h0
      have HSE := Lib.hid (CrcConcat.seal_calls A c l w HA.out (by omega))
      have hsl : (CrcLaws.sealed l).length = l.length + 4 := by simp [CrcLaws.sealed, CrcLaws.four]
      have hq : CrcConcat.sealed l = CrcLaws.sealed l := rfl
      rw [hq] at HSE
      clear hq
      by_cases hf : 0 ≤ p ∧ CrcRefB.fits p.toNat (8 * (CrcLaws.sealed l).length) t
      · obtain ⟨hp0, hf⟩ := hf
        have hsp := CrcLaws.spoiled l p.toNat t h0 hf
        have hbl := burst_length (CrcLaws.sealed l) p.toNat t
        rw [hsl] at hbl
        have HBU : Hid (∀ A1 c1 W, RdB W A1 (CrcLaws.sealed l) → Tab W → Calls Tryd.prog 18 #[.slice A1 (CrcLaws.sealed l).length c1, .int .i64 p, .int .u32 (u t)] W fun e w' => ∃ v, e = .returned (.tuple #[v, .int .i64 0]) ∧ OwB 5 w' W.heap.size v (burst (CrcLaws.sealed l) p.toNat t) ∧ Below W.heap.size W w') := fun A1 c1 W hr hT =>
          prog_yes A1 c1 (CrcLaws.sealed l) p t W hr (by omega) hT hp hp0 hf
        have HOP : Hid (∀ A1 c1 W, RdB W A1 (burst (CrcLaws.sealed l) p.toNat t) → (burst (CrcLaws.sealed l) p.toNat t).length ≤ c1 → Calls Tryd.prog 17 #[.slice A1 (burst (CrcLaws.sealed l) p.toNat t).length c1] W fun e w' => ∃ v, e = .returned (.tuple #[v, .bool false]) ∧ (∃ X, OwB 5 w' W.heap.size v X) ∧ Below W.heap.size W w') := fun A1 c1 W hr hc1 => by
          refine (open_calls A1 c1 _ W hr (by omega) hc1).mono ?_
          rintro e w' ⟨v, rfl, ho, hb⟩
          refine ⟨v, ?_, ⟨_, ho⟩, hb⟩
          have e1 : (burst (CrcLaws.sealed l) p.toNat t).length - 4 = l.length := by omega
          have e2 : decide (CrcOpen.four (sum ((burst (CrcLaws.sealed l) p.toNat t).take l.length)) = (burst (CrcLaws.sealed l) p.toNat t).drop l.length) = false := decide_eq_false hsp
          rw [e1, e2, Bool.and_false]
        obtain ⟨X, hX⟩ : ∃ X, X = CrcLaws.sealed l := ⟨_, rfl⟩
        rw [← hX] at HSE HBU HOP
        obtain ⟨q, hq⟩ : ∃ q, q = burst X p.toNat t := ⟨_, rfl⟩
        rw [← hq] at HBU HOP
        clear hf hsp hbl hsl hX hq
        go_enter Tryd.func7, Tryd.ntmps7
        go_wp2_with fail
        refine HSE.out.mono ?_
        rintro e w1 ⟨v1, rfl, ho1, hb1⟩
        obtain ⟨A1, c1, rfl, _, hr1⟩ := ho1.reads
        have HB1 := Lib.hid hb1
        have HC1 := Lib.hid (HBU.out A1 c1 w1 hr1 (hT'.out.below hb1))
        clear ho1 hb1 hr1
        go_wp2_with fail
        refine HC1.out.mono ?_
        rintro e w2 ⟨v2, rfl, ho2, hb2⟩
        obtain ⟨A2, c2, rfl, hc2, hr2⟩ := ho2.reads
        have HB2 := Lib.hid (below_then HB1.out HB1.out.size hb2)
        have HC2 := Lib.hid (HOP.out A2 c2 w2 hr2 hc2)
        clear ho2 hb2 hr2 HC1 HB1 hc2
        go_wp2_with fail
        refine HC2.out.mono ?_
        rintro e w3 ⟨v3, rfl, _, hb3⟩
        have HB3 := Lib.hid (below_then HB2.out HB2.out.size hb3)
        clear hb3
        go_wp2_with (go_at_call 10; refine (HAW.out _ HB3.out).mono ?_; rintro e w' ⟨rfl, hbx⟩)
        go_ret
        exact ⟨rfl, hbx⟩
      · have hnf : 0 ≤ p → ¬ CrcRefB.fits p.toNat (8 * (CrcLaws.sealed l).length) t := fun h h' => hf ⟨h, h'⟩
        have HBU : Hid (∀ A1 c1 W, Tab W → Calls Tryd.prog 18 #[.slice A1 (CrcLaws.sealed l).length c1, .int .i64 p, .int .u32 (u t)] W fun e w' => e = .returned (.tuple #[.slice none 0 0, .int .i64 11]) ∧ W = w') := fun A1 c1 W hT =>
          prog_no A1 c1 (CrcLaws.sealed l).length p t W (by omega) hT hp hnf
        have HRF : Hid (∀ W, Calls Tryd.prog 19 #[.string (str (CrcLaws.sealed l)), .int .i64 p, .int .u32 (u t)] W fun e w' => e = .returned (.tuple #[.string ⟨#[]⟩, .int .i64 0]) ∧ Below W.heap.size W w') := fun W =>
          ref_no (str (CrcLaws.sealed l)) p t W (by rw [str_size]; omega) hp (by rw [str_size]; exact hnf)
        obtain ⟨X, hX⟩ : ∃ X, X = CrcLaws.sealed l := ⟨_, rfl⟩
        rw [← hX] at HSE HBU HRF
        clear hf hnf h0 hsl hX
        go_enter Tryd.func7, Tryd.ntmps7
        go_wp2_with fail
        refine HSE.out.mono ?_
        rintro e w1 ⟨v1, rfl, ho1, hb1⟩
        obtain ⟨A1, c1, rfl, _, hr1⟩ := ho1.reads
        have HB1 := Lib.hid hb1
        have HC1 := Lib.hid (HBU.out A1 c1 w1 (hT'.out.below hb1))
        have hcv1 := RdB.string (P := Tryd.prog) (c := c1) hr1 rfl Tryd.underlying22 Tryd.underlying5 Tryd.underlying9
        clear ho1 hb1 hr1
        go_wp2_with fail
        refine HC1.out.mono ?_
        rintro e w' ⟨rfl, rfl⟩
        go_wp2_with (first
          | (go_at_call 19; refine (HRF.out _).mono ?_; rintro e w2 ⟨rfl, hb2⟩; have HB2 := Lib.hid (below_then HB1.out HB1.out.size hb2); clear hb2)
          | (go_at_call 10; refine (HAW.out _ HB2.out).mono ?_; rintro e w' ⟨rfl, hbx⟩))
        go_ret
        exact ⟨rfl, hbx⟩
theorem spoils_walk (a0 : Option Addr) (len0 cap0 : Nat) (z0 : List Int) (a1 : Int) (a2 : Int) (w : World) (w0 : IsRow .u8 w a0 len0 cap0 z0) (w1 : (Lit.int .i64 a1).wf = true) (w2 : (Lit.int .u32 a2).wf = true) (hL : laidMetH Tryd.prog TabL w) :
    Calls Tryd.prog 7 #[.slice a0 len0 cap0, .int .i64 a1, .int .u32 a2] w fun e w' => e = .returned (.bool true) ∧ Below w.heap.size w w' := by
  obtain ⟨a, rfl, ha, _, _⟩ := w0.bytes
  obtain ⟨t, rfl⟩ := u_of w2
  exact spoils0 a0 cap0 a a1 t w ha (i64_of w1).2 (CrcLaidTab.tab_of hL)

set_option maxHeartbeats 1600000 in
theorem rest0 (A : Option Addr) (c : Nat) (l : List UInt8) (w : World) (ha : RdB w A l) (hT : Tab w) :
    Calls Tryd.prog 9 #[.slice A l.length c] w fun e w' => e = .returned (.bool true) ∧ Below w.heap.size w w' := by
  have hm := ha.max
  rw [ints_length] at hm
  have HAW := Lib.hid (awake_any w hT)
  by_cases hbig : l.length > 300
  · have h1 : decide ((l.length : Int) > 300) = true := by simp; omega
    have h1' : decide (300 < (l.length : Int)) = true := by simp; omega
    clear ha hT
    go_enter Tryd.func9, Tryd.ntmps9
    go_wp2_with (go_at_call 10; refine (HAW.out _ (Below.refl _ _)).mono ?_; rintro e w' ⟨rfl, hbx⟩)
    go_ret
    exact ⟨rfl, hbx⟩
  · have h1 : decide ((l.length : Int) > 300) = false := by simp; omega
    have h1' : decide (300 < (l.length : Int)) = false := by simp; omega
    have HSE := Lib.hid (CrcConcat.seal_calls A c l w ha (by omega))
    have hsl : (CrcLaws.sealed l).length = l.length + 4 := by simp [CrcLaws.sealed, CrcLaws.four]
    have hq : CrcConcat.sealed l = CrcLaws.sealed l := rfl
    rw [hq] at HSE
    have HSS := Lib.hid (CrcLaws.sum_sealed l)
    obtain ⟨X, hX⟩ : ∃ X, X = CrcLaws.sealed l := ⟨_, rfl⟩
    rw [← hX] at HSE HSS hsl
    have HXL := Lib.hid hsl
    clear hq ha hT hX hsl
    go_enter Tryd.func9, Tryd.ntmps9
    go_wp2_with fail
    refine HSE.out.mono ?_
    rintro e w1 ⟨v1, rfl, ho1, hb1⟩
    obtain ⟨A1, c1, rfl, _, hr1⟩ := ho1.reads
    have HB1 := Lib.hid hb1
    have S1 := Lib.hid (sum_calls A1 c1 X w1 hr1 (by rw [HXL.out]; omega))
    rw [HSS.out] at S1
    clear ho1 hb1 hr1
    go_wp2_with fail
    refine S1.out.mono ?_
    rintro e w' ⟨rfl, rfl⟩
    go_wp2_with fail
    have r : RdB (w1.alloc (.cells #[.int .u8 0, .int .u8 0, .int .u8 0, .int .u8 0] 5)) (some ⟨w1.heap.size, 0, none⟩) [0, 0, 0, 0] := RdI.lit .u8 w1 5 (0, 0) (ints [0, 0, 0, 0]) (by decide)
    have HB2 := Lib.hid (below_alloc HB1.out (.cells #[.int .u8 0, .int .u8 0, .int .u8 0, .int .u8 0] 5))
    have S2 := Lib.hid (sum_calls (some ⟨w1.heap.size, 0, none⟩) 4 [0, 0, 0, 0] _ r (by decide))
    obtain ⟨y, hy⟩ : ∃ y, y = u (sum [0, 0, 0, 0]) := ⟨_, rfl⟩
    rw [← hy] at S2 ⊢
    clear r hy
    refine S2.out.mono ?_
    rintro e w' ⟨rfl, rfl⟩
    clear S2
    generalize (w1.alloc (.cells #[.int .u8 0, .int .u8 0, .int .u8 0, .int .u8 0] 5)) = W2 at *
    go_wp2_with (go_at_call 10; refine (HAW.out _ HB2.out).mono ?_; rintro e w' ⟨rfl, hbx⟩)
    go_ret
    exact ⟨rfl, hbx⟩
theorem rest_walk (a0 : Option Addr) (len0 cap0 : Nat) (z0 : List Int) (w : World) (w0 : IsRow .u8 w a0 len0 cap0 z0) (hL : laidMetH Tryd.prog TabL w) :
    Calls Tryd.prog 9 #[.slice a0 len0 cap0] w fun e w' => e = .returned (.bool true) ∧ Below w.heap.size w w' := by
  obtain ⟨a, rfl, ha, _, _⟩ := w0.bytes
  exact rest0 a0 cap0 a w ha (CrcLaidTab.tab_of hL)
end Go.Proofs.YtdcaoinhhdccoaaDoor.CrcBursts
