/- CrcTurns, CrcBursts, CrcSpoils, CrcRest: the walks. -/
import Derived.Test.YtdcaoinhhdccoaaDoorCrcAwake
import Derived.Test.YtdcaoinhhdccoaaDoorCrcRefB
import Derived.Test.YtdcaoinhhdccoaaDoorCrcLaidTab
import Derived.Test.YtdcaoinhhdccoaaDoorCrcLaws
namespace Go.Proofs.YtdcaoinhhdccoaaDoor.CrcTurns
open Go.RowKit Go.Proofs.YtdcaoinhhdccoaaDoorW.PrintWords
open Go.Proofs.YtdcaoinhhdccoaaDoor.Bits Go.Proofs.YtdcaoinhhdccoaaDoor.Base Go.Proofs.YtdcaoinhhdccoaaDoor.LawBase Go.Proofs.YtdcaoinhhdccoaaDoor.CrcPure Go.Proofs.YtdcaoinhhdccoaaDoor.CrcStep Go.Proofs.YtdcaoinhhdccoaaDoor.CrcGo Go.Proofs.YtdcaoinhhdccoaaDoor.CrcTurn Go.Proofs.YtdcaoinhhdccoaaDoor.CrcBurst Go.Proofs.YtdcaoinhhdccoaaDoor.CrcAwake

theorem last_named (t : BitVec 32) (h : t ≠ 0#32) : Lib.ctz 32 t.toNat < 32 ∧ t.getMsbD (31 - Lib.ctz 32 t.toNat) = true := by
  have h0 : t.toNat ≠ 0 := by intro h0; apply h; apply BitVec.eq_of_toNat_eq; simp [h0]
  obtain ⟨m, hm, hk⟩ := Lib.ctzFrom_spec 32 t.toNat (by omega) t.isLt
  have hz : Lib.ctz 32 t.toNat = Lib.ctzFrom 32 t.toNat := by rw [Lib.ctz, if_neg h0]
  rw [hz]
  refine ⟨hk, ?_⟩
  generalize Lib.ctzFrom 32 t.toNat = z at hm hk
  rw [BitVec.getMsbD, BitVec.getLsbD]
  rw [show 32 - 1 - (31 - z) = z from by omega]
  have hd : t.toNat / 2 ^ z = 2 * m + 1 := by rw [hm]; exact Nat.mul_div_cancel_left _ (Nat.two_pow_pos z)
  rw [Nat.testBit_eq_decide_div_mod_eq, hd]
  simp
  omega
theorem fits_iff (p n : Nat) (t : BitVec 32) : CrcRefB.fits p n t ↔ (t ≠ 0#32 → p + lastOf t ≤ n) := by
  constructor
  · intro hf ht
    obtain ⟨hk, hb⟩ := last_named t ht
    have := hf _ (by omega) hb
    simp only [lastOf, if_neg ht]
    omega
  · intro h k hk hb
    have ht : t ≠ 0#32 := by rintro rfl; simp at hb
    have h1 := h ht
    have h2 := last_no t _ rfl k
    rw [lastOf, if_neg ht] at h1
    rcases Nat.lt_or_ge k (32 - Lib.ctz 32 t.toNat) with h3 | h3
    · omega
    · rw [h2 h3] at hb; cases hb

/-- a number of 32 bits that came in. -/
theorem u_of {n : Int} (h : (Lit.int .u32 n).wf = true) : ∃ t, n = u t := by
  simp [Lit.wf, IntKind.min, IntKind.max, IntKind.bits, IntKind.signed] at h
  refine ⟨BitVec.ofNat 32 n.toNat, ?_⟩
  rw [u, BitVec.toNat_ofNat]
  omega
theorem i64_of {n : Int} (h : (Lit.int .i64 n).wf = true) : -9223372036854775808 ≤ n ∧ n ≤ 9223372036854775807 := by
  simp [Lit.wf, IntKind.min, IntKind.max, IntKind.bits, IntKind.signed] at h
  omega
theorem u_eq0 (t : BitVec 32) : (u t == 0) = decide (t = 0#32) := by
  rw [Bool.eq_iff_iff, beq_iff_eq, decide_eq_true_iff]
  constructor
  · intro h
    apply BitVec.eq_of_toNat_eq
    have : t.toNat = 0 := by unfold u at h; omega
    simp [this]
  · rintro rfl; rfl

set_option maxHeartbeats 1600000 in
theorem turns0 (A : Option Addr) (c : Nat) (l : List UInt8) (p : Int) (t : BitVec 32) (w : World) (ha : RdB w A l) (hp : -9223372036854775808 ≤ p ∧ p ≤ 9223372036854775807) (hT : Tab w) :
    Calls Tryd.prog 5 #[.slice A l.length c, .int .i64 p, .int .u32 (u t)] w fun e w' => e = .returned (.bool true) ∧ Below w.heap.size w w' := by
  have hm := ha.max
  rw [ints_length] at hm
  have hcs : ∀ W, Below w.heap.size w W → Calls Tryd.prog 10 #[] W fun e w' => e = .returned (.bool true) ∧ Below w.heap.size w w' := fun W hb => by
    refine (awake_calls W (hT.below hb)).mono ?_
    rintro e w' ⟨rfl, h⟩
    exact ⟨rfl, below_then hb hb.size h⟩
  have HAW := Lib.hid hcs
  clear hcs
  by_cases hbig : l.length > 100
  · have h1 : decide ((l.length : Int) > 100) = true := by simp; omega
    have h1' : decide (100 < (l.length : Int)) = true := by simp; omega
    clear ha hT
    go_enter Tryd.func5, Tryd.ntmps5
    go_wp2_with (go_at_call 10; refine (HAW.out _ (Below.refl _ _)).mono ?_; rintro e w' ⟨rfl, hbx⟩)
    go_ret
    exact ⟨rfl, hbx⟩
  · have h1 : decide ((l.length : Int) > 100) = false := by simp; omega
    have h1' : decide (100 < (l.length : Int)) = false := by simp; omega
    have hl : l.length ≤ 100 := by omega
    have HA := Lib.hid ha
    have hcv : ∀ W, Below w.heap.size w W → (convert 22 9 (.slice A l.length c)).run Tryd.prog W = .ok (.string (str l)) W := fun W hb =>
      RdB.string (HA.out.below hb) rfl Tryd.underlying22 Tryd.underlying5 Tryd.underlying9
    have hT' := Lib.hid hT
    clear ha hT
    by_cases hneg : p < 0
    · have hbu := burst_neg A c l.length p t w (by omega) hT'.out hneg
      have HBU := Lib.hid hbu
      have hrf := CrcRefB.burst_neg (str l) p t w (by rw [str_size]; omega) hneg
      have HRF : Hid (Calls Tryd.prog 19 #[.string (str l), .int .i64 p, .int .u32 (u t)] w fun e w' => e = .returned (.tuple #[.string ⟨#[]⟩, .int .i64 0]) ∧ w = w') := hrf
      have hcv0 := hcv w (Below.refl _ _)
      clear hbu hrf hcv
      go_enter Tryd.func5, Tryd.ntmps5
      go_wp2_with (first
        | (go_at_call 18; refine HBU.out.mono ?_; rintro e w' ⟨rfl, rfl⟩)
        | (go_at_call 19; refine HRF.out.mono ?_; rintro e w' ⟨rfl, rfl⟩)
        | (go_at_call 10; refine (HAW.out _ (Below.refl _ _)).mono ?_; rintro e w' ⟨rfl, hbx⟩))
      go_ret
      exact ⟨rfl, hbx⟩
    · obtain ⟨n, rfl⟩ := Int.eq_ofNat_of_zero_le (show 0 ≤ p by omega)
      have hn : n ≤ 9223372036854775807 := by omega
      by_cases hf : CrcRefB.fits n (8 * l.length) t
      · have hf2 := (fits_iff n (8 * l.length) t).1 hf
        have HBU := Lib.hid (burst_ok A c l n t w HA.out (by omega) hT'.out hf2 hn)
        have HRF : Hid (∀ W, Calls Tryd.prog 19 #[.string (str l), .int .i64 n, .int .u32 (u t)] W fun e w' => e = .returned (.tuple #[.string (str (burst l n t)), .int .i64 1]) ∧ Below W.heap.size W w') := fun W => by
          refine (CrcRefB.burst_calls (str l) n t W (by rw [str_size]; omega) hn).mono ?_
          rintro e w' ⟨h1, _, h3⟩
          have := h1 (by rw [str_size]; exact hf)
          exact ⟨by rw [this]; simp [str], h3⟩
        have HBB : Hid (∀ A1 c1 W, RdB W A1 (burst l n t) → Tab W → Calls Tryd.prog 18 #[.slice A1 l.length c1, .int .i64 n, .int .u32 (u t)] W fun e w' => ∃ v, e = .returned (.tuple #[v, .int .i64 0]) ∧ OwB 5 w' W.heap.size v l ∧ Below W.heap.size W w') := fun A1 c1 W hr hT => by
          have := burst_ok A1 c1 (burst l n t) n t W hr (by rw [burst_length]; omega) hT (by rw [burst_length]; exact hf2) hn
          rw [burst_length, burst_twice] at this
          exact this
        have hbl := burst_length l n t
        obtain ⟨q, hq⟩ : ∃ q, q = burst l n t := ⟨_, rfl⟩
        rw [← hq] at HBU HRF HBB hbl
        have HBL := Lib.hid hbl
        clear hf hf2 hq hbl
        go_enter Tryd.func5, Tryd.ntmps5
        go_wp2_with fail
        refine HBU.out.mono ?_
        rintro e w1 ⟨v1, rfl, ho1, hb1⟩
        obtain ⟨A1, c1, rfl, _, hr1⟩ := ho1.reads
        rw [HBL.out]
        have HR1 := Lib.hid hr1
        have HB1 := Lib.hid hb1
        have hcv1 := hcv w1 hb1
        clear ho1 hr1
        go_wp2_with fail
        refine (HRF.out w1).mono ?_
        rintro e w2 ⟨rfl, hb2⟩
        have HB2 := Lib.hid (below_then hb1 hb1.size hb2)
        have HR2 := Lib.hid (HR1.out.below hb2)
        clear hb1 hb2 hcv1 HR1 HB1
        go_wp2_with fail
        refine (HBB.out A1 c1 w2 HR2.out (hT'.out.below HB2.out)).mono ?_
        rintro e w3 ⟨v3, rfl, ho3, hb3⟩
        obtain ⟨A3, c3, rfl, _, hr3⟩ := ho3.reads
        have HB3 := Lib.hid (below_then HB2.out HB2.out.size hb3)
        have hcv3 := hcv w3 HB3.out
        have hcv4 := RdB.string (P := Tryd.prog) (c := c1) (HR2.out.below hb3) HBL.out Tryd.underlying22 Tryd.underlying5 Tryd.underlying9
        have hcv5 := RdB.string (P := Tryd.prog) (c := c3) hr3 rfl Tryd.underlying22 Tryd.underlying5 Tryd.underlying9
        clear hcv ho3 hb3 hr3 HB2 HR2
        go_wp2_with (go_at_call 10; refine (HAW.out _ HB3.out).mono ?_; rintro e w' ⟨rfl, hbx⟩)
        go_ret
        exact ⟨rfl, hbx⟩
      · have h0 : t ≠ 0#32 := by rintro rfl; exact hf (fun k _ h => by simp at h)
        have hfar : 8 * l.length < n + lastOf t := by
          rcases Nat.lt_or_ge (8 * l.length) (n + lastOf t) with h | h
          · exact h
          · exact absurd ((fits_iff n (8 * l.length) t).2 fun _ => h) hf
        have HBU := Lib.hid (burst_far A c l.length n t w (by omega) hT'.out hn h0 hfar)
        have HRF : Hid (∀ W, Calls Tryd.prog 19 #[.string (str l), .int .i64 n, .int .u32 (u t)] W fun e w' => e = .returned (.tuple #[.string ⟨#[]⟩, .int .i64 0]) ∧ Below W.heap.size W w') := fun W => by
          refine (CrcRefB.burst_calls (str l) n t W (by rw [str_size]; omega) hn).mono ?_
          rintro e w' ⟨_, h2, h3⟩
          exact ⟨h2 (by rw [str_size]; exact hf), h3⟩
        have hcv0 := hcv w (Below.refl _ _)
        clear hcv hf hfar
        go_enter Tryd.func5, Tryd.ntmps5
        go_wp2_with (first
          | (go_at_call 18; refine HBU.out.mono ?_; rintro e w' ⟨rfl, rfl⟩)
          | (go_at_call 19; refine (HRF.out _).mono ?_; rintro e w2 ⟨rfl, hb2⟩)
          | (go_at_call 10; refine (HAW.out _ hb2).mono ?_; rintro e w' ⟨rfl, hbx⟩))
        go_ret
        exact ⟨rfl, hbx⟩
end Go.Proofs.YtdcaoinhhdccoaaDoor.CrcTurns
