/- crc's walks, the first ones: step, Go, Sum, four. -/
import Derived.Test.YtdcaoinhhdccoaaDoorProg
import Derived.Test.YtdcaoinhhdccoaaDoorBase
import Derived.Test.YtdcaoinhhdccoaaDoorCrcPure
namespace Go.Proofs.YtdcaoinhhdccoaaDoor.CrcStep
open Go.RowKit Go.Proofs.YtdcaoinhhdccoaaDoorW.PrintWords
open Go.Proofs.YtdcaoinhhdccoaaDoor.Bits Go.Proofs.YtdcaoinhhdccoaaDoor.Base Go.Proofs.YtdcaoinhhdccoaaDoor.CrcPure

/-- a register as the walk has it. -/
def u (r : BitVec 32) : Int := (r.toNat : Int)
theorem u_lo (r : BitVec 32) : 0 ≤ u r := by unfold u; omega
theorem u_hi (r : BitVec 32) : u r < 4294967296 := by unfold u; have := r.isLt; omega
theorem u_xor (a b : BitVec 32) : Go.bits .xor .u32 (u a) (u b) = u (a ^^^ b) := by
  unfold u
  rw [u32_xor_nat _ _ a.isLt b.isLt, BitVec.toNat_xor]
theorem u_dbl (r : BitVec 32) : (u r * (2 : Int)) % (4294967296 : Int) = u (r <<< 1) := by
  unfold u
  rw [BitVec.toNat_shiftLeft]
  simp [Nat.shiftLeft_eq]
theorem u_msb (r : BitVec 32) : r.msb = decide (2147483648 ≤ u r) := by
  unfold u
  rw [BitVec.msb_eq_decide]
  simp
  omega
theorem u_poly : (79764919 : Int) = u poly := rfl
theorem F_hi (r : BitVec 32) (h : 2147483648 ≤ u r) : Go.bits .xor .u32 ((u r * (2 : Int)) % (4294967296 : Int)) 79764919 = u (F r false) := by
  rw [u_dbl, u_poly, u_xor]
  have : r.msb = true := by rw [u_msb]; exact decide_eq_true h
  simp [F, this]
theorem F_lo (r : BitVec 32) (h : u r < 2147483648) : (u r * (2 : Int)) % (4294967296 : Int) = u (F r false) := by
  rw [u_dbl]
  have : r.msb = false := by rw [u_msb]; exact decide_eq_false (by omega)
  simp [F, this]
theorem u_byte (c : UInt8) : (((c.toNat : Int) % (4294967296 : Int)) * (16777216 : Int)) % (4294967296 : Int) = u ((c.toBitVec.setWidth 32) <<< 24) := by
  unfold u
  have := c.toNat_lt
  rw [BitVec.toNat_shiftLeft]
  simp [Nat.shiftLeft_eq]
  omega

set_option maxHeartbeats 400000 in
theorem step_calls (r : BitVec 32) (c : UInt8) (w : World) :
    Calls Tryd.prog 23 #[.int .u32 (u r), .int .u8 (c.toNat : Int)] w fun e w' => e = .returned (.int .u32 (u (feed r (bb c)))) ∧ w = w' := by
  go_enter Tryd.func23, Tryd.ntmps23
  go_wp2
  go_loop [0, 10] (fun x i => ∃ k : Nat, k ≤ 8 ∧ i = .int .i64 k ∧ x = .int .u32 (u (zeros k (r ^^^ (c.toBitVec.setWidth 32) <<< 24)))) (fun _ i => 8 - (intOf i).toNat)
  case atStart => exact ⟨0, by omega, rfl, by rw [u_byte, u_xor]; rfl⟩
  case round =>
    obtain ⟨k, hk, rfl, rfl⟩ := hrel
    obtain ⟨q, hq⟩ : ∃ q, q = zeros k (r ^^^ (c.toBitVec.setWidth 32) <<< 24) := ⟨_, rfl⟩
    rw [← hq]
    have Hq := Lib.hid hq
    clear hq
    by_cases hlt : k < 8
    · by_cases h : 2147483648 ≤ u q
      · go_wp2
        go_round
        case rel => exact ⟨k + 1, by omega, by go_num, by rw [F_hi q h, zeros_succ', ← Hq.out]⟩
        case measure => simp [intOf]; omega
      · go_wp2
        go_round
        case rel => exact ⟨k + 1, by omega, by go_num, by rw [F_lo q (by omega), zeros_succ', ← Hq.out]⟩
        case measure => simp [intOf]; omega
    · go_wp2
      go_ret
      have : k = 8 := by omega
      subst this
      rw [step_eq] at Hq
      rw [Hq.out]
      exact ⟨rfl, rfl⟩
end Go.Proofs.YtdcaoinhhdccoaaDoor.CrcStep
