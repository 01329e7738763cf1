/- crc's walks: TrailingZeros32, Burst. -/
import Derived.Test.YtdcaoinhhdccoaaDoorCrcOpenW
import Derived.Test.YtdcaoinhhdccoaaDoorCrcTurn
import Derived.Lib.TrailingZeros
namespace Go.Proofs.YtdcaoinhhdccoaaDoor.CrcBurst
open Go.RowKit Go.Proofs.YtdcaoinhhdccoaaDoorW.PrintWords
open Go.Proofs.YtdcaoinhhdccoaaDoor.Bits Go.Proofs.YtdcaoinhhdccoaaDoor.Base Go.Proofs.YtdcaoinhhdccoaaDoor.CrcPure Go.Proofs.YtdcaoinhhdccoaaDoor.CrcStep Go.Proofs.YtdcaoinhhdccoaaDoor.CrcGo Go.Proofs.YtdcaoinhhdccoaaDoor.CrcOpen Go.Proofs.YtdcaoinhhdccoaaDoor.CrcTurn

/-- the library's table, as its initialiser lays it. -/
def Tab (w : World) : Prop := ∀ j, j < 32 → w.cell? ⟨0, j, none⟩ = some (.int .u8 (Lib.deBruijn32tab.getD j 0))
theorem Tab.below {w w1 : World} (h : Tab w) (hb : Below w.heap.size w w1) : Tab w1 := fun j hj => pw_cell_below hb (h j hj)

theorem tz_key (x a : Nat) (hx : x < 4294967296) (hx0 : x ≠ 0) (hlow : x &&& (4294967296 - x) = a) :
    Go.bits BinOp.and IntKind.u32 (x : Int) (-(x : Int) % 4294967296) * 125613361 % 4294967296 / 134217728 = ((a * 125613361 % 4294967296 / 134217728 : Nat) : Int) := by
  have e1 : -(x : Int) % 4294967296 = ((4294967296 - x : Nat) : Int) := by omega
  rw [e1, u32_and_nat x _ hx (by omega), hlow]
  omega

set_option maxHeartbeats 400000 in
theorem tz_calls (x : Nat) (hx : x < 4294967296) (w : World) (hT : Tab w) :
    Calls Tryd.prog 28 #[.int .u32 x] w fun e w' => e = .returned (.int .i64 (Lib.ctz 32 x)) ∧ w = w' := by
  by_cases hx0 : x = 0
  · subst hx0
    clear hT
    go_enter Tryd.func28, Tryd.ntmps28
    go_wp2
    go_ret
    exact ⟨rfl, rfl⟩
  · obtain ⟨hlow, hk⟩ := Lib.lowest_bit 32 x hx0 hx
    obtain ⟨hi, htab⟩ := Lib.deBruijn32_at _ hk
    have hcell := hT _ hi
    rw [htab] at hcell
    have key := tz_key x _ hx hx0 hlow
    obtain ⟨idx, hidx⟩ : ∃ idx, idx = 2 ^ Lib.ctz 32 x * 125613361 % 4294967296 / 134217728 := ⟨_, rfl⟩
    rw [← hidx] at hcell key hi
    obtain ⟨z, hz⟩ : ∃ z, z = Lib.ctz 32 x := ⟨_, rfl⟩
    rw [← hz] at hcell hk ⊢
    have h0 : ((x : Int) == 0) = false := by simp; omega
    clear hT hlow htab hidx hz hx0
    go_enter Tryd.func28, Tryd.ntmps28
    go_wp2
    go_ret
    exact ⟨rfl, rfl⟩

theorem bit_at (t : BitVec 32) (k : Nat) (h : k < 32) : (Go.bits .and .u32 (u t / 2 ^ (31 - k)) 1 == 1) = t.getMsbD k := by
  have h1 : u t / 2 ^ (31 - k) = ((t.toNat / 2 ^ (31 - k) : Nat) : Int) := by simp [u]
  have h2 : t.toNat / 2 ^ (31 - k) < 4294967296 := Nat.lt_of_le_of_lt (Nat.div_le_self _ _) t.isLt
  have h3 : Go.bits .and .u32 ((t.toNat / 2 ^ (31 - k) : Nat) : Int) ((1 : Nat) : Int) = ((t.toNat / 2 ^ (31 - k) &&& 1 : Nat) : Int) := u32_and_nat _ _ h2 (by decide)
  rw [h1, show (1 : Int) = ((1 : Nat) : Int) from rfl, h3, Nat.and_one_is_mod]
  rw [BitVec.getMsbD, BitVec.getLsbD, Nat.testBit_eq_decide_div_mod_eq]
  rw [show 32 - 1 - k = 31 - k from by omega]
  simp only [h, decide_true, Bool.true_and]
  generalize t.toNat / 2 ^ (31 - k) % 2 = y
  rw [Bool.eq_iff_iff, beq_iff_eq, decide_eq_true_iff]
  omega
/-- behind the last bit that is named. -/
def lastOf (t : BitVec 32) : Nat := if t = 0#32 then 0 else 32 - Lib.ctz 32 t.toNat
/-- the bits behind it are noughts. -/
theorem last_no (t : BitVec 32) (z : Nat) (hz : z = Lib.ctz 32 t.toNat) : ∀ j, 32 - z ≤ j → t.getMsbD j = false := by
  intro j hj
  rw [BitVec.getMsbD]
  by_cases h32 : j < 32
  · by_cases h0 : t.toNat = 0
    · simp [h32, BitVec.getLsbD, h0]
    · obtain ⟨m, hm, hk⟩ := Lib.ctzFrom_spec 32 t.toNat (by omega) t.isLt
      have hz' : z = Lib.ctzFrom 32 t.toNat := by rw [hz, Lib.ctz, if_neg h0]
      rw [← hz'] at hm hk
      simp only [h32, decide_true, Bool.true_and, BitVec.getLsbD]
      rw [hm, Nat.mul_comm, Nat.testBit_mul_two_pow]
      simp
      omega
  · simp [h32]

set_option maxHeartbeats 1600000 in
theorem burst_ok (A : Option Addr) (c : Nat) (l : List UInt8) (p : Nat) (t : BitVec 32) (w : World) (hr : RdB w A l) (hm : l.length ≤ 1000000) (hT : Tab w) (hp : t ≠ 0#32 → p + lastOf t ≤ 8 * l.length) (hp2 : p ≤ 9223372036854775807) :
    Calls Tryd.prog 18 #[.slice A l.length c, .int .i64 p, .int .u32 (u t)] w fun e w' => ∃ v, e = .returned (.tuple #[v, .int .i64 0]) ∧ OwB 5 w' w.heap.size v (burst l p t) ∧ Below w.heap.size w w' := by
  by_cases h0 : t = 0#32
  · subst h0
    have h1 : decide ((p : Int) < 0) = false := by simp
    have HT := Lib.hid hT
    have HR := Lib.hid hr
    clear hr hT hp
    have HTZ := Lib.hid (tz_calls 0 (by decide) w HT.out)
    rw [show u 0#32 = ((0 : Nat) : Int) from rfl]
    have hmk := @make_row
    clear hmk
    go_enter Tryd.func18, Tryd.ntmps18
    go_wp2_with (first | (go_at_call 28; refine HTZ.out.mono ?_; rintro e w' ⟨rfl, rfl⟩) | (at_make; refine make_row (w0 := w) w.heap.size rfl _ _ 22 5 .u8 1 rfl Tryd.underlying22 info l.length rfl rfl (by omega) (by omega) (Below.refl _ _) (Nat.le_refl _) ?_; intro w1 ho1 hb1 _; have HO1 := Lib.hid ho1; have HB1 := Lib.hid hb1; clear ho1 hb1) | (refine copy_row (w0 := w) w.heap.size rfl (.tmp 36) (.tmp 37) 22 22 5 .u8 1 rfl Tryd.underlying22 info w.heap.size l.length l.length A l.length c (List.replicate l.length 0) (ints l) rfl rfl (by simp) (ints_length l) rfl HO1.out (HR.out.below HB1.out) HB1.out ?_; intro w2 ho2 hb2; have HO2 := Lib.hid ho2; have HB2 := Lib.hid hb2; clear ho2 hb2 HO1 HB1))
    go_loopw [40] (fun i wr => i = .int .i64 0 ∧ Hid (wr = w2)) (fun _ _ => 0)
    case atStart => exact ⟨rfl, rfl⟩
    case round =>
      obtain ⟨rfl, hw⟩ := hrel
      obtain rfl := hw.out
      go_wp2
      go_ret2
      have he : burst l p 0#32 = l := by
        refine (burst_of ?_).symm
        have := turned_more (bts l) p 0#32 0 32 (by intro j _; simp)
        rw [Nat.zero_add] at this
        rw [this, turned_zero]
      exact ⟨_, rfl, by rw [he]; exact HO2.out, HB2.out⟩
  · have hl : lastOf t = 32 - Lib.ctz 32 t.toNat := by simp [lastOf, h0]
    have hz : ((u t) == 0) = false := by
      rw [beq_eq_false_iff_ne]
      intro h
      apply h0
      apply BitVec.eq_of_toNat_eq
      simp [u] at h
      simp [h]
    have hp1 := hp h0
    have hk : Lib.ctz 32 t.toNat < 32 := (Lib.lowest_bit 32 t.toNat (by intro h; apply h0; apply BitVec.eq_of_toNat_eq; simp [h]) t.isLt).2
    obtain ⟨z, hzz⟩ : ∃ z, z = Lib.ctz 32 t.toNat := ⟨_, rfl⟩
    have htz := tz_calls t.toNat t.isLt w hT
    rw [← hzz] at hl hk htz
    have HTZ : Hid (Calls Tryd.prog 28 #[.int .u32 (u t)] w fun e w' => e = .returned (.int .i64 z) ∧ w = w') := htz
    have h1 : decide ((p : Int) < 0) = false := by simp
    have h2 : decide ((32 : Int) - z > 0) = true := by simp; omega
    have h2' : decide (0 < (32 : Int) - z) = true := by simp; omega
    have h3 : decide ((p : Int) > 8 * (l.length : Int) - (32 - z)) = false := by simp; omega
    have h3' : decide (8 * (l.length : Int) - (32 - z) < (p : Int)) = false := by simp; omega
    have HR := Lib.hid hr
    have HL := Lib.hid hl
    have HZ := Lib.hid hzz
    clear hr hl hzz hT hp htz h0
    go_enter Tryd.func18, Tryd.ntmps18
    go_wp2_with (first | (go_at_call 28; refine HTZ.out.mono ?_; rintro e w' ⟨rfl, rfl⟩) | (at_make; refine make_row (w0 := w) w.heap.size rfl _ _ 22 5 .u8 1 rfl Tryd.underlying22 info l.length rfl rfl (by omega) (by omega) (Below.refl _ _) (Nat.le_refl _) ?_; intro w1 ho1 hb1 _; have HO1 := Lib.hid ho1; have HB1 := Lib.hid hb1; clear ho1 hb1) | (refine copy_row (w0 := w) w.heap.size rfl (.tmp 36) (.tmp 37) 22 22 5 .u8 1 rfl Tryd.underlying22 info w.heap.size l.length l.length A l.length c (List.replicate l.length 0) (ints l) rfl rfl (by simp) (ints_length l) rfl HO1.out (HR.out.below HB1.out) HB1.out ?_; intro w2 ho2 hb2; have HO2 := Lib.hid ho2; have HB2 := Lib.hid hb2; clear ho2 hb2 HO1 HB1))
    go_loopw [40] (fun i wr => ∃ k : Nat, ∃ q, k ≤ 32 - z ∧ i = .int .i64 k ∧ OwB 5 wr w.heap.size (.slice (some ⟨w.heap.size, 0, none⟩) l.length l.length) q ∧ Hid (bts q = turned (bts l) p t k) ∧ Below w.heap.size w wr) (fun i _ => 32 - z - (intOf i).toNat)
    case atStart => exact ⟨0, l, by omega, rfl, HO2.out, (turned_zero _ _ _).symm, HB2.out⟩
    case round =>
      clear HO2 HB2
      obtain ⟨k, q, hk1, rfl, ho, hq, hb⟩ := hrel
      have HO := Lib.hid ho
      have HB := Lib.hid hb
      clear ho hb
      by_cases hlt : k < 32 - z
      · have hlt' : (k : Int) < 32 - (z : Int) := by omega
        have hbit := bit_at t k (by omega)
        have hin : p + k < 8 * q.length := by have := HO.out.lt_; have := HL.out; have h9 := HO.out.reads; obtain ⟨A', c', he, _, _⟩ := h9; injection he with _ h9 _; rw [← h9]; omega
        cases hv : t.getMsbD k with
        | false =>
          rw [hv] at hbit
          have HT := Lib.hid (turned_skip (bts l) p t k hv)
          clear hv hin
          go_wp2
          go_roundw
          case rel => exact ⟨k + 1, q, by omega, by go_num, HO.out, by rw [HT.out]; exact hq, HB.out⟩
          case measure => simp [intOf]; omega
        | true =>
          rw [hv] at hbit
          have hlq : q.length = l.length := HO.out.len
          have hj : (p + k) / 8 < q.length := by omega
          obtain ⟨hcell, hfr⟩ := HO.out.at_ ((p + k) / 8) hj
          have hj1 : ((p : Int) + (k : Int)) / 8 < (l.length : Int) := by omega
          have hj0 : 0 ≤ ((p : Int) + (k : Int)) / 8 := by omega
          obtain ⟨x, hx⟩ : ∃ x : UInt8, x = UInt8.ofNat (q[(p + k) / 8].toNat ^^^ 2 ^ (7 - (p + k) % 8)) := ⟨_, rfl⟩
          have hp8 : 2 ^ (7 - (p + k) % 8) < 256 := Nat.lt_of_le_of_lt (Nat.pow_le_pow_right (by decide) (show 7 - (p + k) % 8 ≤ 7 from by omega)) (by decide)
          have hxn : x.toNat = q[(p + k) / 8].toNat ^^^ 2 ^ (7 - (p + k) % 8) := by
            rw [hx, UInt8.toNat_ofNat']
            exact Nat.mod_eq_of_lt (Nat.xor_lt_two_pow (n := 8) q[(p + k) / 8].toNat_lt hp8)
          have hxv : Go.bits BinOp.xor IntKind.u8 (q[(p + k) / 8].toNat : Int) (2 ^ (7 - (p + k) % 8) % 256) = (x.toNat : Int) := by
            have h1 : ((2 : Int) ^ (7 - (p + k) % 8) % 256) = ((2 ^ (7 - (p + k) % 8) : Nat) : Int) := by
              rw [Int.natCast_pow]
              have : ((2 ^ (7 - (p + k) % 8) : Nat) : Int) < 256 := by omega
              rw [Int.natCast_pow] at this
              have h0 : (0 : Int) ≤ 2 ^ (7 - (p + k) % 8) := Int.pow_nonneg (by decide)
              exact Int.emod_eq_of_lt h0 this
            rw [h1, u8_xor_nat _ _ q[(p + k) / 8].toNat_lt hp8, hxn]
          have HT := Lib.hid (turned_step (bts l) q p t k hq.out hv hin x (by rw [hxn]; simp [List.getD_eq_getElem?_getD, hj]))
          have HS := Lib.hid (HO.out.set ((p + k) / 8) x)
          have HXV := Lib.hid hxv
          clear hlq hv hx hxn hp8 hxv
          go_wp2
          go_region
          rw [HXV.out]
          go_wp2
          go_roundw
          case rel => exact ⟨k + 1, _, by omega, by go_num, HS.out, HT.out, below_drew (HB.out.setCell (Nat.le_refl _) _)⟩
          case measure => simp [intOf]; omega
      · obtain rfl : k = 32 - z := by omega
        have hend : bts q = turned (bts l) p t 32 := by
          have := turned_more (bts l) p t (32 - z) z (last_no t z HZ.out)
          rw [show 32 - z + z = 32 from by omega] at this
          rw [hq.out, this]
        have HE := Lib.hid (burst_of hend)
        clear hend
        go_wp2
        go_ret2
        exact ⟨_, rfl, by rw [← HE.out]; exact HO.out, HB.out⟩

set_option maxHeartbeats 800000 in
theorem burst_neg (A : Option Addr) (c n : Nat) (p : Int) (t : BitVec 32) (w : World) (hm : n ≤ 1000000) (hT : Tab w) (hp : p < 0) :
    Calls Tryd.prog 18 #[.slice A n c, .int .i64 p, .int .u32 (u t)] w fun e w' => e = .returned (.tuple #[.slice none 0 0, .int .i64 11]) ∧ w = w' := by
  have hk : Lib.ctz 32 t.toNat ≤ 32 := by
    by_cases h0 : t.toNat = 0
    · simp [Lib.ctz, h0]
    · exact Nat.le_of_lt (Lib.lowest_bit 32 t.toNat h0 t.isLt).2
  obtain ⟨z, hzz⟩ : ∃ z, z = Lib.ctz 32 t.toNat := ⟨_, rfl⟩
  have htz := tz_calls t.toNat t.isLt w hT
  rw [← hzz] at hk htz
  have HTZ : Hid (Calls Tryd.prog 28 #[.int .u32 (u t)] w fun e w' => e = .returned (.int .i64 z) ∧ w = w') := htz
  have h1 : decide (p < 0) = true := by simp; omega
  clear hzz hT htz
  cases hz : ((u t) == 0) with
  | true =>
    go_enter Tryd.func18, Tryd.ntmps18
    go_wp2_with (go_at_call 28; refine HTZ.out.mono ?_; rintro e w' ⟨rfl, rfl⟩)
    go_ret2
    exact ⟨rfl, rfl⟩
  | false =>
    go_enter Tryd.func18, Tryd.ntmps18
    go_wp2_with (go_at_call 28; refine HTZ.out.mono ?_; rintro e w' ⟨rfl, rfl⟩)
    go_ret2
    exact ⟨rfl, rfl⟩

set_option maxHeartbeats 800000 in
theorem burst_far (A : Option Addr) (c n p : Nat) (t : BitVec 32) (w : World) (hm : n ≤ 1000000) (hT : Tab w) (hp2 : p ≤ 9223372036854775807) (h0 : t ≠ 0#32) (hp : 8 * n < p + lastOf t) :
    Calls Tryd.prog 18 #[.slice A n c, .int .i64 p, .int .u32 (u t)] w fun e w' => e = .returned (.tuple #[.slice none 0 0, .int .i64 11]) ∧ w = w' := by
  have hl : lastOf t = 32 - Lib.ctz 32 t.toNat := by simp [lastOf, h0]
  have hz : ((u t) == 0) = false := by
    rw [beq_eq_false_iff_ne]
    intro h
    apply h0
    apply BitVec.eq_of_toNat_eq
    simp [u] at h
    simp [h]
  have hk : Lib.ctz 32 t.toNat < 32 := (Lib.lowest_bit 32 t.toNat (by intro h; apply h0; apply BitVec.eq_of_toNat_eq; simp [h]) t.isLt).2
  obtain ⟨z, hzz⟩ : ∃ z, z = Lib.ctz 32 t.toNat := ⟨_, rfl⟩
  have htz := tz_calls t.toNat t.isLt w hT
  rw [← hzz] at hl hk htz
  have HTZ : Hid (Calls Tryd.prog 28 #[.int .u32 (u t)] w fun e w' => e = .returned (.int .i64 z) ∧ w = w') := htz
  have h1 : decide ((p : Int) < 0) = false := by simp
  have h2 : decide ((32 : Int) - z > 0) = true := by simp; omega
  have h2' : decide (0 < (32 : Int) - z) = true := by simp; omega
  have h3 : decide ((p : Int) > 8 * (n : Int) - (32 - z)) = true := by simp; omega
  have h3' : decide (8 * (n : Int) - (32 - z) < (p : Int)) = true := by simp; omega
  clear hzz hT htz hl hp h0
  go_enter Tryd.func18, Tryd.ntmps18
  go_wp2_with (go_at_call 28; refine HTZ.out.mono ?_; rintro e w' ⟨rfl, rfl⟩)
  go_ret2
  exact ⟨rfl, rfl⟩
end Go.Proofs.YtdcaoinhhdccoaaDoor.CrcBurst
