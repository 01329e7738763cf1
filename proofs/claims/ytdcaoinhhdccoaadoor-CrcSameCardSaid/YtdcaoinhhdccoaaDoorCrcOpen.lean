/- crc's walks: four, Equal, Clone, Concat, Seal, Open. -/
import Derived.Test.YtdcaoinhhdccoaaDoorCrcGo
import Derived.WalkSpells
import Derived.Lib.AppendZerosOnto
namespace Go.Proofs.YtdcaoinhhdccoaaDoor.CrcOpen
open Go.RowKit Go.Proofs.YtdcaoinhhdccoaaDoorW.PrintWords
open Go.Proofs.YtdcaoinhhdccoaaDoor.Bits Go.Proofs.YtdcaoinhhdccoaaDoor.Base Go.Proofs.YtdcaoinhhdccoaaDoor.CrcPure Go.Proofs.YtdcaoinhhdccoaaDoor.CrcStep Go.Proofs.YtdcaoinhhdccoaaDoor.CrcGo

def four (r : BitVec 32) : List UInt8 := [UInt8.ofNat (r.toNat / 16777216), UInt8.ofNat (r.toNat / 65536), UInt8.ofNat (r.toNat / 256), UInt8.ofNat r.toNat]
theorem four_ints (r : BitVec 32) : [u r / 16777216, u r / 65536 % 256, u r / 256 % 256, u r % 256] = ints (four r) := by
  have := r.isLt
  simp only [ints, four, List.map_cons, List.map_nil, UInt8.toNat_ofNat', u]
  congr 1
  · omega
theorem info : (Tryd.prog.info? 5).map (fun i => (i.zero, i.size, i.bytes)) = some (some (.int .u8 0), 1, 1) := by kernel_rfl

set_option maxHeartbeats 400000 in
theorem four_calls (r : BitVec 32) (w : World) :
    Calls Tryd.prog 25 #[.int .u32 (u r)] w fun e w' => ∃ v, e = .returned v ∧ OwB 5 w' w.heap.size v (four r) ∧ Below w.heap.size w w' := by
  have h0 := u_lo r
  have h1 := u_hi r
  go_enter Tryd.func25, Tryd.ntmps25
  go_wp2
  go_ret
  have h := OwI.lit w w.heap.size 5 .u8 (ints (four r)) (Nat.le_refl _) (by rw [ints_length]; simp [four])
  refine ⟨_, rfl, ?_, below_alloc (Below.refl _ _) _⟩
  rw [← four_ints] at h
  rw [OwB, ← four_ints]
  exact h

set_option maxHeartbeats 400000 in
theorem clone_calls (A : Option Addr) (c : Nat) (l : List UInt8) (w : World) (hr : RdB w A l) (hm : l.length ≤ 140737488355328) (hc : l.length ≤ c) (hn : A = none → c = 0) :
    Calls Tryd.prog 27 #[.slice A l.length c] w fun e w' => ∃ v, e = .returned v ∧ OwB 5 w' w.heap.size v l ∧ Below w.heap.size w w' := by
  have HR := Lib.hid hr
  clear hr
  cases A with
  | none =>
    have hc0 := hn rfl
    have hl : l = [] := List.length_eq_zero_iff.1 (by omega)
    subst hl
    subst hc0
    clear hc hn
    have hnil := fun w => Lib.run_eql_slice_nil (P := Tryd.prog) w 22 5 none 0 0 0 0 Tryd.underlying22
    go_enter Tryd.func27, Tryd.ntmps27
    go_wp2
    go_ret
    exact ⟨_, rfl, OwI.nil _ _ _ _, Below.refl _ _⟩
  | some ad =>
    clear hn
    have hnil := fun w => Lib.run_eql_slice_nil (P := Tryd.prog) w 22 5 (some ad) l.length c 0 0 Tryd.underlying22
    go_enter Tryd.func27, Tryd.ntmps27
    go_wp2_with (at_builtin; refine print_append_row (w0 := w) w.heap.size rfl _ _ 22 5 .u8 1 rfl Tryd.underlying22 info (by decide) _ [] (ints l) (some ad) l.length c rfl rfl ?c1 ?c2 ?c3 ?c4 ?c5 ?_)
    case c1 => exact own_lit w w.heap.size 5 .u8 [] (Nat.le_refl _) (by decide)
    case c2 => have := HR.out.alloc (.cells #[] 5); unfold RdI at this; rw [ints_length] at this; exact this
    case c3 => exact below_alloc (Below.refl _ _) _
    case c4 => simp
    case c5 => simp; omega
    intro v1 w1 ho hb _ _
    go_wp2
    go_ret
    exact ⟨_, rfl, by simpa [OwI] using ho, hb⟩
end Go.Proofs.YtdcaoinhhdccoaaDoor.CrcOpen
