/- crc's walks: Go, Sum, four. -/
import Derived.Test.YtdcaoinhhdccoaaDoorCrcStep
namespace Go.Proofs.YtdcaoinhhdccoaaDoor.CrcGo
open Go.RowKit Go.Proofs.YtdcaoinhhdccoaaDoorW.PrintWords
open Go.Proofs.YtdcaoinhhdccoaaDoor.Bits Go.Proofs.YtdcaoinhhdccoaaDoor.Base Go.Proofs.YtdcaoinhhdccoaaDoor.CrcPure Go.Proofs.YtdcaoinhhdccoaaDoor.CrcStep

theorem not_u (r : BitVec 32) : Go.bits .xor .u32 (IntKind.max .u32) (u r) = u (~~~ r) := by
  have h : IntKind.max .u32 = u 4294967295#32 := by decide
  rw [h, u_xor]
  exact congrArg u (BitVec.allOnes_xor ..)

theorem feed_snoc (r : BitVec 32) (l : List UInt8) (k : Nat) (h : k < l.length) : feed r (bts (l.take (k + 1))) = feed (feed r (bts (l.take k))) (bb l[k]) := by
  rw [List.take_succ_eq_append_getElem h, bts_append, feed_append]
  simp [bts]

set_option maxHeartbeats 400000 in
theorem go_calls (s : BitVec 32) (A : Option Addr) (c : Nat) (l : List UInt8) (w : World)
    (hr : RdB w A l) (hm : l.length ≤ 9223372036854775807) :
    Calls Tryd.prog 13 #[.int .u32 (u s), .slice A l.length c] w fun e w' => e = .returned (.int .u32 (u (go s l))) ∧ w = w' := by
  have HR := Lib.hid hr
  clear hr
  go_enter Tryd.func13, Tryd.ntmps13
  go_wp2
  go_loop [5, 12] (fun x i => ∃ k : Nat, k ≤ l.length ∧ i = .int .i64 k ∧ x = .int .u32 (u (feed (~~~ s) (bts (l.take k))))) (fun _ i => l.length - (intOf i).toNat)
  case atStart => exact ⟨0, by omega, rfl, by rw [not_u]; rfl⟩
  case round =>
    obtain ⟨k, hk, rfl, rfl⟩ := hrel
    by_cases hlt : k < l.length
    · obtain ⟨ad, rfl, hc⟩ := HR.out.at_ k hlt
      have hs := feed_snoc (~~~ s) l k hlt
      obtain ⟨q, hq⟩ : ∃ q, q = feed (~~~ s) (bts (l.take k)) := ⟨_, rfl⟩
      rw [← hq] at hs ⊢
      have Hs := Lib.hid hs
      clear hs hq
      go_wp2_with (go_at_call 23; refine (step_calls _ _ _).mono ?_; rintro e w' ⟨rfl, rfl⟩)
      go_round
      case rel => exact ⟨k + 1, by omega, by go_num, by rw [Hs.out]⟩
      case measure => simp [intOf]; omega
    · have : k = l.length := by omega
      subst this
      rw [List.take_length]
      go_wp2
      go_ret
      exact ⟨by rw [not_u]; rfl, rfl⟩

theorem sum_calls (A : Option Addr) (c : Nat) (l : List UInt8) (w : World) (hr : RdB w A l) (hm : l.length ≤ 9223372036854775807) :
    Calls Tryd.prog 11 #[.slice A l.length c] w fun e w' => e = .returned (.int .u32 (u (sum l))) ∧ w = w' := by
  have h := go_calls 0#32 A c l w hr hm
  have h0 : u 0#32 = 0 := rfl
  rw [h0] at h
  have H := Lib.hid h
  clear h
  go_enter Tryd.func11, Tryd.ntmps11
  go_wp2_with (go_at_call 13; refine H.out.mono ?_; rintro e w' ⟨rfl, rfl⟩)
  go_ret
  exact ⟨rfl, rfl⟩
end Go.Proofs.YtdcaoinhhdccoaaDoor.CrcGo
