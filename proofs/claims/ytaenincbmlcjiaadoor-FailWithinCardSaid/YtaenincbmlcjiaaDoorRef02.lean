/- the reference of layer 2: digits; places. -/
import Derived.Test.YtaenincbmlcjiaaDoorFailH
import Derived.Test.YtaenincbmlcjiaaDoorRep
import Derived.Deep.RegionWith
import Derived.IntWalk
namespace Go.Proofs.YtaenincbmlcjiaaDoor.Ref02
open Go.RowKit Go.Proofs.YtaenincbmlcjiaaDoorW.PrintWords
open Go.Proofs.YtaenincbmlcjiaaDoor.Bits Go.Proofs.YtaenincbmlcjiaaDoor.Base Go.Proofs.YtaenincbmlcjiaaDoor.FailF

theorem add_str (a b : List UInt8) : str a ++ str b = str (a ++ b) := by
  apply ByteArray.ext; simp [str]
set_option maxRecDepth 100000 in
theorem string_at {q : Int} (c : UInt8) (hq : q = (c.toNat : Int)) (W W' : World) (hb : Below (W.alloc (.cells #[.int .u8 q] 5)).drew.heap.size (W.alloc (.cells #[.int .u8 q] 5)).drew W') :
    (convert 63 9 (.slice (some ⟨W.heap.size, 0, none⟩) 1 1)).run Tryd.prog W' = .ok (.string (str [c])) W' := by
  subst hq
  have h := OwI.lit W W.heap.size 5 .u8 (ints [c]) (Nat.le_refl _) (by simp [ints])
  obtain ⟨A, cc, he2, _, hr⟩ := OwB.reads (l := [c]) h
  injection he2 with he2 he3
  subst he2
  exact RdB.string (l := [c]) (hr.drew.below hb) rfl Tryd.underlying63 Tryd.underlying5 Tryd.underlying9
set_option maxRecDepth 100000 in
set_option maxHeartbeats 3200000 in
theorem digits_nn : ∀ (n : Nat) (w : World), n ≤ 9223372036854775807 → Calls Tryd.prog 18 #[.int .i64 n] w fun e w' => e = .returned (.string (str (Lib.decDigits n))) ∧ Below w.heap.size w w' := by
  intro n
  induction n using Nat.strongRecOn with
  | _ n ih =>
    intro w hn
    have e0 : decide ((n : Int) < 0) = false := by simp
    by_cases h : n < 10
    · have hs := string_one (P := Tryd.prog) (src := 63) (dst := 9) (e := 5) (48 + (n : Int)) (UInt8.ofNat (48 + n)) (by simp; omega) Tryd.underlying63 Tryd.underlying5 Tryd.underlying9
      have HD : Hid (Lib.decDigits n = [UInt8.ofNat (48 + n)]) := Lib.hid (Lib.decDigits_one h)
      have hb := below_alloc (Below.refl w.heap.size w) (.cells #[.int .u8 (48 + (n : Int))] 5)
      generalize UInt8.ofNat (48 + n) = c at *
      have HB := Lib.hid hb
      clear ih hb
      go_enter Tryd.func18, Tryd.ntmps18
      go_wp2
      go_ret
      exact ⟨by rw [HD.out]; rfl, HB.out⟩
    · have hq : (48 + (n : Int) % 10) = (((UInt8.ofNat (48 + n % 10)).toNat : Nat) : Int) := by simp; omega
      have HI := Lib.hid (fun W => ih (n / 10) (by omega) W (by omega))
      rw [show ((n / 10 : Nat) : Int) = (n : Int) / 10 from by omega] at HI
      have hs := string_one (P := Tryd.prog) (src := 63) (dst := 9) (e := 5) (48 + (n : Int) % 10) (UInt8.ofNat (48 + n % 10)) hq Tryd.underlying63 Tryd.underlying5 Tryd.underlying9
      have hs2 := fun W => (string_at (UInt8.ofNat (48 + n % 10)) hq W _ (Below.refl _ _) : (convert 63 9 (.slice (some ⟨W.heap.size, 0, none⟩) 1 1)).run Tryd.prog (W.alloc (.cells #[.int .u8 (48 + (n : Int) % 10)] 5)).drew = .ok (.string (str [UInt8.ofNat (48 + n % 10)])) (W.alloc (.cells #[.int .u8 (48 + (n : Int) % 10)] 5)).drew)
      have HBT := Lib.hid (string_at (UInt8.ofNat (48 + n % 10)) hq w)
      have HD : Hid (str (Lib.decDigits (n / 10)) ++ str [UInt8.ofNat (48 + n % 10)] = str (Lib.decDigits n)) := Lib.hid (by rw [add_str]; conv => rhs; rw [Lib.decDigits, dif_neg h])
      have hl : (Lib.decDigits (n / 10)).length ≤ 40 := by
        have := Lib.itoa_length_le ((n / 10 : Nat) : Int) (by omega) (by omega)
        rw [Lib.itoa_nonneg] at this
        omega
      rw [← size_str] at hl
      generalize str (Lib.decDigits (n / 10)) = D at *
      generalize UInt8.ofNat (48 + n % 10) = c at *
      have hc : (str [c]).size = 1 := size_str [c]
      generalize str [c] = E at *
      have sm : ¬ (9223372036854775807 < D.size + E.size) := by omega
      have d1 : decide ((n : Int) < 10) = false := by simp; omega
      have htm : ((n : Int)).tmod 10 = (n : Int) % 10 := Int.tmod_eq_emod_of_nonneg (by omega)
      have hw1 : IntKind.i64.wrap ((n : Int) / 10) = (n : Int) / 10 := by rw [IntKind.wrap_i64]; omega
      have hw2 : IntKind.i64.wrap (48 + (n : Int) % 10) = 48 + (n : Int) % 10 := by rw [IntKind.wrap_i64]; omega
      have hw3 : IntKind.u8.wrap (48 + (n : Int) % 10) = 48 + (n : Int) % 10 := by rw [IntKind.wrap_u8]; omega
      clear ih hq hc
      go_enter Tryd.func18, Tryd.ntmps18
      go_wp2
      go_region_with (go_at_call 18; refine (HI.out _).mono ?_; rintro e w6 ⟨rfl, hb6⟩; try (have hcv := HBT.out _ hb6))
      all_goals (
        have hbe : Below w.heap.size w w6 := by
          first
          | exact below_then (below_drew (Below.refl w.heap.size w)) (Nat.le_refl _) hb6
          | exact below_then (below_drew (below_alloc (Below.refl w.heap.size w) _)) (by show w.heap.size ≤ (w.alloc _).heap.size; simp) hb6
        have HBE := Lib.hid hbe
        clear hbe hb6
        go_wp2
        go_ret
        exact ⟨by rw [HD.out]; rfl, by first | exact HBE.out | exact below_alloc HBE.out _⟩)
theorem neg_lit : (⟨#[45, 57, 50, 50, 51, 51, 55, 50, 48, 51, 54, 56, 53, 52, 55, 55, 53, 56, 48, 56]⟩ : ByteArray) = str (Lib.itoa (-9223372036854775808)) := by decide +kernel
set_option maxRecDepth 100000 in
set_option maxHeartbeats 800000 in
/-- Digits of any number. -/
theorem digits_calls (n : Int) (w : World) (hn : In64 n) : Calls Tryd.prog 18 #[.int .i64 n] w fun e w' => e = .returned (.string (str (Lib.itoa n))) ∧ Below w.heap.size w w' := by
  rcases (show n < 0 ∨ 0 ≤ n by omega) with h | h
  · by_cases hm : n = -9223372036854775808
    · subst hm
      have HL := Lib.hid neg_lit
      have HB := Lib.hid (Below.refl w.heap.size w)
      go_enter Tryd.func18, Tryd.ntmps18
      go_wp2
      go_ret
      exact ⟨by rw [← HL.out]; rfl, HB.out⟩
    · obtain ⟨u, rfl⟩ : ∃ u : Nat, n = -(u : Int) := ⟨n.natAbs, by omega⟩
      have hu := hn.1
      have hu2 : (u : Int) ≤ 9223372036854775807 := by omega
      have HD := Lib.hid (digits_nn u w (by omega))
      have HI : Hid (⟨#[45]⟩ ++ str (Lib.decDigits u) = str (Lib.itoa (-(u : Int)))) := Lib.hid (by rw [Lib.itoa_neg u (by omega)]; exact add_str [45] _)
      have hl := Lib.itoa_length_le (u : Int) (by omega) (by omega)
      rw [Lib.itoa_nonneg, ← size_str] at hl
      generalize str (Lib.decDigits u) = D at *
      have e0 : decide (-(u : Int) < 0) = true := by simp; omega
      have e1 : (-(u : Int) == -9223372036854775808) = false := by simpa using hm
      have sm : ¬ (9223372036854775807 < 1 + D.size) := by omega
      clear hm hn
      go_enter Tryd.func18, Tryd.ntmps18
      go_wp2_with (go_at_call 18; refine HD.out.mono ?_; rintro e w1 ⟨rfl, hb1⟩)
      go_ret
      exact ⟨by rw [← HI.out]; rfl, hb1⟩
  · obtain ⟨u, rfl⟩ : ∃ u : Nat, n = (u : Int) := ⟨n.natAbs, by omega⟩
    rw [Lib.itoa_nonneg]
    have := hn.2
    exact digits_nn u w (by omega)
end Go.Proofs.YtaenincbmlcjiaaDoor.Ref02
