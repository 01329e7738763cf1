/- crc's walks: Equal, Grow of nothing, Concat. -/
import Derived.Test.YtdcaoinhhdccoaaDoorCrcOpen
import Derived.Deep.QuietTactic
import Derived.BigQuiet
namespace Go.Proofs.YtdcaoinhhdccoaaDoor.CrcEq
open Go.RowKit Go.Proofs.YtdcaoinhhdccoaaDoorW.PrintWords
open Go.Proofs.YtdcaoinhhdccoaaDoor.Bits Go.Proofs.YtdcaoinhhdccoaaDoor.Base Go.Proofs.YtdcaoinhhdccoaaDoor.CrcPure Go.Proofs.YtdcaoinhhdccoaaDoor.CrcStep Go.Proofs.YtdcaoinhhdccoaaDoor.CrcGo Go.Proofs.YtdcaoinhhdccoaaDoor.CrcOpen

theorem eq_false_at {a b : List UInt8} (k : Nat) (ha : k < a.length) (hb : k < b.length) (h : ((a[k].toNat : Int) == (b[k].toNat : Int)) = false) : decide (a = b) = false := by
  refine decide_eq_false fun he => ?_
  subst he
  simp at h
theorem eq_true_all {a b : List UInt8} (hl : a.length = b.length) (h : a.take a.length = b.take a.length) : decide (a = b) = true := by
  rw [List.take_length, hl, List.take_length] at h
  exact decide_eq_true h
theorem take_step {a b : List UInt8} (k : Nat) (ha : k < a.length) (hb : k < b.length) (h : a.take k = b.take k) (he : ((a[k].toNat : Int) == (b[k].toNat : Int)) = true) : a.take (k + 1) = b.take (k + 1) := by
  rw [List.take_succ_eq_append_getElem ha, List.take_succ_eq_append_getElem hb, h]
  have : a[k].toNat = b[k].toNat := by simp at he; omega
  rw [UInt8.toNat.inj this]

set_option maxHeartbeats 800000 in
theorem equal_calls (A B : Option Addr) (c d : Nat) (a b : List UInt8) (w : World) (ha : RdB w A a) (hb : RdB w B b) :
    Calls Tryd.prog 26 #[.slice A a.length c, .slice B b.length d] w fun e w' => e = .returned (.bool (decide (a = b))) ∧ Drawn0 w w' := by
  have hma := ha.max
  have hmb := hb.max
  rw [ints_length] at hma hmb
  have HA := Lib.hid ha
  have HB := Lib.hid hb
  clear ha hb
  by_cases hl : a.length = b.length
  · have hlb : ((a.length : Int) != (b.length : Int)) = false := by simp [hl]
    have hlc : ((a.length : Int) == (b.length : Int)) = true := by simp [hl]
    have HL := Lib.hid hl
    clear hl
    go_enter Tryd.func26, Tryd.ntmps26
    go_wp2
    repeat (go_quiet (fail); try go_wp2)
    go_loopw [13] (fun i wr => ∃ k : Nat, k ≤ a.length ∧ i = .int .i64 k ∧ Hid (a.take k = b.take k) ∧ Drawn0 w wr) (fun i _ => a.length - (intOf i).toNat)
    case atStart => exact ⟨0, by omega, rfl, rfl, by repeat (first | exact Drawn0.refl _ | apply Drawn0.step)⟩
    case round =>
      obtain ⟨k, hk, rfl, ht, ⟨m, rfl⟩⟩ := hrel
      by_cases hlt : k < a.length
      · have hlt2 : k < b.length := by have := HL.out; omega
        obtain ⟨ad, rfl, hc⟩ := HA.out.at_ k hlt
        obtain ⟨bd, rfl, hd⟩ := HB.out.at_ k hlt2
        cases he : ((a[k].toNat : Int) == (b[k].toNat : Int)) with
        | true =>
          have HT := Lib.hid (take_step k hlt hlt2 ht.out he)
          have he2 : ((a[k].toNat : Int) != (b[k].toNat : Int)) = false := by simpa using he
          clear ht
          go_wp2
          repeat (go_quiet (fail); try go_wp2)
          go_roundw
          case rel => exact ⟨k + 1, by omega, by go_num, HT, by repeat (first | exact Drawn0.refl _ | apply Drawn0.step)⟩
          case measure => simp [intOf]; omega
        | false =>
          have HT := Lib.hid (eq_false_at k hlt hlt2 he)
          have he2 : ((a[k].toNat : Int) != (b[k].toNat : Int)) = true := by simpa using he
          clear ht
          go_wp2
          repeat (go_quiet (fail); try go_wp2)
          go_ret
          exact ⟨by rw [HT.out]; rfl, by repeat (first | exact Drawn0.refl _ | apply Drawn0.step)⟩
      · obtain rfl : k = a.length := by omega
        have HT := Lib.hid (eq_true_all HL.out ht.out)
        clear ht
        go_wp2
        repeat (go_quiet (fail); try go_wp2)
        go_ret
        exact ⟨by rw [HT.out]; rfl, by repeat (first | exact Drawn0.refl _ | apply Drawn0.step)⟩
  · have hlb : ((a.length : Int) != (b.length : Int)) = true := by simp; omega
    have hlc : ((a.length : Int) == (b.length : Int)) = false := by simp; omega
    have HT := Lib.hid (show decide (a = b) = false from decide_eq_false fun h => hl (by rw [h]))
    clear hl
    go_enter Tryd.func26, Tryd.ntmps26
    go_wp2
    repeat (go_quiet (fail); try go_wp2)
    go_ret
    exact ⟨by rw [HT.out]; rfl, by repeat (first | exact Drawn0.refl _ | apply Drawn0.step)⟩

theorem own_zeros {w : World} {base c : Nat} {cs : Array Value} (hb : base ≤ w.heap.size) (hc : c ≤ 9223372036854775807) (hs : cs.size = c) :
    OwB 5 (w.alloc (.cells cs 5)) base (.slice (some ⟨w.heap.size, 0, none⟩) 0 c) [] := by
  have := World.ownsRow_made (e := 5) (size := 1) (base := base) w cs c hb (by simpa [maxLen] using hc) (by omega)
  exact this

set_option maxHeartbeats 400000 in
theorem grow_nil (n : Nat) (w : World) (hn : n ≤ 140737488355328) :
    Calls Tryd.prog 29 #[.slice none 0 0, .int .i64 n] w fun e w' => ∃ v, e = .returned v ∧ OwB 5 w' w.heap.size v [] ∧ Below w.heap.size w w' := by
  obtain ⟨i0, hi, hz0, hz1, hz2⟩ := info_parts info
  by_cases h0 : n = 0
  · subst h0
    go_enter Tryd.func29, Tryd.ntmps29
    go_wp2
    go_ret
    exact ⟨_, rfl, OwI.nil _ _ _ _, Below.refl _ _⟩
  · have hrz : ∀ ty, (Builtin.append_ #[22, 3] ty #[.slice none 0 0, .int .i64 (n : Int)]).run Tryd.prog w =
        .ok (.slice (some ⟨w.heap.size, 0, none⟩) (0 + n) (grownCap w (0 + n) 0 5)) (w.drew.alloc (.cells (([] : List Value).toArray ++ Builtin.zeroCells (Value.int .u8 0).cells n ++ Builtin.zeroCells (Value.int .u8 0).cells (grownCap w (0 + n) 0 5 - (0 + n))) 5)) := fun ty =>
      Lib.run_append_grow_zeros w 22 3 ty 5 i0 (.int .u8 0) .i64 .i64 Tryd.underlying22 Tryd.underlying3 hi hz0 none 0 0 [] (by rw [hz1]; exact run_firstCells_none w.drew 1 0 0 0) n (by omega) (by omega) (by omega) (by omega) (by rw [hz2]; omega) (by rw [hz2]; exact growslice_fits (by omega) (by omega))
    obtain ⟨G, hG⟩ : ∃ G, G = grownCap w (0 + n) 0 5 := ⟨_, rfl⟩
    have hGn : n ≤ G := by have := grownCap_ge w (0 + n) 0 5; omega
    have hG63 : G ≤ 9223372036854775807 := by
      have := grownCap_le_maxLen w (0 + n) 0 5 (by unfold maxLen; omega)
      rw [← hG] at this
      unfold maxLen at this
      omega
    rw [← hG] at hrz
    clear hG
    have h1 : decide ((n : Int) < 0) = false := by simp
    have h2 : decide ((n : Int) > 0) = true := by simp; omega
    have h3 : decide (0 < (n : Int)) = true := by simp; omega
    obtain ⟨Z, hZ⟩ : ∃ Z, Z = (([] : List Value).toArray ++ Builtin.zeroCells (Value.int .u8 0).cells n ++ Builtin.zeroCells (Value.int .u8 0).cells (G - (0 + n))) := ⟨_, rfl⟩
    have hZs : Z.size = G := by rw [hZ]; simp [Builtin.zeroCells, Value.cells]; omega
    rw [← hZ] at hrz
    have HZ := Lib.hid hZs
    clear hZ hZs
    go_enter Tryd.func29, Tryd.ntmps29
    go_wp2_with (at_builtin; refine Lib.wpList_append_run _ rfl _ _ _ _ rfl _ _ rfl rfl _ _ (hrz _) ?_)
    go_ret
    exact ⟨_, rfl, own_zeros (w := w.drew) (Nat.le_refl _) hG63 HZ.out, below_alloc (w := w) (below_drew (Below.refl _ _)) _⟩
end Go.Proofs.YtdcaoinhhdccoaaDoor.CrcEq
