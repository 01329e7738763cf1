/- varbit's walks: the table, groups, sizes. -/
import Derived.Test.YtjfekjbmgckkcaaGreatDoorStreamBit
import Derived.Test.YtjfekjbmgckkcaaGreatDoorStreamR
import Derived.Test.YtjfekjbmgckkcaaGreatDoorVarPure
import Derived.Test.YtjfekjbmgckkcaaGreatDoorLawBase
import Derived.Test.YtjfekjbmgckkcaaGreatDoorRows
namespace Go.Proofs.YtjfekjbmgckkcaaGreatDoor.VarbitA
open Go.RowKit Go.Proofs.YtjfekjbmgckkcaaGreatDoorW.PrintWords
open Go.Proofs.YtjfekjbmgckkcaaGreatDoor.Bits Go.Proofs.YtjfekjbmgckkcaaGreatDoor.Base Go.Proofs.YtjfekjbmgckkcaaGreatDoor.VarPure

/-- the table of what stands behind each group's ones, as its initialiser lays it. -/
def Tab (w : World) : Prop := ∀ j, j < 9 → w.cell? ⟨1, j, none⟩ = some (.int .i64 (behind j))
theorem Tab.below {w w1 : World} (h : Tab w) (hb : Below w.heap.size w w1) : Tab w1 := fun j hj => pw_cell_below hb (h j hj)
theorem Tab.lt {w : World} (h : Tab w) : 1 < w.heap.size := World.block_lt_of_cell? w _ (h 0 (by decide))
theorem Tab.ch {S : Nat → Prop} {w w1 : World} (h : Tab w) (hc : Ch S w w1) (hs : ¬ S 1) : Tab w1 := fun j hj => hc.cell (h j hj) hs
theorem Tab.drewN {w : World} (h : Tab w) (n : Nat) : Tab (w.drewN n) := h
theorem gTab : Tryz.prog.globalNamed "tidepole/varbit.behinds" = some 1 := by kernel_rfl
theorem tTab : (Tryz.prog.globals[1]?).map (·.type) = some 269 := by kernel_rfl
theorem cTab : Tryz.prog.cellsOf 269 = 9 := by kernel_rfl
theorem cEl : Tryz.prog.cellsOf 3 = 1 := by kernel_rfl
theorem tab_of {w : World} (h : laidMetH Tryz.prog [("tidepole/varbit.behinds", Rows.laid_tidepole_varbit_behinds)] w) : Tab w := by
  rw [MakeChecks.laidMetH_plain _ _ _ (by kernel_rfl)] at h
  have h2 : laidMet Tryz.prog [("tidepole/varbit.behinds", Lib.tabData .i64 ([0, 3, 6, 9, 12, 18, 25, 56, 64].map Int.ofNat))] w := h
  have hv := Lib.tabIs_of_head gTab tTab Tryz.underlying269 Tryz.underlying3 cEl cTab h2
  intro j hj
  have := World.var?_cell gTab hv j
  rw [this]
  have : j = 0 ∨ j = 1 ∨ j = 2 ∨ j = 3 ∨ j = 4 ∨ j = 5 ∨ j = 6 ∨ j = 7 ∨ j = 8 := by omega
  rcases this with rfl | rfl | rfl | rfl | rfl | rfl | rfl | rfl | rfl <;> rfl

set_option maxHeartbeats 400000 in
theorem behind_calls (g : Nat) (w : World) (hT : Tab w) (hg : g < 9) :
    Calls Tryz.prog 200 #[.int .i64 g] w fun e w' => e = .returned (.int .i64 (behind g)) ∧ w = w' := by
  have hc := hT g hg
  obtain ⟨b, hb⟩ : ∃ b, b = behind g := ⟨_, rfl⟩
  rw [← hb] at hc ⊢
  clear hT hb
  go_enter Tryz.func200, Tryz.ntmps200
  go_wp2
  go_ret
  exact ⟨rfl, rfl⟩

set_option maxHeartbeats 400000 in
theorem size_calls (g : Nat) (w : World) (hT : Tab w) (hg : g < 9) :
    Calls Tryz.prog 215 #[.int .i64 g] w fun e w' => e = .returned (.int .i64 (front g + behind g : Nat)) ∧ w = w' := by
  have HB := Lib.hid (behind_calls g w hT hg)
  have h64 := behind_le (g := g)
  obtain ⟨b, hb⟩ : ∃ b, b = behind g := ⟨_, rfl⟩
  rw [← hb] at HB h64 ⊢
  clear hT hb
  go_enter Tryz.func215, Tryz.ntmps215
  go_wp2_with (go_at_call 200; refine HB.out.mono ?_; rintro e w' ⟨rfl, rfl⟩)
  all_goals
    go_ret
    refine ⟨?_, rfl⟩
    unfold front
    split <;> go_num

set_option maxHeartbeats 1600000 in
theorem fits_calls (g : Nat) (v : Int) (w : World) (hg : g < 9) (h1 : -9223372036854775808 ≤ v) (h2 : v ≤ 9223372036854775807) :
    Calls Tryz.prog 201 #[.int .i64 v, .int .i64 (behind g)] w fun e w' => e = .returned (.bool (fits v (behind g))) ∧ w = w' := by
  have : g = 0 ∨ g = 1 ∨ g = 2 ∨ g = 3 ∨ g = 4 ∨ g = 5 ∨ g = 6 ∨ g = 7 ∨ g = 8 := by omega
  rcases this with rfl | rfl | rfl | rfl | rfl | rfl | rfl | rfl | rfl
  · rw [show behind 0 = 0 from rfl, fits, if_pos rfl]
    by_cases h : v = 0
    · subst h
      go_enter Tryz.func201, Tryz.ntmps201
      go_wp2
      go_ret
      exact ⟨rfl, rfl⟩
    · have hd : (v == 0) = false := by simpa using h
      rw [decide_eq_false h]
      go_enter Tryz.func201, Tryz.ntmps201
      go_wp2
      go_ret
      exact ⟨rfl, rfl⟩
  · rw [show behind 1 = 3 from rfl, fits, if_neg (by decide), if_neg (by decide), show ((2 : Int) ^ (3 - 1)) = 4 from rfl]
    by_cases ha : -4 < v
    · have d1 : decide (v > -4) = true := by simp; omega
      have d1' : decide (-4 < v) = true := by simp; omega
      by_cases hb : v ≤ 4
      · have d2 : decide (v ≤ 4) = true := by simp; omega
        rw [decide_eq_true ⟨ha, hb⟩]
        go_enter Tryz.func201, Tryz.ntmps201
        go_wp2
        go_ret
        exact ⟨rfl, rfl⟩
      · have d2 : decide (v ≤ 4) = false := by simp; omega
        rw [decide_eq_false fun h => hb h.2]
        go_enter Tryz.func201, Tryz.ntmps201
        go_wp2
        go_ret
        exact ⟨rfl, rfl⟩
    · have d1 : decide (v > -4) = false := by simp; omega
      have d1' : decide (-4 < v) = false := by simp; omega
      rw [decide_eq_false fun h => ha h.1]
      go_enter Tryz.func201, Tryz.ntmps201
      go_wp2
      go_ret
      exact ⟨rfl, rfl⟩
  · rw [show behind 2 = 6 from rfl, fits, if_neg (by decide), if_neg (by decide), show ((2 : Int) ^ (6 - 1)) = 32 from rfl]
    by_cases ha : -32 < v
    · have d1 : decide (v > -32) = true := by simp; omega
      have d1' : decide (-32 < v) = true := by simp; omega
      by_cases hb : v ≤ 32
      · have d2 : decide (v ≤ 32) = true := by simp; omega
        rw [decide_eq_true ⟨ha, hb⟩]
        go_enter Tryz.func201, Tryz.ntmps201
        go_wp2
        go_ret
        exact ⟨rfl, rfl⟩
      · have d2 : decide (v ≤ 32) = false := by simp; omega
        rw [decide_eq_false fun h => hb h.2]
        go_enter Tryz.func201, Tryz.ntmps201
        go_wp2
        go_ret
        exact ⟨rfl, rfl⟩
    · have d1 : decide (v > -32) = false := by simp; omega
      have d1' : decide (-32 < v) = false := by simp; omega
      rw [decide_eq_false fun h => ha h.1]
      go_enter Tryz.func201, Tryz.ntmps201
      go_wp2
      go_ret
      exact ⟨rfl, rfl⟩
  · rw [show behind 3 = 9 from rfl, fits, if_neg (by decide), if_neg (by decide), show ((2 : Int) ^ (9 - 1)) = 256 from rfl]
    by_cases ha : -256 < v
    · have d1 : decide (v > -256) = true := by simp; omega
      have d1' : decide (-256 < v) = true := by simp; omega
      by_cases hb : v ≤ 256
      · have d2 : decide (v ≤ 256) = true := by simp; omega
        rw [decide_eq_true ⟨ha, hb⟩]
        go_enter Tryz.func201, Tryz.ntmps201
        go_wp2
        go_ret
        exact ⟨rfl, rfl⟩
      · have d2 : decide (v ≤ 256) = false := by simp; omega
        rw [decide_eq_false fun h => hb h.2]
        go_enter Tryz.func201, Tryz.ntmps201
        go_wp2
        go_ret
        exact ⟨rfl, rfl⟩
    · have d1 : decide (v > -256) = false := by simp; omega
      have d1' : decide (-256 < v) = false := by simp; omega
      rw [decide_eq_false fun h => ha h.1]
      go_enter Tryz.func201, Tryz.ntmps201
      go_wp2
      go_ret
      exact ⟨rfl, rfl⟩
  · rw [show behind 4 = 12 from rfl, fits, if_neg (by decide), if_neg (by decide), show ((2 : Int) ^ (12 - 1)) = 2048 from rfl]
    by_cases ha : -2048 < v
    · have d1 : decide (v > -2048) = true := by simp; omega
      have d1' : decide (-2048 < v) = true := by simp; omega
      by_cases hb : v ≤ 2048
      · have d2 : decide (v ≤ 2048) = true := by simp; omega
        rw [decide_eq_true ⟨ha, hb⟩]
        go_enter Tryz.func201, Tryz.ntmps201
        go_wp2
        go_ret
        exact ⟨rfl, rfl⟩
      · have d2 : decide (v ≤ 2048) = false := by simp; omega
        rw [decide_eq_false fun h => hb h.2]
        go_enter Tryz.func201, Tryz.ntmps201
        go_wp2
        go_ret
        exact ⟨rfl, rfl⟩
    · have d1 : decide (v > -2048) = false := by simp; omega
      have d1' : decide (-2048 < v) = false := by simp; omega
      rw [decide_eq_false fun h => ha h.1]
      go_enter Tryz.func201, Tryz.ntmps201
      go_wp2
      go_ret
      exact ⟨rfl, rfl⟩
  · rw [show behind 5 = 18 from rfl, fits, if_neg (by decide), if_neg (by decide), show ((2 : Int) ^ (18 - 1)) = 131072 from rfl]
    by_cases ha : -131072 < v
    · have d1 : decide (v > -131072) = true := by simp; omega
      have d1' : decide (-131072 < v) = true := by simp; omega
      by_cases hb : v ≤ 131072
      · have d2 : decide (v ≤ 131072) = true := by simp; omega
        rw [decide_eq_true ⟨ha, hb⟩]
        go_enter Tryz.func201, Tryz.ntmps201
        go_wp2
        go_ret
        exact ⟨rfl, rfl⟩
      · have d2 : decide (v ≤ 131072) = false := by simp; omega
        rw [decide_eq_false fun h => hb h.2]
        go_enter Tryz.func201, Tryz.ntmps201
        go_wp2
        go_ret
        exact ⟨rfl, rfl⟩
    · have d1 : decide (v > -131072) = false := by simp; omega
      have d1' : decide (-131072 < v) = false := by simp; omega
      rw [decide_eq_false fun h => ha h.1]
      go_enter Tryz.func201, Tryz.ntmps201
      go_wp2
      go_ret
      exact ⟨rfl, rfl⟩
  · rw [show behind 6 = 25 from rfl, fits, if_neg (by decide), if_neg (by decide), show ((2 : Int) ^ (25 - 1)) = 16777216 from rfl]
    by_cases ha : -16777216 < v
    · have d1 : decide (v > -16777216) = true := by simp; omega
      have d1' : decide (-16777216 < v) = true := by simp; omega
      by_cases hb : v ≤ 16777216
      · have d2 : decide (v ≤ 16777216) = true := by simp; omega
        rw [decide_eq_true ⟨ha, hb⟩]
        go_enter Tryz.func201, Tryz.ntmps201
        go_wp2
        go_ret
        exact ⟨rfl, rfl⟩
      · have d2 : decide (v ≤ 16777216) = false := by simp; omega
        rw [decide_eq_false fun h => hb h.2]
        go_enter Tryz.func201, Tryz.ntmps201
        go_wp2
        go_ret
        exact ⟨rfl, rfl⟩
    · have d1 : decide (v > -16777216) = false := by simp; omega
      have d1' : decide (-16777216 < v) = false := by simp; omega
      rw [decide_eq_false fun h => ha h.1]
      go_enter Tryz.func201, Tryz.ntmps201
      go_wp2
      go_ret
      exact ⟨rfl, rfl⟩
  · rw [show behind 7 = 56 from rfl, fits, if_neg (by decide), if_neg (by decide), show ((2 : Int) ^ (56 - 1)) = 36028797018963968 from rfl]
    by_cases ha : -36028797018963968 < v
    · have d1 : decide (v > -36028797018963968) = true := by simp; omega
      have d1' : decide (-36028797018963968 < v) = true := by simp; omega
      by_cases hb : v ≤ 36028797018963968
      · have d2 : decide (v ≤ 36028797018963968) = true := by simp; omega
        rw [decide_eq_true ⟨ha, hb⟩]
        go_enter Tryz.func201, Tryz.ntmps201
        go_wp2
        go_ret
        exact ⟨rfl, rfl⟩
      · have d2 : decide (v ≤ 36028797018963968) = false := by simp; omega
        rw [decide_eq_false fun h => hb h.2]
        go_enter Tryz.func201, Tryz.ntmps201
        go_wp2
        go_ret
        exact ⟨rfl, rfl⟩
    · have d1 : decide (v > -36028797018963968) = false := by simp; omega
      have d1' : decide (-36028797018963968 < v) = false := by simp; omega
      rw [decide_eq_false fun h => ha h.1]
      go_enter Tryz.func201, Tryz.ntmps201
      go_wp2
      go_ret
      exact ⟨rfl, rfl⟩
  · rw [show behind 8 = 64 from rfl, fits, if_neg (by decide), if_pos rfl]
    go_enter Tryz.func201, Tryz.ntmps201
    go_wp2
    go_ret
    exact ⟨rfl, rfl⟩

theorem groupS_calls (v : Int) (w : World) (hT : Tab w) (h1 : -9223372036854775808 ≤ v) (h2 : v ≤ 9223372036854775807) :
    Calls Tryz.prog 148 #[.int .i64 v] w fun e w' => e = .returned (.int .i64 (gS v)) ∧ w = w' := by
  have H8 := Lib.hid (first_le fun g => fits v (behind g))
  have HLT := Lib.hid (fun i (h : i < gS v) => first_lt (p := fun g => fits v (behind g)) h)
  have HAT := Lib.hid (fun (h : gS v < 8) => first_at (p := fun g => fits v (behind g)) h)
  have HB := Lib.hid (fun g (hg : g < 9) => behind_calls g w hT hg)
  have HF := Lib.hid (fun g (hg : g < 9) => fits_calls g v w hg h1 h2)
  clear hT
  go_enter Tryz.func148, Tryz.ntmps148
  go_wp2
  go_loop [3] (fun i => ∃ k : Nat, k ≤ gS v ∧ i = .int .i64 k) (fun i => 9 - (intOf i).toNat)
  case atStart => exact ⟨0, by omega, rfl⟩
  case round =>
    obtain ⟨k, hk, rfl⟩ := hrel
    have h8 : gS v ≤ 8 := H8.out
    have HBk := Lib.hid (HB.out k (by omega))
    by_cases hlt : k < gS v
    · have HFk : Hid (Calls Tryz.prog 201 #[.int .i64 v, .int .i64 (behind k)] w fun e w' => e = .returned (.bool false) ∧ w = w') := by
        have := HF.out k (by omega)
        rw [show fits v (behind k) = false from HLT.out k hlt] at this
        exact this
      go_wp2_with (first | (go_at_call 200; refine HBk.out.mono ?_; rintro e w' ⟨rfl, rfl⟩) | (go_at_call 201; refine HFk.out.mono ?_; rintro e w' ⟨rfl, rfl⟩))
      go_round
      case rel => exact ⟨k + 1, by omega, by go_num⟩
      case measure => simp [intOf]; omega
    · obtain rfl : k = gS v := by omega
      have HFk : Hid (Calls Tryz.prog 201 #[.int .i64 v, .int .i64 (behind (gS v))] w fun e w' => e = .returned (.bool true) ∧ w = w') := by
        have := HF.out (gS v) (by omega)
        rw [show fits v (behind (gS v)) = true from ?_] at this
        · exact this
        · rcases Nat.lt_or_ge (gS v) 8 with h | h
          · exact HAT.out h
          · rw [show gS v = 8 from by omega]; rfl
      obtain ⟨g, hg⟩ : ∃ g, g = gS v := ⟨_, rfl⟩
      rw [← hg] at HFk HBk ⊢
      have HG := Lib.hid hg
      clear hg HAT HLT H8 HB HF
      go_wp2_with (first | (go_at_call 200; refine HBk.out.mono ?_; rintro e w' ⟨rfl, rfl⟩) | (go_at_call 201; refine HFk.out.mono ?_; rintro e w' ⟨rfl, rfl⟩))
      go_ret
      exact ⟨by rw [← HG.out]; rfl, rfl⟩

theorem groupU_calls (x : Nat) (w : World) (hT : Tab w) (hx : x < 18446744073709551616) :
    Calls Tryz.prog 203 #[.int .u64 x] w fun e w' => e = .returned (.int .i64 (gU x)) ∧ w = w' := by
  have H8 := Lib.hid (first_le fun g => decide (x < 2 ^ behind g))
  have HLT := Lib.hid (fun i (h : i < gU x) => first_lt (p := fun g => decide (x < 2 ^ behind g)) h)
  have HAT := Lib.hid (fun (h : gU x < 8) => first_at (p := fun g => decide (x < 2 ^ behind g)) h)
  have HB := Lib.hid (fun g (hg : g < 9) => behind_calls g w hT hg)
  have HB0 := Lib.hid (HB.out 0 (by decide))
  have HX := Lib.hid hx
  clear hT hx
  go_enter Tryz.func203, Tryz.ntmps203
  go_wp2_with (go_at_call 200; refine HB0.out.mono ?_; rintro e w' ⟨rfl, rfl⟩)
  go_loop [3, 4] (fun i n => ∃ k : Nat, k ≤ gU x ∧ i = .int .i64 k ∧ n = .int .i64 (behind k)) (fun i _ => 9 - (intOf i).toNat)
  case atStart => exact ⟨0, by omega, rfl, rfl⟩
  case round =>
    obtain ⟨k, hk, rfl, rfl⟩ := hrel
    have h8 : gU x ≤ 8 := H8.out
    by_cases hlt : k < gU x
    · have HBk := Lib.hid (HB.out (k + 1) (by omega))
      have hb := behind_lt (g := k) (by omega)
      have hx2 : ¬ x < 2 ^ behind k := of_decide_eq_false (HLT.out k hlt)
      have hq : 0 < x / 2 ^ behind k := Nat.div_pos (by omega) (Nat.two_pow_pos _)
      obtain ⟨b, hbb⟩ : ∃ b, b = behind k := ⟨_, rfl⟩
      rw [← hbb] at hb hq ⊢
      have hqi : 0 < (x : Int) / 2 ^ b := by
        have : (x : Int) / 2 ^ b = ((x / 2 ^ b : Nat) : Int) := by simp
        rw [this]; omega
      have d1 : decide ((b : Int) < 64) = true := by simp; omega
      have d1n : decide (b < 64) = true := by simp; omega
      have d2 : decide ((x : Int) / 2 ^ b > 0) = true := decide_eq_true hqi
      have d2' : decide (0 < (x : Int) / 2 ^ b) = true := decide_eq_true hqi
      clear hx2 hbb
      go_wp2_with (go_at_call 200; refine HBk.out.mono ?_; rintro e w' ⟨rfl, rfl⟩)
      go_round
      case rel => exact ⟨k + 1, by omega, by go_num, rfl⟩
      case measure => simp [intOf]; omega
    · obtain rfl : k = gU x := by omega
      obtain ⟨g, hg⟩ : ∃ g, g = gU x := ⟨_, rfl⟩
      rcases Nat.lt_or_ge (gU x) 8 with h | h
      · have hb := behind_lt h
        have hx2 : x < 2 ^ behind (gU x) := of_decide_eq_true (HAT.out h)
        rw [← hg] at hb hx2 ⊢
        obtain ⟨b, hbb⟩ : ∃ b, b = behind g := ⟨_, rfl⟩
        rw [← hbb] at hb hx2 ⊢
        have hqi : (x : Int) / 2 ^ b = 0 := by
          have : (x : Int) / 2 ^ b = ((x / 2 ^ b : Nat) : Int) := by simp
          rw [this, Nat.div_eq_of_lt hx2]; rfl
        have d1 : decide ((b : Int) < 64) = true := by simp; omega
        have d1n : decide (b < 64) = true := by simp; omega
        have d2 : decide ((x : Int) / 2 ^ b > 0) = false := by rw [hqi]; rfl
        have d2' : decide (0 < (x : Int) / 2 ^ b) = false := by rw [hqi]; rfl
        have HG := Lib.hid hg
        clear hg hx2 hbb hqi
        go_wp2
        go_ret
        exact ⟨by rw [← HG.out]; rfl, rfl⟩
      · have h88 : g = 8 := by omega
        rw [← hg, h88, show behind 8 = 64 from rfl]
        have HG := Lib.hid (hg.symm.trans h88)
        clear hg h88 h
        go_wp2
        go_ret
        exact ⟨by rw [HG.out]; rfl, rfl⟩

theorem lenS_calls (v : Int) (w : World) (hT : Tab w) (h1 : -9223372036854775808 ≤ v) (h2 : v ≤ 9223372036854775807) :
    Calls Tryz.prog 172 #[.int .i64 v] w fun e w' => e = .returned (.int .i64 (encS v).length) ∧ w = w' := by
  rw [encS_length]
  have HG := Lib.hid (groupS_calls v w hT h1 h2)
  have h8 : gS v ≤ 8 := first_le _
  have HS := Lib.hid (size_calls (gS v) w hT (by omega))
  clear hT
  go_enter Tryz.func172, Tryz.ntmps172
  go_wp2_with (first | (go_at_call 148; refine HG.out.mono ?_; rintro e w' ⟨rfl, rfl⟩) | (go_at_call 215; refine HS.out.mono ?_; rintro e w' ⟨rfl, rfl⟩))
  go_ret
  exact ⟨rfl, rfl⟩
theorem lenU_calls (x : Nat) (w : World) (hT : Tab w) (hx : x < 18446744073709551616) :
    Calls Tryz.prog 174 #[.int .u64 x] w fun e w' => e = .returned (.int .i64 (encU x).length) ∧ w = w' := by
  rw [encU_length]
  have HG := Lib.hid (groupU_calls x w hT hx)
  have h8 : gU x ≤ 8 := first_le _
  have HS := Lib.hid (size_calls (gU x) w hT (by omega))
  clear hT
  go_enter Tryz.func174, Tryz.ntmps174
  go_wp2_with (first | (go_at_call 203; refine HG.out.mono ?_; rintro e w' ⟨rfl, rfl⟩) | (go_at_call 215; refine HS.out.mono ?_; rintro e w' ⟨rfl, rfl⟩))
  go_ret
  exact ⟨rfl, rfl⟩
end Go.Proofs.YtjfekjbmgckkcaaGreatDoor.VarbitA
