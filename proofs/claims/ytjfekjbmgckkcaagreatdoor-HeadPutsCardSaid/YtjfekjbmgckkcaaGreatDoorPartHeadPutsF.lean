/- what HeadPuts stands on, part 6: Ref12, Ref14A, Law14C, Law14D, Ref14B, HeadLaid, HdArg, HeadPuts. -/
import Derived.Test.YtjfekjbmgckkcaaGreatDoorPartHeadPutsE
import Derived.Test.YtjfekjbmgckkcaaGreatDoorPartHeadPutsD
import Derived.OwnWalk
import Derived.Deep.RegionHeld3
import Derived.Test.YtjfekjbmgckkcaaGreatDoorPartHeadPutsC
import Derived.Test.YtjfekjbmgckkcaaGreatDoorPartHeadPutsB
import Derived.Test.YtjfekjbmgckkcaaGreatDoorRows
import Derived.LaidMore
import Derived.Lib.LaidTab
import Derived.Stop.LaidErr
import Derived.Test.YtjfekjbmgckkcaaGreatDoorPartHeadPutsA

/- the references of layers 9 and 12: a head's schema and threshold; a threshold's byte, its bits, and a reading of them. -/
namespace Go.Proofs.YtjfekjbmgckkcaaGreatDoor.Ref12
open Go.RowKit Go.Proofs.YtjfekjbmgckkcaaGreatDoorW.PrintWords
open Go.Proofs.YtjfekjbmgckkcaaGreatDoor.Bits Go.Proofs.YtjfekjbmgckkcaaGreatDoor.Base Go.Proofs.YtjfekjbmgckkcaaGreatDoor.VarPure Go.Proofs.YtjfekjbmgckkcaaGreatDoor.ThrPure Go.Proofs.YtjfekjbmgckkcaaGreatDoor.HeadA Go.Proofs.YtjfekjbmgckkcaaGreatDoor.HeadK Go.Proofs.YtjfekjbmgckkcaaGreatDoor.Ref01

theorem results_cell1 {fn : Func} {p : Tmp} {ty : TypeId} (h : fn.results = #[.cell p ty]) (tmps : Array Value) (P : Program) (w : World) :
    (results fn tmps).run P w = ((asAddr (tmps.getD p undef)).run P w).andThen fun a w₁ => (loadVar ty a).run P w₁ := by
  simp only [results, h]
  simp [Sem.run_bind, Result.andThen]
  try (split <;> rfl)
theorem results_ttc {fn : Func} {p u v : Tmp} {ty : TypeId} (h : fn.results = #[.tmp u, .tmp v, .cell p ty]) (tmps : Array Value) (P : Program) (w : World) :
    (results fn tmps).run P w = ((asAddr (tmps.getD p undef)).run P w).andThen fun a w₁ => ((loadVar ty a).run P w₁).andThen fun x w₂ => .ok (.tuple #[tmps.getD u undef, tmps.getD v undef, x]) w₂ := by
  simp only [results, h]
  simp [Sem.run_bind, Result.andThen]
  try (split <;> rfl)
theorem results_ctc {fn : Func} {p r v : Tmp} {ty ty2 : TypeId} (h : fn.results = #[.cell p ty, .tmp v, .cell r ty2]) (tmps : Array Value) (P : Program) (w : World) :
    (results fn tmps).run P w = ((asAddr (tmps.getD p undef)).run P w).andThen fun a w₁ => ((loadVar ty a).run P w₁).andThen fun x w₂ =>
      ((asAddr (tmps.getD r undef)).run P w₂).andThen fun b w₃ => ((loadVar ty2 b).run P w₃).andThen fun y w₄ => .ok (.tuple #[x, tmps.getD v undef, y]) w₄ := by
  simp only [results, h]
  simp [Sem.run_bind, Result.andThen]
  try (split <;> rfl)
theorem cut_lo {P : Program} (t : TypeId) (ht : P.underlying t = some .string) (s : ByteArray) (l : List Bool) (n : Nat) (hs : s = txt l) (h : n ≤ l.length) (w : World) : (Instr.slice t (.string s) none (some (.int .i64 n)) none).run P w = .ok (.string (txt (l.take n))) w := by
  subst hs
  rw [run_slice_string_h w t _ ht .i64 _ (Int.natCast_nonneg _) (by rw [txt_size]; omega), Int.toNat_natCast, extract_txt, List.drop_zero, Nat.sub_zero]
theorem cut_hi {P : Program} (t : TypeId) (ht : P.underlying t = some .string) (s : ByteArray) (l : List Bool) (n : Nat) (hs : s = txt l) (h : n ≤ l.length) (w : World) : (Instr.slice t (.string s) (some (.int .i64 n)) none none).run P w = .ok (.string (txt (l.drop n))) w := by
  subst hs
  rw [run_slice_string_l w t _ ht .i64 _ (Int.natCast_nonneg _) (by rw [txt_size]; omega), Int.toNat_natCast, extract_txt, txt_size, List.take_of_length_le (by rw [List.length_drop]; omega)]
theorem cut_mid {P : Program} (t : TypeId) (ht : P.underlying t = some .string) (s : ByteArray) (l : List Bool) (i j : Nat) (hs : s = txt l) (h1 : i ≤ j) (h2 : j ≤ l.length) (w : World) : (Instr.slice t (.string s) (some (.int .i64 i)) (some (.int .i64 j)) none).run P w = .ok (.string (txt ((l.drop i).take (j - i)))) w := by
  subst hs
  rw [Ref04.cut_str t ht _ _ _ (Int.natCast_nonneg _) (by omega) (by rw [txt_size]; omega), Int.toNat_natCast, Int.toNat_natCast, extract_txt]
def headE (s : Int) (z : Nat) : Nat := if s < -4 ∨ 8 < s then 21 else if thrOk z then 0 else 11
theorem headE_s (s : Int) : headE s 0 = shapeE s := by unfold headE shapeE; split <;> rfl
theorem headE_z (z : Nat) : headE 0 z = if thrOk z then 0 else 11 := rfl
theorem Head_calls (s : Int) (z : Nat) (w : World) : Calls Tryz.prog 76 #[.int .i64 s, .int .u64 z] w fun e w' => e = .returned (.int .i64 (headE s z)) ∧ w = w' := by
  by_cases h1 : s < -4
  · have HE : Hid (headE s z = 21) := Lib.hid (if_pos (.inl h1))
    have d1 : decide (s < -4) = true := decide_eq_true h1
    clear h1
    go_enter Tryz.func76, Tryz.ntmps76
    go_wp2
    go_ret
    exact ⟨by rw [HE.out]; rfl, rfl⟩
  · have d1 : decide (s < -4) = false := decide_eq_false h1
    by_cases h2 : 8 < s
    · have HE : Hid (headE s z = 21) := Lib.hid (if_pos (.inr h2))
      have d2 : decide (s > 8) = true := decide_eq_true h2
      have d2' : decide (8 < s) = true := decide_eq_true h2
      clear h1 h2
      go_enter Tryz.func76, Tryz.ntmps76
      go_wp2
      go_ret
      exact ⟨by rw [HE.out]; rfl, rfl⟩
    · have d2 : decide (s > 8) = false := decide_eq_false h2
      have d2' : decide (8 < s) = false := decide_eq_false h2
      by_cases h3 : z < 9218868437227405312
      · have HE : Hid (headE s z = 0) := Lib.hid (by unfold headE; rw [if_neg (by omega), if_pos (show thrOk z = true from decide_eq_true h3)])
        have d3 : decide ((z : Int) ≥ 9218868437227405312) = false := by simp; omega
        have d3' : decide (9218868437227405312 ≤ (z : Int)) = false := by simp; omega
        have d3n : decide (9218868437227405312 ≤ z) = false := by simp; omega
        clear h1 h2 h3
        go_enter Tryz.func76, Tryz.ntmps76
        go_wp2
        go_ret
        exact ⟨by rw [HE.out]; rfl, rfl⟩
      · have HE : Hid (headE s z = 11) := Lib.hid (by unfold headE; rw [if_neg (by omega), if_neg (by unfold thrOk; rw [decide_eq_true_eq]; exact h3)])
        have d3 : decide ((z : Int) ≥ 9218868437227405312) = true := by simp; omega
        have d3' : decide (9218868437227405312 ≤ (z : Int)) = true := by simp; omega
        have d3n : decide (9218868437227405312 ≤ z) = true := by simp; omega
        clear h1 h2 h3
        go_enter Tryz.func76, Tryz.ntmps76
        go_wp2
        go_ret
        exact ⟨by rw [HE.out]; rfl, rfl⟩
set_option maxHeartbeats 1600000 in
theorem Byte_calls (v : Nat) (w : World) (hv : v < 18446744073709551616) : Calls Tryz.prog 155 #[.int .u64 v] w fun e w' => e = .returned (.int .i64 (codeT v)) ∧ w = w' := by
  by_cases h0 : v = 0
  · subst h0
    have HF : Hid (codeT 0 = 0) := Lib.hid rfl
    go_enter Tryz.func155, Tryz.ntmps155
    go_wp2
    go_ret
    exact ⟨by rw [HF.out]; rfl, rfl⟩
  · have d0 : ((v : Int) == 0) = false := by simp; omega
    have HC := Lib.hid (codeT_lt v)
    have HZ := Lib.hid (fun h => h0 (codeT_zero h) : codeT v ≠ 0)
    clear h0
    go_enter Tryz.func155, Tryz.ntmps155
    go_wp2
    go_loop [3] (fun i => ∃ k : Nat, 1 ≤ k ∧ k ≤ 255 ∧ i = .int .u64 k ∧ Hid (∀ j : Nat, 1 ≤ j → j < k → v ≠ (j + 779) * 4503599627370496)) (fun i => 255 - (intOf i).toNat)
    case atStart => exact ⟨1, by omega, by omega, rfl, Lib.hid (by omega)⟩
    case round =>
      obtain ⟨k, hk1, hk, rfl, hn⟩ := hrel
      by_cases hlt : k < 255
      · have d1 : decide ((k : Int) < 255) = true := by simp; omega
        have d1n : decide (k < 255) = true := by simp; omega
        by_cases he : v = (k + 779) * 4503599627370496
        · have d2 : ((v : Int) == ((k : Int) + 779) * 4503599627370496) = true := by simp; omega
          have HF : Hid (codeT v = k) := Lib.hid (by rw [he]; exact codeT_of hk1 (by omega))
          clear hn he
          go_wp2
          go_ret
          exact ⟨by rw [HF.out]; rfl, rfl⟩
        · have d2 : ((v : Int) == ((k : Int) + 779) * 4503599627370496) = false := by simp; omega
          have HN := Lib.hid (fun j h1 h2 h3 => by
            rcases Nat.lt_or_ge j k with h | h
            · exact hn.out j h1 h h3
            · obtain rfl : j = k := by omega
              exact he h3 : ∀ j : Nat, 1 ≤ j → j < k + 1 → v ≠ (j + 779) * 4503599627370496)
          clear hn he
          go_wp2
          go_round
          case rel => exact ⟨k + 1, by omega, by omega, by go_num, HN⟩
          case measure => simp [intOf]; omega
      · obtain rfl : k = 255 := by omega
        have HF : Hid (codeT v = 255) := Lib.hid (by
          have h1 := HC.out
          have h2 := HZ.out
          by_cases h3 : codeT v = 255
          · exact h3
          · have g1 : 1 ≤ codeT v := Nat.one_le_iff_ne_zero.2 h2
            have g2 : codeT v < 255 := Nat.lt_of_le_of_ne h1 h3
            exact absurd (codeT_mid h2 h3) (hn.out (codeT v) g1 g2))
        clear hn
        go_wp2
        go_ret
        exact ⟨by rw [HF.out]; rfl, rfl⟩
set_option maxHeartbeats 800000 in
theorem Bits12_calls (v : Nat) (w : World) (hv : v < 18446744073709551616) : Calls Tryz.prog 82 #[.int .u64 v] w fun e w' => e = .returned (.string (txt (encT v))) ∧ w = w' := by
  have HB := Lib.hid (fun W => Byte_calls v W hv)
  have hc := codeT_lt v
  by_cases h5 : codeT v = 255
  · have HE : Hid (txt (encT v) = txt (nb 255 8) ++ txt (nb v 64)) := Lib.hid (by rw [encT, if_pos h5, h5, txt_append])
    have HN1 := Lib.hid (fun W => number_calls 255 8 W (by decide) (by decide))
    have HN2 := Lib.hid (fun W => number_calls v 64 W hv (by decide))
    have z1 : (txt (nb 255 8)).size = 8 := by rw [txt_size, nb_length]
    have z2 : (txt (nb v 64)).size = 64 := by rw [txt_size, nb_length]
    rw [h5] at HB
    clear h5 hc
    go_enter Tryz.func82, Tryz.ntmps82
    go_wp2_with (fail)
    refine (HB.out _).mono ?_
    rintro e w1 ⟨rfl, rfl⟩
    go_wp2_with (fail)
    refine (HN1.out _).mono ?_
    rintro e w1 ⟨rfl, rfl⟩
    go_wp2_with (fail)
    refine (HN2.out _).mono ?_
    rintro e w1 ⟨rfl, rfl⟩
    go_wp2
    go_ret
    exact ⟨by rw [HE.out]; rfl, rfl⟩
  · have HE : Hid (txt (encT v) = txt (nb (codeT v) 8)) := Lib.hid (by rw [encT, if_neg h5, List.append_nil])
    have HN1 := Lib.hid (fun W => number_calls (codeT v) 8 W (by omega) (by decide))
    have d1 : ((codeT v : Int) == 255) = false := by simp; omega
    obtain ⟨c, hcc⟩ : ∃ c, c = codeT v := ⟨_, rfl⟩
    rw [← hcc] at HB HE HN1 hc d1
    clear h5 hcc
    go_enter Tryz.func82, Tryz.ntmps82
    go_wp2_with (fail)
    refine (HB.out _).mono ?_
    rintro e w1 ⟨rfl, rfl⟩
    go_wp2_with (fail)
    refine (HN1.out _).mono ?_
    rintro e w1 ⟨rfl, rfl⟩
    go_wp2
    go_ret
    exact ⟨by rw [HE.out]; rfl, rfl⟩
/-- what a reading tells of some bits. -/
def P12 (q : List Bool) (w : World) (e : Ending) (w' : World) : Prop := e = .returned (.tuple #[.int .u64 (parseT q).2.1, .int .i64 (parseT q).2.2, .int .i64 (parseT q).1]) ∧ w = w'
set_option maxRecDepth 100000 in
set_option maxHeartbeats 1600000 in
theorem Parse12_calls (q : List Bool) (w : World) (hm : q.length ≤ 1000000) : Calls Tryz.prog 92 #[.string (txt q)] w (P12 q w) := by
  have hsz := txt_size q
  have hlt := val_lt8 q
  by_cases h8 : q.length < 8
  · have HP : Hid (parseT q = (16, 0, 0)) := Lib.hid (by unfold parseT; rw [if_pos h8])
    have d1 : decide ((q.length : Int) < 8) = true := by simp; omega
    have d1n : decide (q.length < 8) = true := by simp; omega
    obtain ⟨s, hs⟩ : ∃ s, s = txt q := ⟨_, rfl⟩
    rw [← hs] at hsz ⊢
    clear h8 hs
    go_enter Tryz.func92, Tryz.ntmps92
    go_wp2
    go_ret3
    exact ⟨by rw [HP.out]; rfl, rfl⟩
  have d1 : decide ((q.length : Int) < 8) = false := by simp; omega
  have d1n : decide (q.length < 8) = false := by simp; omega
  have hl8 : (q.take 8).length = 8 := by rw [List.length_take]; omega
  have HV := Lib.hid (fun W => value_calls (q.take 8) W (by omega))
  have hcut : ∀ W, (Instr.slice 9 (.string (txt q)) none (some (.int .i64 8)) none).run Tryz.prog W = .ok (.string (txt (q.take 8))) W := fun W => cut_lo (P := Tryz.prog) 9 Tryz.underlying9 (txt q) q 8 rfl (by omega) W
  have HP : Hid (∀ c : Nat, c = val (q.take 8) → parseT q = if c = 255 then
      if q.length < 72 then (16, 0, 0)
      else if thrOk (val ((q.drop 8).take 64)) = false then (11, 0, 0)
      else if codeT (val ((q.drop 8).take 64)) ≠ 255 then (10, 0, 0)
      else (0, val ((q.drop 8).take 64), 72)
    else if c = 0 then (0, 0, 8) else (0, (c + 779) * 4503599627370496, 8)) := Lib.hid (by rintro c rfl; unfold parseT; rw [if_neg h8])
  obtain ⟨c, hc⟩ : ∃ c, c = val (q.take 8) := ⟨_, rfl⟩
  have HP2 := Lib.hid (HP.out c hc)
  rw [← hc] at HV hlt
  by_cases h0 : c = 0
  · have HP3 : Hid (parseT q = (0, 0, 8)) := Lib.hid (by rw [HP2.out, if_neg (by omega), if_pos h0])
    subst h0
    obtain ⟨s, hs⟩ : ∃ s, s = txt q := ⟨_, rfl⟩
    obtain ⟨t, ht⟩ : ∃ t, t = txt (q.take 8) := ⟨_, rfl⟩
    rw [← hs] at hsz hcut ⊢
    rw [← ht] at HV hcut
    clear hs ht hc h8 hl8
    go_enter Tryz.func92, Tryz.ntmps92
    go_wp2_with (fail)
    refine (HV.out _).mono ?_
    rintro e w1 ⟨rfl, rfl⟩
    go_wp2
    go_ret3
    exact ⟨by rw [HP3.out]; rfl, rfl⟩
  have e0 : ((c : Int) == 0) = false := by simp; omega
  by_cases h5 : ¬ c = 255
  · have d2 : decide ((c : Int) < 255) = true := by simp; omega
    have d2n : decide (c < 255) = true := by simp; omega
    have HP3 : Hid (parseT q = (0, (c + 779) * 4503599627370496, 8)) := Lib.hid (by rw [HP2.out, if_neg h5, if_neg h0])
    have hmul : IntKind.u64.wrap (((c : Int) + 779) * 4503599627370496) = ((c : Int) + 779) * 4503599627370496 := by rw [IntKind.wrap_u64]; omega
    obtain ⟨s, hs⟩ : ∃ s, s = txt q := ⟨_, rfl⟩
    obtain ⟨t, ht⟩ : ∃ t, t = txt (q.take 8) := ⟨_, rfl⟩
    rw [← hs] at hsz hcut ⊢
    rw [← ht] at HV hcut
    clear hs ht hc h8 hl8 h0
    go_enter Tryz.func92, Tryz.ntmps92
    go_wp2_with (fail)
    refine (HV.out _).mono ?_
    rintro e w1 ⟨rfl, rfl⟩
    go_wp2
    go_ret3
    exact ⟨by rw [HP3.out]; rfl, rfl⟩
  obtain rfl : c = 255 := Decidable.not_not.1 h5
  have d2 : decide ((255 : Int) < 255) = false := rfl
  clear h0 h5 e0
  by_cases h72 : q.length < 72
  · have d3 : decide ((q.length : Int) < 72) = true := by simp; omega
    have d3n : decide (q.length < 72) = true := by simp; omega
    have HP3 : Hid (parseT q = (16, 0, 0)) := Lib.hid (by rw [HP2.out, if_pos rfl, if_pos h72])
    obtain ⟨s, hs⟩ : ∃ s, s = txt q := ⟨_, rfl⟩
    obtain ⟨t, ht⟩ : ∃ t, t = txt (q.take 8) := ⟨_, rfl⟩
    rw [← hs] at hsz hcut ⊢
    rw [← ht] at HV hcut
    clear hs ht hc h8 hl8 h72
    go_enter Tryz.func92, Tryz.ntmps92
    go_wp2_with (fail)
    refine (HV.out _).mono ?_
    rintro e w1 ⟨rfl, rfl⟩
    go_wp2
    go_ret3
    exact ⟨by rw [HP3.out]; rfl, rfl⟩
  have d3 : decide ((q.length : Int) < 72) = false := by simp; omega
  have d3n : decide (q.length < 72) = false := by simp; omega
  have hl64 : ((q.drop 8).take 64).length = 64 := by rw [List.length_take, List.length_drop]; omega
  have hcut2 : ∀ W, (Instr.slice 9 (.string (txt q)) (some (.int .i64 8)) (some (.int .i64 72)) none).run Tryz.prog W = .ok (.string (txt ((q.drop 8).take 64))) W := fun W => cut_mid (P := Tryz.prog) 9 Tryz.underlying9 (txt q) q 8 72 rfl (by omega) (by omega) W
  have HV2 := Lib.hid (fun W => value_calls ((q.drop 8).take 64) W (by omega))
  have hv64 : val ((q.drop 8).take 64) < 18446744073709551616 := by have := val_lt ((q.drop 8).take 64); rw [hl64] at this; exact this
  rw [if_pos rfl, if_neg h72] at HP2
  obtain ⟨v, hv⟩ : ∃ v, v = val ((q.drop 8).take 64) := ⟨_, rfl⟩
  rw [← hv] at HV2 hv64 HP2
  obtain ⟨s, hs⟩ : ∃ s, s = txt q := ⟨_, rfl⟩
  obtain ⟨t, ht⟩ : ∃ t, t = txt (q.take 8) := ⟨_, rfl⟩
  obtain ⟨t2, ht2⟩ : ∃ t, t = txt ((q.drop 8).take 64) := ⟨_, rfl⟩
  rw [← hs] at hsz hcut hcut2 ⊢
  rw [← ht] at HV hcut
  rw [← ht2] at HV2 hcut2
  have HH := Lib.hid (fun W => Head_calls 0 v W)
  have HBY := Lib.hid (fun W => Byte_calls v W hv64)
  clear hs ht ht2 hc h8 hl8 h72 hl64 hv HP
  cases hk : thrOk v with
  | false =>
    rw [show headE 0 v = 11 from by rw [headE_z, hk]; rfl] at HH
    rw [if_pos hk] at HP2
    clear hk
    go_enter Tryz.func92, Tryz.ntmps92
    go_wp2_with (fail)
    refine (HV.out _).mono ?_
    rintro e w1 ⟨rfl, rfl⟩
    go_wp2_with (fail)
    refine (HV2.out _).mono ?_
    rintro e w1 ⟨rfl, rfl⟩
    go_wp2_with (fail)
    refine (HH.out _).mono ?_
    rintro e w1 ⟨rfl, rfl⟩
    go_wp2
    go_ret3
    exact ⟨by rw [HP2.out]; rfl, rfl⟩
  | true =>
    rw [show headE 0 v = 0 from by rw [headE_z, hk]; rfl] at HH
    rw [if_neg (by rw [hk]; decide)] at HP2
    clear hk
    obtain ⟨b, hb⟩ : ∃ b, b = codeT v := ⟨_, rfl⟩
    rw [← hb] at HBY HP2
    clear hb
    by_cases h5 : b = 255
    · subst h5
      go_enter Tryz.func92, Tryz.ntmps92
      go_wp2_with (fail)
      refine (HV.out _).mono ?_
      rintro e w1 ⟨rfl, rfl⟩
      go_wp2_with (fail)
      refine (HV2.out _).mono ?_
      rintro e w1 ⟨rfl, rfl⟩
      go_wp2_with (fail)
      refine (HH.out _).mono ?_
      rintro e w1 ⟨rfl, rfl⟩
      go_wp2_with (fail)
      refine (HBY.out _).mono ?_
      rintro e w1 ⟨rfl, rfl⟩
      go_wp2
      go_ret3
      exact ⟨by rw [HP2.out]; rfl, rfl⟩
    · have e5 : ((b : Int) != 255) = true := by simp; omega
      rw [if_pos h5] at HP2
      clear h5
      go_enter Tryz.func92, Tryz.ntmps92
      go_wp2_with (fail)
      refine (HV.out _).mono ?_
      rintro e w1 ⟨rfl, rfl⟩
      go_wp2_with (fail)
      refine (HV2.out _).mono ?_
      rintro e w1 ⟨rfl, rfl⟩
      go_wp2_with (fail)
      refine (HH.out _).mono ?_
      rintro e w1 ⟨rfl, rfl⟩
      go_wp2_with (fail)
      refine (HBY.out _).mono ?_
      rintro e w1 ⟨rfl, rfl⟩
      go_wp2
      go_ret3
      exact ⟨by rw [HP2.out]; rfl, rfl⟩
end Go.Proofs.YtjfekjbmgckkcaaGreatDoor.Ref12

/- the reference of layer 14: what is wrong with spans, with a head. -/
namespace Go.Proofs.YtjfekjbmgckkcaaGreatDoor.Ref14A
open Go.RowKit Go.Proofs.YtjfekjbmgckkcaaGreatDoorW.PrintWords
open Go.Proofs.YtjfekjbmgckkcaaGreatDoor.Bits Go.Proofs.YtjfekjbmgckkcaaGreatDoor.Base Go.Proofs.YtjfekjbmgckkcaaGreatDoor.StreamA Go.Proofs.YtjfekjbmgckkcaaGreatDoor.SpanPure Go.Proofs.YtjfekjbmgckkcaaGreatDoor.SpanBase Go.Proofs.YtjfekjbmgckkcaaGreatDoor.ThrPure Go.Proofs.YtjfekjbmgckkcaaGreatDoor.HeadA Go.Proofs.YtjfekjbmgckkcaaGreatDoor.HeadB Go.Proofs.YtjfekjbmgckkcaaGreatDoor.Ref12

set_option maxHeartbeats 1600000 in
theorem Sides_calls (A : Option Addr) (c : Nat) (l : List Sp) (w : World) (hr : RdSp w A l) (hm : l.length ≤ 1000000000) :
    Calls Tryz.prog 77 #[.slice A l.length c] w fun e w' => e = .returned (.int .i64 (sidesE l)) ∧ Below w.heap.size w w' := by
  have HR := Lib.hid hr
  have HC := Lib.hid (Ref06K.check_calls A c l w hr hm)
  clear hr
  by_cases h0 : ¬ chk l = 0
  · have HE : Hid (sidesE l = chk l) := Lib.hid (if_pos h0)
    obtain ⟨k, hk⟩ : ∃ k, k = chk l := ⟨_, rfl⟩
    rw [← hk] at HC HE h0
    have e1 : ((k : Int) != 0) = true := by simp; omega
    clear h0 hk
    go_enter Tryz.func77, Tryz.ntmps77
    go_wp2_with (fail)
    refine HC.out.mono ?_
    rintro e w1 ⟨rfl, hb1⟩
    have B1 := Lib.hid hb1
    clear hb1
    go_wp2
    go_ret
    exact ⟨by rw [HE.out]; rfl, B1.out⟩
  have h0 := Decidable.not_not.1 h0
  rw [h0] at HC
  have HE : Hid (sidesE l = if canonF true l then 0 else 23) := Lib.hid (by unfold sidesE; rw [if_neg (by omega), canonical, h0]; simp)
  clear h0
  go_enter Tryz.func77, Tryz.ntmps77
  go_wp2_with (fail)
  refine HC.out.mono ?_
  rintro e w1 ⟨rfl, hb1⟩
  have B1 := Lib.hid hb1
  have HR1 := Lib.hid (HR.out.below hb1)
  clear hb1 HC
  go_wp2
  go_loop [4] (fun i => ∃ (k : Nat), k ≤ l.length ∧ i = .int .i64 k ∧ Hid (canonF true l = canonF (decide (k = 0)) (l.drop k))) (fun i => l.length - (intOf i).toNat)
  case atStart => exact ⟨0, by omega, rfl, Lib.hid rfl⟩
  case round =>
    obtain ⟨k, hk, rfl, hd⟩ := hrel
    by_cases hlt : k < l.length
    · obtain ⟨ad, hA, c0, c1⟩ := HR1.out.at_ k hlt
      subst hA
      have HD := Lib.hid (show l.drop k = l[k] :: l.drop (k + 1) from List.drop_eq_getElem_cons hlt)
      obtain ⟨s, hs⟩ : ∃ s, s = l[k] := ⟨_, rfl⟩
      rw [← hs] at c0 c1 HD
      obtain ⟨o, q⟩ := s
      simp only at c0 c1
      have HX : Hid (canonF (decide (k = 0)) ((o, q) :: l.drop (k + 1)) = (decide (q ≠ 0 ∧ (0 < k → o ≠ 0)) && canonF (decide (k + 1 = 0)) (l.drop (k + 1)))) := Lib.hid (by
        rw [canonF, decide_eq_false (Nat.succ_ne_zero k)]
        congr 1
        rw [Bool.eq_iff_iff, Bool.and_eq_true, Bool.or_eq_true, decide_eq_true_iff, decide_eq_true_iff, decide_eq_true_iff, decide_eq_true_iff]
        simp only
        omega)
      clear hs
      by_cases h1 : q = 0
      · have e1 : (q == 0) = true := by simpa using h1
        have HF : Hid (canonF true l = false) := Lib.hid (by rw [hd.out, HD.out, HX.out, decide_eq_false (by omega)]; rfl)
        clear h1
        go_wp2
        go_ret
        exact ⟨by rw [HE.out, HF.out]; rfl, B1.out⟩
      · have e1 : (q == 0) = false := by simpa using h1
        by_cases h2 : 0 < k
        · have e2 : decide ((k : Int) > 0) = true := by simp; omega
          have e2' : decide (0 < (k : Int)) = true := by simp; omega
          have e2n : decide (0 < k) = true := by simp; omega
          by_cases h3 : o = 0
          · have e3 : (o == 0) = true := by simpa using h3
            have HF : Hid (canonF true l = false) := Lib.hid (by rw [hd.out, HD.out, HX.out, decide_eq_false (by omega)]; rfl)
            clear h1 h3
            go_wp2
            go_ret
            exact ⟨by rw [HE.out, HF.out]; rfl, B1.out⟩
          · have e3 : (o == 0) = false := by simpa using h3
            have HF : Hid (canonF true l = canonF (decide (k + 1 = 0)) (l.drop (k + 1))) := Lib.hid (by rw [hd.out, HD.out, HX.out, decide_eq_true (by omega)]; rfl)
            clear h1 h3
            go_wp2
            go_round
            case rel => exact ⟨k + 1, by omega, by go_num, HF⟩
            case measure => simp [intOf]; omega
        · have e2 : decide ((k : Int) > 0) = false := by simp; omega
          have e2' : decide (0 < (k : Int)) = false := by simp; omega
          have e2n : decide (0 < k) = false := by simp; omega
          have HF : Hid (canonF true l = canonF (decide (k + 1 = 0)) (l.drop (k + 1))) := Lib.hid (by rw [hd.out, HD.out, HX.out, decide_eq_true (by omega)]; rfl)
          clear h1
          go_wp2
          go_round
          case rel => exact ⟨k + 1, by omega, by go_num, HF⟩
          case measure => simp [intOf]; omega
    · obtain rfl : k = l.length := by omega
      have HF : Hid (canonF true l = true) := Lib.hid (by rw [hd.out, List.drop_length]; rfl)
      clear hd
      go_wp2
      go_ret
      exact ⟨by rw [HE.out, HF.out]; rfl, B1.out⟩
/-- what is wrong, as the reference tells it. -/
def wr (c : Nat) (p : ByteArray) (n : Nat) : Value := if c = 0 then .agg #[.int .i64 0, .string ⟨#[]⟩, .int .i64 0] else .agg #[.int .i64 c, .string p, .int .i64 n]
theorem below_three {n : Nat} {w w1 : World} {b : Nat} (h : Below n w w1) (hb : n ≤ b) (v0 v1 v2 : Value) : Below n w (((w1.setCell ⟨b, 0, none⟩ v0).setCell ⟨b, 1, none⟩ v1).setCell ⟨b, 2, none⟩ v2) :=
  ((h.setCell hb v0).setCell hb v1).setCell hb v2
set_option maxHeartbeats 3200000 in
theorem Check14_calls (h : Hd) (p : Lc) (w : World) (hh : HdIn w h p) :
    Calls Tryz.prog 18 #[.agg (hcs h p).toArray] w fun e w' => e = .returned (wr (headErr h).1 (headErr h).2 0) ∧ Below w.heap.size w w' := by
  obtain ⟨vr, hint, schema, zt, pos, neg⟩ := h
  obtain ⟨A, c, B, d⟩ := p
  obtain ⟨hp, hn, hz⟩ := hh
  simp only at hp hn hz
  show Calls Tryz.prog 18 #[.agg #[.int .i64 vr, .int .i64 hint, .int .i64 schema, .int .u64 zt, .slice A pos.length c, .slice B neg.length d]] w _
  by_cases h1 : vr < 0
  · have HE : Hid (headErr ⟨vr, hint, schema, zt, pos, neg⟩ = (25, pVariant)) := Lib.hid (if_pos (by simp only; omega))
    have d1 : decide (vr < 0) = true := decide_eq_true h1
    clear hp hn
    go_enter Tryz.func18, Tryz.ntmps18
    go_wp2
    refine bodyPost_ret (v := .agg #[.int .i64 25, .string ⟨#[118, 97, 114, 105, 97, 110, 116]⟩, .int .i64 0]) (by rw [results_cell1 rfl]; go_simp) rfl ?_
    exact ⟨by rw [HE.out]; rfl, below_alloc (below_alloc (Below.refl _ _) _) _⟩
  have d1 : decide (vr < 0) = false := decide_eq_false h1
  by_cases h2 : 1 < vr
  · have HE : Hid (headErr ⟨vr, hint, schema, zt, pos, neg⟩ = (25, pVariant)) := Lib.hid (if_pos (by simp only; omega))
    have d2 : decide (vr > 1) = true := decide_eq_true h2
    have d2' : decide (1 < vr) = true := decide_eq_true h2
    clear hp hn
    go_enter Tryz.func18, Tryz.ntmps18
    go_wp2
    refine bodyPost_ret (v := .agg #[.int .i64 25, .string ⟨#[118, 97, 114, 105, 97, 110, 116]⟩, .int .i64 0]) (by rw [results_cell1 rfl]; go_simp) rfl ?_
    exact ⟨by rw [HE.out]; rfl, below_alloc (below_alloc (Below.refl _ _) _) _⟩
  have d2 : decide (vr > 1) = false := decide_eq_false h2
  have d2' : decide (1 < vr) = false := decide_eq_false h2
  have n1 : ¬ (vr ≠ 0 ∧ vr ≠ 1) := by omega
  by_cases h3 : hint < 0
  · have HE : Hid (headErr ⟨vr, hint, schema, zt, pos, neg⟩ = (26, pHint)) := Lib.hid (by unfold headErr; simp only; rw [if_neg n1, if_pos (.inl h3)])
    have d3 : decide (hint < 0) = true := decide_eq_true h3
    clear hp hn
    go_enter Tryz.func18, Tryz.ntmps18
    go_wp2
    refine bodyPost_ret (v := .agg #[.int .i64 26, .string ⟨#[104, 105, 110, 116]⟩, .int .i64 0]) (by rw [results_cell1 rfl]; go_simp) rfl ?_
    exact ⟨by rw [HE.out]; rfl, below_alloc (below_alloc (Below.refl _ _) _) _⟩
  have d3 : decide (hint < 0) = false := decide_eq_false h3
  by_cases h4 : 3 < hint
  · have HE : Hid (headErr ⟨vr, hint, schema, zt, pos, neg⟩ = (26, pHint)) := Lib.hid (by unfold headErr; simp only; rw [if_neg n1, if_pos (.inr h4)])
    have d4 : decide (hint > 3) = true := decide_eq_true h4
    have d4' : decide (3 < hint) = true := decide_eq_true h4
    clear hp hn
    go_enter Tryz.func18, Tryz.ntmps18
    go_wp2
    refine bodyPost_ret (v := .agg #[.int .i64 26, .string ⟨#[104, 105, 110, 116]⟩, .int .i64 0]) (by rw [results_cell1 rfl]; go_simp) rfl ?_
    exact ⟨by rw [HE.out]; rfl, below_alloc (below_alloc (Below.refl _ _) _) _⟩
  have d4 : decide (hint > 3) = false := decide_eq_false h4
  have d4' : decide (3 < hint) = false := decide_eq_false h4
  have n2 : ¬ (hint < 0 ∨ 3 < hint) := by omega
  have H1 := Lib.hid (fun W => Head_calls schema 0 W)
  have H2 := Lib.hid (fun W => Head_calls 0 zt W)
  rw [headE_s] at H1
  rw [headE_z] at H2
  clear h1 h2 h3 h4
  by_cases h5 : shapeE schema ≠ 0
  · have h21 : shapeE schema = 21 := by unfold shapeE at h5 ⊢; by_cases hs : schema < -4 ∨ 8 < schema; exact if_pos hs; rw [if_neg hs] at h5; exact absurd rfl h5
    have HE : Hid (headErr ⟨vr, hint, schema, zt, pos, neg⟩ = (21, pSchema)) := Lib.hid (by unfold headErr; simp only; rw [if_neg n1, if_neg n2, if_pos h5])
    rw [h21] at H1
    clear hp hn n1 n2 h5 h21 H2
    go_enter Tryz.func18, Tryz.ntmps18
    go_wp2_with (fail)
    refine (H1.out _).mono ?_
    rintro e w9 ⟨rfl, rfl⟩
    go_wp2
    refine bodyPost_ret (v := .agg #[.int .i64 21, .string ⟨#[115, 99, 104, 101, 109, 97]⟩, .int .i64 0]) (by rw [results_cell1 rfl]; go_simp) rfl ?_
    exact ⟨by rw [HE.out]; rfl, below_alloc (below_alloc (Below.refl _ _) _) _⟩
  rw [Decidable.not_not.1 h5] at H1
  cases hk : thrOk zt with
  | false =>
    have HE : Hid (headErr ⟨vr, hint, schema, zt, pos, neg⟩ = (11, pZero)) := Lib.hid (by unfold headErr; simp only; rw [if_neg n1, if_neg n2, if_neg h5, if_pos hk])
    rw [hk] at H2
    clear hp hn n1 n2 h5 hk
    go_enter Tryz.func18, Tryz.ntmps18
    go_wp2_with (fail)
    refine (H1.out _).mono ?_
    rintro e w9 ⟨rfl, rfl⟩
    go_wp2_with (fail)
    refine (H2.out _).mono ?_
    rintro e w9 ⟨rfl, rfl⟩
    go_wp2
    refine bodyPost_ret (v := .agg #[.int .i64 11, .string ⟨#[122, 101, 114, 111]⟩, .int .i64 0]) (by rw [results_cell1 rfl]; go_simp) rfl ?_
    exact ⟨by rw [HE.out]; rfl, below_alloc (below_alloc (Below.refl _ _) _) _⟩
  | true =>
    rw [hk] at H2
    have hb0 := below_alloc (below_alloc (Below.refl w.heap.size w) (.cells #[.int .i64 vr, .int .i64 hint, .int .i64 schema, .int .u64 zt, .slice A pos.length c, .slice B neg.length d] 41)) (.cells #[.int .i64 0, .string ⟨#[]⟩, .int .i64 0] 37)
    have HK0 := Lib.hid ((Below.heap_alloc (w.alloc (.cells #[.int .i64 vr, .int .i64 hint, .int .i64 schema, .int .u64 zt, .slice A pos.length c, .slice B neg.length d] 41)) (.cells #[.int .i64 0, .string ⟨#[]⟩, .int .i64 0] 37) w.heap.size (blk_lt (blk_last w _))).trans (blk_last w _))
    have HK1 := Lib.hid (blk_last (w.alloc (.cells #[.int .i64 vr, .int .i64 hint, .int .i64 schema, .int .u64 zt, .slice A pos.length c, .slice B neg.length d] 41)) (.cells #[.int .i64 0, .string ⟨#[]⟩, .int .i64 0] 37))
    rw [show (w.alloc (.cells #[.int .i64 vr, .int .i64 hint, .int .i64 schema, .int .u64 zt, .slice A pos.length c, .slice B neg.length d] 41)).heap.size = w.heap.size + 1 from by simp] at HK1
    have HSP := Lib.hid (Sides_calls A c pos _ (hp.below hb0).rd (by have := hp.len; omega))
    have HSN := Lib.hid (fun W (h : Below w.heap.size w W) => Sides_calls B d neg W (hn.below h).rd (by have := hn.len; omega))
    have HB0 := Lib.hid hb0
    have HN : Hid (headErr ⟨vr, hint, schema, zt, pos, neg⟩ = if sidesE pos ≠ 0 then (sidesE pos, pPos) else (sidesE neg, pNeg)) := Lib.hid (by unfold headErr; simp only; rw [if_neg n1, if_neg n2, if_neg h5, if_neg (by rw [hk]; decide)])
    obtain ⟨sp, hsp⟩ : ∃ x, x = sidesE pos := ⟨_, rfl⟩
    rw [← hsp] at HSP HN
    clear hp hn n1 n2 h5 hk hb0 hsp
    by_cases h6 : sp ≠ 0
    · have HE : Hid (headErr ⟨vr, hint, schema, zt, pos, neg⟩ = (sp, pPos)) := Lib.hid (by rw [HN.out, if_pos h6])
      have e6 : ((sp : Int) != 0) = true := by simp; omega
      have HW : Hid (wr sp pPos 0 = .agg #[.int .i64 sp, .string pPos, .int .i64 0]) := Lib.hid (if_neg h6)
      clear h6 HN
      go_enter Tryz.func18, Tryz.ntmps18
      go_wp2_with (fail)
      refine (H1.out _).mono ?_
      rintro e w9 ⟨rfl, rfl⟩
      go_wp2_with (fail)
      refine (H2.out _).mono ?_
      rintro e w9 ⟨rfl, rfl⟩
      go_wp2_with (fail)
      refine HSP.out.mono ?_
      rintro e w3 ⟨rfl, hb3⟩
      have HB3 := Lib.hid (below_then HB0.out HB0.out.size hb3)
      have hk0 := (Ch.of_below (S := fun _ => False) hb3).blk HK0.out (fun x => x)
      have hk1 := (Ch.of_below (S := fun _ => False) hb3).blk HK1.out (fun x => x)
      have c0 := obj_cell (i := 0) hk1 rfl
      have c1 := obj_cell (i := 1) hk1 rfl
      have c2 := obj_cell (i := 2) hk1 rfl
      have f0 := obj_free (i := 0) hk1
      have f1 := obj_free (i := 1) hk1
      have f2 := obj_free (i := 2) hk1
      clear hb3 hk0 hk1
      go_wp2
      refine bodyPost_ret (v := .agg #[.int .i64 sp, .string ⟨#[112, 111, 115]⟩, .int .i64 0]) (by rw [results_cell1 rfl]; go_simp) rfl ?_
      exact ⟨by rw [HE.out, HW.out]; rfl, below_three HB3.out (Nat.le_succ _) _ _ _⟩
    have h6 := Decidable.not_not.1 h6
    rw [h6] at HSP
    obtain ⟨sn, hsn⟩ : ∃ x, x = sidesE neg := ⟨_, rfl⟩
    rw [← hsn] at HSN HN
    have HE : Hid (headErr ⟨vr, hint, schema, zt, pos, neg⟩ = (sn, pNeg)) := Lib.hid (by rw [HN.out, if_neg (by omega)])
    clear h6 HN hsn
    go_enter Tryz.func18, Tryz.ntmps18
    go_wp2_with (fail)
    refine (H1.out _).mono ?_
    rintro e w9 ⟨rfl, rfl⟩
    go_wp2_with (fail)
    refine (H2.out _).mono ?_
    rintro e w9 ⟨rfl, rfl⟩
    go_wp2_with (fail)
    refine HSP.out.mono ?_
    rintro e w3 ⟨rfl, hb3⟩
    have HB3 := Lib.hid (below_then HB0.out HB0.out.size hb3)
    have hk0 := (Ch.of_below (S := fun _ => False) hb3).blk HK0.out (fun x => x)
    have hk1 := (Ch.of_below (S := fun _ => False) hb3).blk HK1.out (fun x => x)
    have c0 := obj_cell (i := 0) hk0 rfl
    have c1 := obj_cell (i := 1) hk0 rfl
    have c2 := obj_cell (i := 2) hk0 rfl
    have c3 := obj_cell (i := 3) hk0 rfl
    have c4 := obj_cell (i := 4) hk0 rfl
    have c5 := obj_cell (i := 5) hk0 rfl
    have HK3 := Lib.hid hk1
    clear hb3 hk0 hk1
    go_wp2_with (fail)
    refine (HSN.out _ HB3.out).mono ?_
    rintro e w4 ⟨rfl, hb4⟩
    have HB4 := Lib.hid (below_then HB3.out HB3.out.size hb4)
    have hk1 := (Ch.of_below (S := fun _ => False) hb4).blk HK3.out (fun x => x)
    clear c0
    clear c1
    clear c2
    clear c3
    clear c4
    clear c5
    have c0 := obj_cell (i := 0) hk1 rfl
    have c1 := obj_cell (i := 1) hk1 rfl
    have c2 := obj_cell (i := 2) hk1 rfl
    have f0 := obj_free (i := 0) hk1
    have f1 := obj_free (i := 1) hk1
    have f2 := obj_free (i := 2) hk1
    clear hb4 hk1
    by_cases h7 : sn = 0
    · subst h7
      go_wp2
      refine bodyPost_ret (v := .agg #[.int .i64 0, .string ⟨#[]⟩, .int .i64 0]) (by rw [results_cell1 rfl]; go_simp) rfl ?_
      exact ⟨by rw [HE.out]; rfl, below_three HB4.out (Nat.le_succ _) _ _ _⟩
    · have e7 : ((sn : Int) != 0) = true := by simp; omega
      have HW : Hid (wr sn pNeg 0 = .agg #[.int .i64 sn, .string pNeg, .int .i64 0]) := Lib.hid (if_neg h7)
      clear h7
      go_wp2
      refine bodyPost_ret (v := .agg #[.int .i64 sn, .string ⟨#[110, 101, 103]⟩, .int .i64 0]) (by rw [results_cell1 rfl]; go_simp) rfl ?_
      exact ⟨by rw [HE.out, HW.out]; rfl, below_three HB4.out (Nat.le_succ _) _ _ _⟩
end Go.Proofs.YtjfekjbmgckkcaaGreatDoor.Ref14A

/- law 14: are two heads one; a head as the document has it; is an error just what is wrong. -/
namespace Go.Proofs.YtjfekjbmgckkcaaGreatDoor.Law14C
open Go.RowKit Go.Proofs.YtjfekjbmgckkcaaGreatDoorW.PrintWords
open Go.Proofs.YtjfekjbmgckkcaaGreatDoor.Bits Go.Proofs.YtjfekjbmgckkcaaGreatDoor.Base Go.Proofs.YtjfekjbmgckkcaaGreatDoor.VarKit Go.Proofs.YtjfekjbmgckkcaaGreatDoor.StreamA Go.Proofs.YtjfekjbmgckkcaaGreatDoor.SpanPure Go.Proofs.YtjfekjbmgckkcaaGreatDoor.SpanBase Go.Proofs.YtjfekjbmgckkcaaGreatDoor.FailAs Go.Proofs.YtjfekjbmgckkcaaGreatDoor.FailB Go.Proofs.YtjfekjbmgckkcaaGreatDoor.FailC Go.Proofs.YtjfekjbmgckkcaaGreatDoor.HeadA Go.Proofs.YtjfekjbmgckkcaaGreatDoor.HeadB Go.Proofs.YtjfekjbmgckkcaaGreatDoor.HeadC Go.Proofs.YtjfekjbmgckkcaaGreatDoor.HeadE Go.Proofs.YtjfekjbmgckkcaaGreatDoor.Ref12 Go.Proofs.YtjfekjbmgckkcaaGreatDoor.Ref14A Go.Proofs.YtjfekjbmgckkcaaGreatDoor.Law14A Go.Proofs.YtjfekjbmgckkcaaGreatDoor.HeadL

set_option maxHeartbeats 1600000 in
theorem same_calls (A B : Option Addr) (c d : Nat) (a b : List Sp) (w : World) (ha : RdSp w A a) (hb : RdSp w B b) (hma : a.length ≤ 1000000000) (hmb : b.length ≤ 1000000000) :
    Calls Tryz.prog 94 #[.slice A a.length c, .slice B b.length d] w fun e w' => e = .returned (.bool (decide (a = b))) ∧ Drawn0 w w' := by
  have HA := Lib.hid ha
  have HB := Lib.hid hb
  clear ha hb
  by_cases hl : a.length = b.length
  · have hlb : ((a.length : Int) != (b.length : Int)) = false := by simp [hl]
    have hlc : ((a.length : Int) == (b.length : Int)) = true := by simp [hl]
    have HL := Lib.hid hl
    clear hl
    go_enter Tryz.func94, Tryz.ntmps94
    go_wp2
    repeat (go_quiet (fail); try go_wp2)
    go_loopw [13] (fun i wr => ∃ k : Nat, k ≤ a.length ∧ i = .int .i64 k ∧ Hid (a.take k = b.take k) ∧ Drawn0 w wr) (fun i _ => a.length - (intOf i).toNat)
    case atStart => exact ⟨0, by omega, rfl, rfl, by repeat (first | exact Drawn0.refl _ | apply Drawn0.step)⟩
    case round =>
      obtain ⟨k, hk, rfl, ht, ⟨m, rfl⟩⟩ := hrel
      by_cases hlt : k < a.length
      · have hlt2 : k < b.length := by have := HL.out; omega
        obtain ⟨ad, rfl, hc, hc'⟩ := HA.out.at_ k hlt
        obtain ⟨bd, rfl, hd, hd'⟩ := HB.out.at_ k hlt2
        by_cases he : a[k] = b[k]
        · have HT : Hid (a.take (k + 1) = b.take (k + 1)) := Lib.hid (by rw [List.take_succ_eq_append_getElem hlt, List.take_succ_eq_append_getElem hlt2, ht.out, he])
          rw [← he] at hd hd'
          obtain ⟨⟨o, q⟩, hs⟩ : ∃ s, s = a[k] := ⟨_, rfl⟩
          rw [← hs] at hc hc' hd hd'
          simp only at hc hc' hd hd'
          clear ht he hs
          go_wp2_with (fail)
          go_quiet (fail)
          go_wp2
          go_roundw
          case rel => exact ⟨k + 1, by omega, by go_num, HT, by repeat (first | exact Drawn0.refl _ | apply Drawn0.step)⟩
          case measure => simp [intOf]; omega
        · have HF : Hid (decide (a = b) = false) := Lib.hid (by
            rw [decide_eq_false]
            rintro rfl
            exact he rfl)
          obtain ⟨⟨o, q⟩, hs⟩ : ∃ s, s = a[k] := ⟨_, rfl⟩
          obtain ⟨⟨o2, q2⟩, hs2⟩ : ∃ s, s = b[k] := ⟨_, rfl⟩
          rw [← hs] at hc hc' he
          rw [← hs2] at hd hd' he
          simp only at hc hc' hd hd'
          by_cases h1 : o = o2
          · have h2 : ¬ q = q2 := fun h => he (by rw [h1, h])
            subst h1
            have e1 : (q == q2) = false := by simpa using h2
            have e2 : (q != q2) = true := by simpa using h2
            clear ht he hs hs2 h2
            go_wp2_with (fail)
            go_quiet (fail)
            go_wp2
            go_ret
            exact ⟨by rw [HF.out]; rfl, by repeat (first | exact Drawn0.refl _ | apply Drawn0.step)⟩
          · have e1 : (o == o2) = false := by simpa using h1
            have e2 : (o != o2) = true := by simpa using h1
            clear ht he hs hs2 h1
            go_wp2_with (fail)
            go_quiet (fail)
            go_wp2
            go_ret
            exact ⟨by rw [HF.out]; rfl, by repeat (first | exact Drawn0.refl _ | apply Drawn0.step)⟩
      · obtain rfl : k = a.length := by omega
        have HT : Hid (decide (a = b) = true) := Lib.hid (decide_eq_true (by have h := ht.out; rw [List.take_length, HL.out, List.take_length] at h; exact h))
        clear ht
        go_wp2
        repeat (go_quiet (fail); try go_wp2)
        go_ret
        exact ⟨by rw [HT.out]; rfl, by repeat (first | exact Drawn0.refl _ | apply Drawn0.step)⟩
  · have hlb : ((a.length : Int) != (b.length : Int)) = true := by simp; omega
    have hlc : ((a.length : Int) == (b.length : Int)) = false := by simp; omega
    have HT := Lib.hid (show decide (a = b) = false from decide_eq_false fun h => hl (by rw [h]))
    clear hl
    go_enter Tryz.func94, Tryz.ntmps94
    go_wp2
    repeat (go_quiet (fail); try go_wp2)
    go_ret
    exact ⟨by rw [HT.out]; rfl, by repeat (first | exact Drawn0.refl _ | apply Drawn0.step)⟩
set_option maxRecDepth 100000 in
set_option maxHeartbeats 3200000 in
theorem one_calls (x y : Hd) (p r : Lc) (w : World) (hx : HdIn w x p) (hy : HdIn w y r) :
    Calls Tryz.prog 33 #[.agg (hcs x p).toArray, .agg (hcs y r).toArray] w fun e w' => e = .returned (.bool (eqH x y)) ∧ Below w.heap.size w w' := by
  obtain ⟨v1, i1, s1, z1, l1, m1⟩ := x
  obtain ⟨v2, i2, s2, z2, l2, m2⟩ := y
  obtain ⟨A, c, B, d⟩ := p
  obtain ⟨A', c', B', d'⟩ := r
  obtain ⟨hl1, hm1, -⟩ := hx
  obtain ⟨hl2, hm2, -⟩ := hy
  simp only at hl1 hm1 hl2 hm2
  show Calls Tryz.prog 33 #[.agg #[.int .i64 v1, .int .i64 i1, .int .i64 s1, .int .u64 z1, .slice A l1.length c, .slice B m1.length d], .agg #[.int .i64 v2, .int .i64 i2, .int .i64 s2, .int .u64 z2, .slice A' l2.length c', .slice B' m2.length d']] w _
  have HL := Lib.hid (fun W (h : Below w.heap.size w W) => same_calls A A' c c' l1 l2 W (hl1.below h).rd (hl2.below h).rd (by have := hl1.len; omega) (by have := hl2.len; omega))
  have HM := Lib.hid (fun W (h : Below w.heap.size w W) => same_calls B B' d d' m1 m2 W (hm1.below h).rd (hm2.below h).rd (by have := hm1.len; omega) (by have := hm2.len; omega))
  have HB := Lib.hid (below_alloc (below_alloc (Below.refl w.heap.size w) (.cells #[.int .i64 v1, .int .i64 i1, .int .i64 s1, .int .u64 z1, .slice A l1.length c, .slice B m1.length d] 41)) (.cells #[.int .i64 v2, .int .i64 i2, .int .i64 s2, .int .u64 z2, .slice A' l2.length c', .slice B' m2.length d'] 41))
  clear hl1 hm1 hl2 hm2
  by_cases hv1 : ¬ v1 = v2
  · have HF : Hid (eqH ⟨v1, i1, s1, z1, l1, m1⟩ ⟨v2, i2, s2, z2, l2, m2⟩ = false) := Lib.hid (decide_eq_false fun h => hv1 (by injection h))
    have ev1 : (v1 == v2) = false := by simp; omega
    clear hv1
    go_enter Tryz.func33, Tryz.ntmps33
    go_wp2
    go_ret
    exact ⟨by rw [HF.out]; rfl, HB.out⟩
  have hv1 := Decidable.not_not.1 hv1
  subst hv1
  by_cases hi1 : ¬ i1 = i2
  · have HF : Hid (eqH ⟨v1, i1, s1, z1, l1, m1⟩ ⟨v1, i2, s2, z2, l2, m2⟩ = false) := Lib.hid (decide_eq_false fun h => hi1 (by injection h))
    have ei1 : (i1 == i2) = false := by simp; omega
    clear hi1
    go_enter Tryz.func33, Tryz.ntmps33
    go_wp2
    go_ret
    exact ⟨by rw [HF.out]; rfl, HB.out⟩
  have hi1 := Decidable.not_not.1 hi1
  subst hi1
  by_cases hs1 : ¬ s1 = s2
  · have HF : Hid (eqH ⟨v1, i1, s1, z1, l1, m1⟩ ⟨v1, i1, s2, z2, l2, m2⟩ = false) := Lib.hid (decide_eq_false fun h => hs1 (by injection h))
    have es1 : (s1 == s2) = false := by simp; omega
    clear hs1
    go_enter Tryz.func33, Tryz.ntmps33
    go_wp2
    go_ret
    exact ⟨by rw [HF.out]; rfl, HB.out⟩
  have hs1 := Decidable.not_not.1 hs1
  subst hs1
  by_cases hz1 : ¬ z1 = z2
  · have HF : Hid (eqH ⟨v1, i1, s1, z1, l1, m1⟩ ⟨v1, i1, s1, z2, l2, m2⟩ = false) := Lib.hid (decide_eq_false fun h => hz1 (by injection h))
    have ez1 : (((z1 : Int)) == ((z2 : Int))) = false := by simp; omega
    clear hz1
    go_enter Tryz.func33, Tryz.ntmps33
    go_wp2
    go_ret
    exact ⟨by rw [HF.out]; rfl, HB.out⟩
  have hz1 := Decidable.not_not.1 hz1
  subst hz1
  by_cases hl1 : ¬ l1 = l2
  · have HF : Hid (eqH ⟨v1, i1, s1, z1, l1, m1⟩ ⟨v1, i1, s1, z1, l2, m2⟩ = false) := Lib.hid (decide_eq_false fun h => hl1 (by injection h))
    rw [decide_eq_false hl1] at HL
    clear hl1
    go_enter Tryz.func33, Tryz.ntmps33
    go_wp2_with (fail)
    refine (HL.out _ HB.out).mono ?_
    rintro e w' ⟨rfl, ⟨n1, rfl⟩⟩
    go_wp2
    go_ret
    exact ⟨by rw [HF.out]; rfl, below_drewN HB.out _⟩
  have hl1 := Decidable.not_not.1 hl1
  rw [decide_eq_true hl1] at HL
  subst hl1
  by_cases hm1 : ¬ m1 = m2
  · have HF : Hid (eqH ⟨v1, i1, s1, z1, l1, m1⟩ ⟨v1, i1, s1, z1, l1, m2⟩ = false) := Lib.hid (decide_eq_false fun h => hm1 (by injection h))
    rw [decide_eq_false hm1] at HM
    clear hm1
    go_enter Tryz.func33, Tryz.ntmps33
    go_wp2_with (fail)
    refine (HL.out _ HB.out).mono ?_
    rintro e w' ⟨rfl, ⟨n1, rfl⟩⟩
    go_wp2_with (fail)
    refine (HM.out _ (below_drewN HB.out _)).mono ?_
    rintro e w' ⟨rfl, ⟨n2, rfl⟩⟩
    go_wp2
    go_ret
    exact ⟨by rw [HF.out]; rfl, below_drewN HB.out _⟩
  have hm1 := Decidable.not_not.1 hm1
  rw [decide_eq_true hm1] at HM
  subst hm1
  have HF : Hid (eqH ⟨v1, i1, s1, z1, l1, m1⟩ ⟨v1, i1, s1, z1, l1, m1⟩ = true) := Lib.hid (decide_eq_true rfl)
  go_enter Tryz.func33, Tryz.ntmps33
  go_wp2_with (fail)
  refine (HL.out _ HB.out).mono ?_
  rintro e w' ⟨rfl, ⟨n1, rfl⟩⟩
  go_wp2_with (fail)
  refine (HM.out _ (below_drewN HB.out _)).mono ?_
  rintro e w' ⟨rfl, ⟨n2, rfl⟩⟩
  go_wp2
  go_ret
  exact ⟨by rw [HF.out]; rfl, below_drewN HB.out _⟩
set_option maxHeartbeats 1600000 in
theorem tells_calls (v : Value) (c : Nat) (nm : ByteArray) (n : Nat) (w : World) (h : Err w v (plc c nm n) .nilIface) (hc : c ≠ 0) :
    Calls Tryz.prog 20 #[v, .agg #[.int .i64 c, .string nm, .int .i64 n]] w fun e w' => e = .returned (.bool true) ∧ Below w.heap.size w w' := by
  have hb0 := below_alloc (Below.refl w.heap.size w) (.cells #[.int .i64 c, .string nm, .int .i64 n] 37)
  have HB0 := Lib.hid hb0
  have hpl : plc (c : Int) nm n = [⟨c, nm, n⟩, ⟨c, ⟨#[]⟩, 0⟩] := if_neg (by omega)
  rw [hpl] at h
  have h0 := h.below hb0
  have HAT := Lib.hid (FailE.at_calls nm h0)
  rw [show FailE.atF [⟨(c : Int), nm, (n : Int)⟩, ⟨c, ⟨#[]⟩, 0⟩] nm = ((n : Int), true) from if_pos rfl] at HAT
  have HK := Lib.hid (blk_last w (.cells #[.int .i64 c, .string nm, .int .i64 n] 37))
  have H0 := Lib.hid h0
  clear hb0 hpl h h0
  go_enter Tryz.func20, Tryz.ntmps20
  go_wp2_with (fail)
  refine HAT.out.mono ?_
  rintro e w1 ⟨rfl, hb1⟩
  have HB1 := Lib.hid (below_then HB0.out HB0.out.size hb1)
  have hk1 := (Ch.of_below (S := fun _ => False) hb1).blk HK.out (fun x => x)
  have HS := Lib.hid (fun W (hb : Below w1.heap.size w1 W) => (⟨hb, obj_cell (i := 0) ((Ch.of_below (S := fun _ => False) hb).blk hk1 (fun x => x)) rfl, obj_cell (i := 2) ((Ch.of_below (S := fun _ => False) hb).blk hk1 (fun x => x)) rfl⟩ : Below w1.heap.size w1 W ∧ W.cell? ⟨w.heap.size, 0, none⟩ = some (.int .i64 c) ∧ W.cell? ⟨w.heap.size, 2, none⟩ = some (.int .i64 n)))
  have HCO : Hid (∀ W, Below w1.heap.size w1 W → Calls Tryz.prog 50 #[v] W fun e w' => e = .returned (.int .i64 c) ∧ Below w1.heap.size w1 w') := Lib.hid (fun W hb => lift hb hb.size (code_calls ((H0.out.below hb1).below hb)))
  have HDE : Hid (∀ W, Below w1.heap.size w1 W → Calls Tryz.prog 79 #[v] W fun e w' => e = .returned (.int .i64 2) ∧ Below w1.heap.size w1 w') := Lib.hid (fun W hb => lift hb hb.size (FailE.depth_calls ((H0.out.below hb1).below hb) (by simp)))
  have hcc : ((c : Int) == (c : Int)) = true := by simp
  have hnn : ((n : Int) == (n : Int)) = true := by simp
  have hs1 := HS.out w1 (Below.refl _ _)
  clear hb1 hk1 HAT
  go_wp2_with (fail)
  go_region_held3 (fun W => Below w1.heap.size w1 W ∧ W.cell? ⟨w.heap.size, 0, none⟩ = some (.int .i64 c) ∧ W.cell? ⟨w.heap.size, 2, none⟩ = some (.int .i64 n))
    (first | exact HS.out _ (below_drew (by first | exact Below.refl _ _ | exact (And.left (by assumption)))) | exact HS.out _ (by assumption) | assumption)
    (first
    | (go_at_call 50; refine (HCO.out _ (And.left (by assumption))).mono ?_; rintro e w2 ⟨rfl, hb2⟩)
    | (go_at_call 79; refine (HDE.out _ (And.left (by assumption))).mono ?_; rintro e w2 ⟨rfl, hb3⟩))
  go_wp2
  go_ret
  exact ⟨rfl, below_then HB1.out HB1.out.size (by assumption)⟩
end Go.Proofs.YtjfekjbmgckkcaaGreatDoor.Law14C

/- law 14: a head as the document has it. -/
namespace Go.Proofs.YtjfekjbmgckkcaaGreatDoor.Law14D
open Go.RowKit Go.Proofs.YtjfekjbmgckkcaaGreatDoorW.PrintWords
open Go.Proofs.YtjfekjbmgckkcaaGreatDoor.Bits Go.Proofs.YtjfekjbmgckkcaaGreatDoor.Base Go.Proofs.YtjfekjbmgckkcaaGreatDoor.VarKit Go.Proofs.YtjfekjbmgckkcaaGreatDoor.StreamA Go.Proofs.YtjfekjbmgckkcaaGreatDoor.SpanPure Go.Proofs.YtjfekjbmgckkcaaGreatDoor.SpanBase Go.Proofs.YtjfekjbmgckkcaaGreatDoor.HeadA Go.Proofs.YtjfekjbmgckkcaaGreatDoor.HeadB Go.Proofs.YtjfekjbmgckkcaaGreatDoor.HeadL Go.Proofs.YtjfekjbmgckkcaaGreatDoor.Ref12 Go.Proofs.YtjfekjbmgckkcaaGreatDoor.Law14A

/-- what stands while a head is told anew. -/
structure St (w : World) (o : Obj) (W : World) : Prop where
  b : Below w.heap.size w W
  o : W.heap[w.heap.size]? = some o
  z : ∃ cs : Array Value, cs.size = 6 ∧ W.heap[w.heap.size + 1]? = some (.cells cs 41 (0, 0))
theorem St.drew {w W : World} {o : Obj} (h : St w o W) : St w o W.drew := ⟨below_drew h.b, h.o, h.z⟩
theorem St.six {w W : World} {o : Obj} (h : St w o W) (v0 v1 v2 v3 v4 v5 : Value) : St w o (six W (w.heap.size + 1) v0 v1 v2 v3 v4 v5) :=
  ⟨(((((h.b.setCell (Nat.le_succ _) v0).setCell (Nat.le_succ _) v1).setCell (Nat.le_succ _) v2).setCell (Nat.le_succ _) v3).setCell (Nat.le_succ _) v4).setCell (Nat.le_succ _) v5,
    (six_ch W (w.heap.size + 1) v0 v1 v2 v3 v4 v5).blk h.o (by omega), by
    obtain ⟨cs, hs, hz⟩ := h.z
    exact ⟨_, by simpa using hs, blk_set (blk_set (blk_set (blk_set (blk_set (blk_set hz 0 v0) 1 v1) 2 v2) 3 v3) 4 v4) 5 v5⟩⟩
theorem St.below {w W W2 : World} {o : Obj} (h : St w o W) (hb : Below W.heap.size W W2) : St w o W2 :=
  ⟨below_then h.b h.b.size hb, (Ch.of_below (S := fun _ => False) hb).blk h.o (fun x => x), by
    obtain ⟨cs, hs, hz⟩ := h.z
    exact ⟨cs, hs, (Ch.of_below (S := fun _ => False) hb).blk hz (fun x => x)⟩⟩
theorem St.free {w W : World} {o : Obj} (h : St w o W) : ∃ u0 u1 u2 u3 u4 u5 : Value, (W.frozen? ⟨w.heap.size + 1, 0, none⟩ = false ∧ W.frozen? ⟨w.heap.size + 1, 1, none⟩ = false ∧ W.frozen? ⟨w.heap.size + 1, 2, none⟩ = false ∧ W.frozen? ⟨w.heap.size + 1, 3, none⟩ = false ∧ W.frozen? ⟨w.heap.size + 1, 4, none⟩ = false ∧ W.frozen? ⟨w.heap.size + 1, 5, none⟩ = false) ∧
    (W.cell? ⟨w.heap.size + 1, 0, none⟩ = some u0 ∧ W.cell? ⟨w.heap.size + 1, 1, none⟩ = some u1 ∧ W.cell? ⟨w.heap.size + 1, 2, none⟩ = some u2 ∧ W.cell? ⟨w.heap.size + 1, 3, none⟩ = some u3 ∧ W.cell? ⟨w.heap.size + 1, 4, none⟩ = some u4 ∧ W.cell? ⟨w.heap.size + 1, 5, none⟩ = some u5) := by
  obtain ⟨cs, hs, hz⟩ := h.z
  have hc : ∀ i, i < 6 → cs[i]? = some (cs.getD i undef) := fun i hi => by simp [Array.getD, hs, hi]
  exact ⟨_, _, _, _, _, _, ⟨obj_free hz, obj_free hz, obj_free hz, obj_free hz, obj_free hz, obj_free hz⟩, ⟨obj_cell hz (hc 0 (by decide)), obj_cell hz (hc 1 (by decide)), obj_cell hz (hc 2 (by decide)), obj_cell hz (hc 3 (by decide)), obj_cell hz (hc 4 (by decide)), obj_cell hz (hc 5 (by decide))⟩⟩
theorem sps_any {S : Nat → Prop} {e base : Nat} {w w1 : World} {v : Value} {l : List Sp} (h : OwSp e w base v l) (hc : Ch S w w1) (hS : ∀ k, S k → k < base) : OwSp e w1 base v l :=
  h.move fun g hg => hc.block g (h.lt_ g hg) fun hs => Nat.lt_irrefl _ (Nat.lt_of_lt_of_le (hS g hs) (h.base_ g hg))
theorem spl_any {w : World} {base : Nat} {e : Nat} {A : Option Addr} {n c : Nat} {l : List Sp} (h : OwSp e w base (.slice A n c) l) (hl : l.length ≤ 1000000) : Spl w A c l := by
  obtain ⟨A', c', he, h1, h2, h3⟩ := h.reads
  injection he with e1 e2 e3
  subst e1 e3
  exact ⟨h3, hl, h1, h2⟩
set_option maxRecDepth 100000 in
set_option maxHeartbeats 3200000 in
theorem ref_calls (h : Hd) (p : Lc) (w : World) (hh : HdIn w h p) :
    Calls Tryz.prog 19 #[.agg (hcs h p).toArray] w fun e w' => ∃ r : Lc, e = .returned (.agg (hcs h r).toArray) ∧ HdIn w' h r ∧ Below w.heap.size w w' := by
  obtain ⟨vr, hint, schema, zt, pos, neg⟩ := h
  obtain ⟨A, c, B, d⟩ := p
  obtain ⟨hp, hn, hz⟩ := hh
  simp only at hp hn hz
  show Calls Tryz.prog 19 #[.agg #[.int .i64 vr, .int .i64 hint, .int .i64 schema, .int .u64 zt, .slice A pos.length c, .slice B neg.length d]] w _
  obtain ⟨o0, ho0, hs0⟩ : ∃ o : Obj, o = (.cells #[.int .i64 vr, .int .i64 hint, .int .i64 schema, .int .u64 zt, .slice A pos.length c, .slice B neg.length d] 25 (0, 0)) ∧ St w o ((w.alloc (.cells #[.int .i64 vr, .int .i64 hint, .int .i64 schema, .int .u64 zt, .slice A pos.length c, .slice B neg.length d] 25)).alloc (.cells #[.int .i64 0, .int .i64 0, .int .i64 0, .int .u64 0, .slice none 0 0, .slice none 0 0] 41)) := ⟨_, rfl, ⟨below_alloc (below_alloc (Below.refl _ _) _) _, (Below.heap_alloc (w.alloc (.cells #[.int .i64 vr, .int .i64 hint, .int .i64 schema, .int .u64 zt, .slice A pos.length c, .slice B neg.length d] 25)) (.cells #[.int .i64 0, .int .i64 0, .int .i64 0, .int .u64 0, .slice none 0 0, .slice none 0 0] 41) w.heap.size (blk_lt (blk_last w _))).trans (blk_last w _), ⟨_, rfl, by
    have := blk_last (w.alloc (.cells #[.int .i64 vr, .int .i64 hint, .int .i64 schema, .int .u64 zt, .slice A pos.length c, .slice B neg.length d] 25)) (.cells #[.int .i64 0, .int .i64 0, .int .i64 0, .int .u64 0, .slice none 0 0, .slice none 0 0] 41)
    rwa [show (w.alloc (.cells #[.int .i64 vr, .int .i64 hint, .int .i64 schema, .int .u64 zt, .slice A pos.length c, .slice B neg.length d] 25)).heap.size = w.heap.size + 1 from by simp] at this⟩⟩⟩
  have HSF : Hid (∀ W, St w (.cells #[.int .i64 vr, .int .i64 hint, .int .i64 schema, .int .u64 zt, .slice A pos.length c, .slice B neg.length d] 25 (0, 0)) W → (St w (.cells #[.int .i64 vr, .int .i64 hint, .int .i64 schema, .int .u64 zt, .slice A pos.length c, .slice B neg.length d] 25 (0, 0)) W ∧ W.cell? ⟨w.heap.size, 0, none⟩ = some (.int .i64 vr) ∧ W.cell? ⟨w.heap.size, 1, none⟩ = some (.int .i64 hint) ∧ W.cell? ⟨w.heap.size, 2, none⟩ = some (.int .i64 schema) ∧ W.cell? ⟨w.heap.size, 3, none⟩ = some (.int .u64 zt) ∧ W.cell? ⟨w.heap.size, 4, none⟩ = some (.slice A pos.length c) ∧ W.cell? ⟨w.heap.size, 5, none⟩ = some (.slice B neg.length d))) := Lib.hid (fun W h => ⟨h, obj_cell h.o rfl, obj_cell h.o rfl, obj_cell h.o rfl, obj_cell h.o rfl, obj_cell h.o rfl, obj_cell h.o rfl⟩)
  rw [← ho0] at HSF
  have HPN : Hid (∀ (A' : Option Addr) (c' : Nat) (l : List Sp) W, St w o0 W → Spl w A' c' l → Calls Tryz.prog 78 #[.slice A' l.length c'] W fun e w' =>
      ∃ v, e = .returned v ∧ OwSp 214 w' W.heap.size v l ∧ Below W.heap.size W w' ∧ St w o0 w') := Lib.hid (by
    intro A' c' l W hb hl
    refine (spans_calls _ _ l W (hl.below hb.b).rd hl.len).mono ?_
    rintro e w' ⟨v, he, hw, hb'⟩
    exact ⟨v, he, hw, hb', hb.below hb'⟩)
  have HS0 := Lib.hid hs0
  have HZ := Lib.hid hz
  have HPS := Lib.hid hp
  have HNS := Lib.hid hn
  clear hp hn hz ho0 hs0
  go_enter Tryz.func19, Tryz.ntmps19
  go_wp2_with (fail)
  go_region_held3 (fun W => St w o0 W ∧ W.cell? ⟨w.heap.size, 0, none⟩ = some (.int .i64 vr) ∧ W.cell? ⟨w.heap.size, 1, none⟩ = some (.int .i64 hint) ∧ W.cell? ⟨w.heap.size, 2, none⟩ = some (.int .i64 schema) ∧ W.cell? ⟨w.heap.size, 3, none⟩ = some (.int .u64 zt) ∧ W.cell? ⟨w.heap.size, 4, none⟩ = some (.slice A pos.length c) ∧ W.cell? ⟨w.heap.size, 5, none⟩ = some (.slice B neg.length d))
    (first | (with_reducible exact HSF.out _ (St.drew HS0.out)) | (with_reducible exact HSF.out _ hst2) | (with_reducible exact HSF.out _ hst1) | (exact HSF.out _ (St.six hst2 _ _ _ _ _ _)))
    (first
    | (go_at_call 78; (with_reducible show Calls _ _ #[Value.slice A pos.length c] _ _); refine (HPN.out _ _ _ _ (And.left (by assumption)) HPS.out).mono ?_; rintro e w2 ⟨v1, rfl, ho1, hb1, hst1⟩; obtain ⟨A1, c1, rfl, -, -, -⟩ := ho1.reads; have hS1 := HSF.out _ hst1)
    | (go_at_call 78; refine (HPN.out _ _ _ _ (And.left (by assumption)) HNS.out).mono ?_; rintro e w3 ⟨v2, rfl, ho2, hb2, hst2⟩; obtain ⟨A2, c2, rfl, -, -, -⟩ := ho2.reads; have hS2 := HSF.out _ hst2; obtain ⟨u0, u1, u2, u3, u4, u5, ⟨f0, f1, f2, f3, f4, f5⟩, ⟨e0, e1, e2, e3, e4, e5⟩⟩ := hst2.free))
  have h6 := (St.six hst2 (.int .i64 vr) (.int .i64 hint) (.int .i64 schema) (.int .u64 zt) (.slice A1 pos.length c1) (.slice A2 neg.length c2)).b
  have hx := six_ch w3 (w.heap.size + 1) (.int .i64 vr) (.int .i64 hint) (.int .i64 schema) (.int .u64 zt) (.slice A1 pos.length c1) (.slice A2 neg.length c2)
  have hst1s := hst1.b.size
  have q1 := sps_any (ho1.below hb2) hx (fun k hk => by rw [hk]; simp)
  have q2 := sps_any ho2 hx (fun k hk => by rw [hk]; obtain ⟨cs, -, hz⟩ := hst1.z; exact blk_lt hz)
  have H6 := Lib.hid h6
  have Q1 := Lib.hid q1
  have Q2 := Lib.hid q2
  clear h6 hx q1 q2 ho1 ho2 hb1 hb2 hS1 hS2 hst1 hst2 hst1s
  go_wp2
  refine bodyPost_ret (v := .agg #[.int .i64 vr, .int .i64 hint, .int .i64 schema, .int .u64 zt, .slice A1 pos.length c1, .slice A2 neg.length c2]) (by rw [results_cell1 rfl]; go_simp) rfl ?_
  exact ⟨⟨A1, c1, A2, c2⟩, rfl, ⟨spl_any Q1.out HPS.out.len, spl_any Q2.out HNS.out.len, HZ.out⟩, H6.out⟩
end Go.Proofs.YtjfekjbmgckkcaaGreatDoor.Law14D

/- the reference of layer 14: the bits of spans, of a head. -/
namespace Go.Proofs.YtjfekjbmgckkcaaGreatDoor.Ref14B
open Go.RowKit Go.Proofs.YtjfekjbmgckkcaaGreatDoorW.PrintWords
open Go.Proofs.YtjfekjbmgckkcaaGreatDoor.Bits Go.Proofs.YtjfekjbmgckkcaaGreatDoor.Base Go.Proofs.YtjfekjbmgckkcaaGreatDoor.VarPure Go.Proofs.YtjfekjbmgckkcaaGreatDoor.VarKit Go.Proofs.YtjfekjbmgckkcaaGreatDoor.StreamA Go.Proofs.YtjfekjbmgckkcaaGreatDoor.SpanPure Go.Proofs.YtjfekjbmgckkcaaGreatDoor.SpanBase Go.Proofs.YtjfekjbmgckkcaaGreatDoor.ThrPure Go.Proofs.YtjfekjbmgckkcaaGreatDoor.HeadA Go.Proofs.YtjfekjbmgckkcaaGreatDoor.HeadB Go.Proofs.YtjfekjbmgckkcaaGreatDoor.HeadPure Go.Proofs.YtjfekjbmgckkcaaGreatDoor.HeadD Go.Proofs.YtjfekjbmgckkcaaGreatDoor.HeadE Go.Proofs.YtjfekjbmgckkcaaGreatDoor.Ref01 Go.Proofs.YtjfekjbmgckkcaaGreatDoor.Ref04 Go.Proofs.YtjfekjbmgckkcaaGreatDoor.Ref12

set_option maxRecDepth 100000 in
set_option maxHeartbeats 3200000 in
theorem Spans_calls (A : Option Addr) (c : Nat) (l : List Sp) (w : World) (hr : RdSp w A l) (hm : l.length ≤ 1024) (hin : ∀ s ∈ l, -2097153 ≤ s.1 ∧ s.1 ≤ 2097152 ∧ 0 ≤ s.2 ∧ s.2 ≤ 4096) :
    Calls Tryz.prog 83 #[.slice A l.length c] w fun e w' => e = .returned (.string (txt (encSp l))) ∧ Below w.heap.size w w' := by
  have HR := Lib.hid hr
  have HIN := Lib.hid hin
  have HUL := Lib.hid (U_calls l.length w (by omega))
  have HU := Lib.hid (fun x W (hb : Below w.heap.size w W) (hx : x < 18446744073709551616) => lift hb hb.size (U_calls x W hx))
  have HSS := Lib.hid (fun v W (hb : Below w.heap.size w W) (h1 : -9223372036854775808 ≤ v) (h2 : v ≤ 9223372036854775807) => lift hb hb.size (S_calls v W h1 h2))
  clear hr hin
  go_enter Tryz.func83, Tryz.ntmps83
  go_wp2_with (fail)
  refine HUL.out.mono ?_
  rintro e w1 ⟨rfl, hb1⟩
  have HB1 := Lib.hid hb1
  clear hb1 HUL
  go_wp2
  go_loopw [3, 4] (fun v i wr => ∃ k : Nat, k ≤ l.length ∧ i = .int .i64 k ∧ v = .string (txt (encU l.length ++ encSps (l.take k))) ∧ Below w.heap.size w wr) (fun _ i _ => l.length - (intOf i).toNat)
  case atStart => exact ⟨0, by omega, rfl, by simp [encSps], HB1.out⟩
  case round =>
    obtain ⟨k, hk, rfl, rfl, hb⟩ := hrel
    have HB := Lib.hid hb
    by_cases hlt : k < l.length
    · obtain ⟨ad, hA, c0, c1⟩ := (HR.out.below hb).at_ k hlt
      subst hA
      obtain ⟨h1, h2, h3, h4⟩ := HIN.out l[k] (List.getElem_mem hlt)
      have HSF := Lib.hid (fun W (h : Below w.heap.size w W) => by
        obtain ⟨ad', hA, c0', c1'⟩ := (HR.out.below h).at_ k hlt
        injection hA with hA
        subst hA
        exact ⟨h, c0', c1'⟩ : ∀ W, Below w.heap.size w W → (Below w.heap.size w W ∧ W.cell? (ad.add (k * 2)) = some (.int .i64 l[k].1) ∧ W.cell? ⟨(ad.add (k * 2)).block, (ad.add (k * 2)).off + 1, none⟩ = some (.int .i64 l[k].2)))
      have HT := Lib.hid (encSps_take l k hlt)
      have hl1 := encSps_le (l.take k)
      have hlt2 : (l.take k).length ≤ 1024 := by rw [List.length_take]; omega
      have hl2 := encU_le l.length
      have hl3 := encU_le l[k].2.toNat
      have hl4 := encS_le l[k].1
      obtain ⟨s, hs⟩ : ∃ s, s = l[k] := ⟨_, rfl⟩
      rw [← hs] at c0 c1 h1 h2 h3 h4 HSF HT hl3 hl4
      obtain ⟨o, q⟩ := s
      simp only at c0 c1 h1 h2 h3 h4 HSF HT hl3 hl4
      obtain ⟨n, rfl⟩ := Int.eq_ofNat_of_zero_le h3
      rw [Int.toNat_natCast] at hl3
      have HUK := Lib.hid (fun W hb => HU.out n W hb (by omega))
      have HSK := Lib.hid (fun W hb => HSS.out o W hb (by omega) (by omega))
      obtain ⟨X, hX⟩ : ∃ X, X = encU l.length ++ encSps (l.take k) := ⟨_, rfl⟩
      have hXl : X.length ≤ 1000000 := by rw [hX, List.length_append]; omega
      have HN : Hid (txt (encU l.length ++ encSps (l.take (k + 1))) = txt X ++ (txt (encU n) ++ txt (encS o))) := Lib.hid (by
        rw [HT.out, hX, ← txt_append, ← txt_append]
        simp [encSp1, List.append_assoc])
      rw [← hX]
      have z1 : (txt X).size ≤ 1000000 := by rw [txt_size]; exact hXl
      have z2 : (txt (encU n)).size ≤ 72 := by rw [txt_size]; exact hl3
      have z3 : (txt (encS o)).size ≤ 72 := by rw [txt_size]; exact hl4
      have hwn : IntKind.u64.wrap (n : Int) = (n : Int) := by rw [IntKind.wrap_u64]; omega
      obtain ⟨sX, hsX⟩ : ∃ s, s = txt X := ⟨_, rfl⟩
      obtain ⟨sU, hsU⟩ : ∃ s, s = txt (encU n) := ⟨_, rfl⟩
      obtain ⟨sS, hsS⟩ : ∃ s, s = txt (encS o) := ⟨_, rfl⟩
      rw [← hsX] at z1 HN ⊢
      rw [← hsU] at z2 HN HUK
      rw [← hsS] at z3 HN HSK
      have n1 : ¬ (9223372036854775807 < sU.size + sS.size) := by omega
      have n2 : ¬ (9223372036854775807 < sX.size + (sU.size + sS.size)) := by omega
      have n3 : ¬ (9223372036854775807 < sX.size + (sU ++ sS).size) := by rw [ByteArray.size_append]; omega
      have hcells := HSF.out _ hb
      clear hsX hsU hsS hX hXl hl1 hl2 hl3 hl4 hlt2 hs h1 h2 h3 h4 hb HT
      go_wp2_with (fail)
      go_region_held3 (fun W => Below w.heap.size w W ∧ W.cell? (ad.add (k * 2)) = some (.int .i64 o) ∧ W.cell? ⟨(ad.add (k * 2)).block, (ad.add (k * 2)).off + 1, none⟩ = some (.int .i64 (n : Int)))
        (first | (with_reducible exact HSF.out _ (below_drew HB.out)) | (with_reducible exact HSF.out _ hbs) | (with_reducible exact HSF.out _ hbu))
        (first
        | (go_at_call 156; refine (HUK.out _ (And.left (by assumption))).mono ?_; rintro e w2 ⟨rfl, hbu⟩; have hcells := HSF.out _ hbu)
        | (go_at_call 81; refine (HSK.out _ (And.left (by assumption))).mono ?_; rintro e w3 ⟨rfl, hbs⟩; have hcells := HSF.out _ hbs))
      all_goals go_wp2
      all_goals
        go_roundw
        case rel => exact ⟨k + 1, by omega, by go_num, by rw [HN.out], by assumption⟩
        case measure => simp [intOf]; omega
    · obtain rfl : k = l.length := by omega
      have HF : Hid (txt (encSp l) = txt (encU l.length ++ encSps (l.take l.length))) := Lib.hid (by rw [List.take_length]; rfl)
      clear hb
      go_wp2
      go_ret
      exact ⟨by rw [HF.out]; rfl, HB.out⟩
theorem flags_bits (I V : Nat) (hI : I < 4) (hV : V < 2) : nb I 2 ++ nb V 1 ++ [false, false, false, false, false] = nb ((2 * I + V) * 32) 8 := by
  have h : ∀ (i : Fin 4) (v : Fin 2), nb i.val 2 ++ nb v.val 1 ++ [false, false, false, false, false] = nb ((2 * i.val + v.val) * 32) 8 := by decide +kernel
  exact h ⟨I, hI⟩ ⟨V, hV⟩
structure Sb (w : World) (o : Obj) (W : World) : Prop where
  b : Below w.heap.size w W
  o : W.heap[w.heap.size]? = some o
theorem Sb.drew {w W : World} {o : Obj} (h : Sb w o W) : Sb w o W.drew := ⟨below_drew h.b, h.o⟩
theorem Sb.below {w W W2 : World} {o : Obj} (h : Sb w o W) (hb : Below W.heap.size W W2) : Sb w o W2 := ⟨below_then h.b h.b.size hb, (Ch.of_below (S := fun _ => False) hb).blk h.o (fun x => x)⟩
set_option maxRecDepth 100000 in
set_option maxHeartbeats 3200000 in
theorem Bits14_calls (h : Hd) (p : Lc) (w : World) (hh : HdIn w h p) (he : (headErr h).1 = 0) :
    Calls Tryz.prog 23 #[.agg (hcs h p).toArray] w fun e w' => e = .returned (.string (txt (encH h))) ∧ Below w.heap.size w w' := by
  obtain ⟨hv, hi0, hi3, hs0, hs8, -, hsp, hsn⟩ := err_zero he
  obtain ⟨vr, hint, schema, zt, pos, neg⟩ := h
  obtain ⟨A, c, B, d⟩ := p
  obtain ⟨hp, hn, hz⟩ := hh
  simp only at *
  obtain ⟨V, rfl⟩ := Int.eq_ofNat_of_zero_le (show 0 ≤ vr by omega)
  obtain ⟨I, rfl⟩ := Int.eq_ofNat_of_zero_le hi0
  show Calls Tryz.prog 23 #[.agg #[.int .i64 V, .int .i64 I, .int .i64 schema, .int .u64 zt, .slice A pos.length c, .slice B neg.length d]] w _
  obtain ⟨o1, ho1, hs1⟩ : ∃ o1 : Obj, o1 = (.cells #[.int .i64 V, .int .i64 I, .int .i64 schema, .int .u64 zt, .slice A pos.length c, .slice B neg.length d] 41 (0, 0)) ∧ Sb w o1 (w.alloc (.cells #[.int .i64 V, .int .i64 I, .int .i64 schema, .int .u64 zt, .slice A pos.length c, .slice B neg.length d] 41)) := ⟨_, rfl, below_alloc (Below.refl _ _) _, blk_last w _⟩
  have HSF : Hid (∀ W, Sb w o1 W → (Sb w o1 W ∧ W.cell? ⟨w.heap.size, 0, none⟩ = some (.int .i64 (V : Int)) ∧ W.cell? ⟨w.heap.size, 1, none⟩ = some (.int .i64 (I : Int)) ∧ W.cell? ⟨w.heap.size, 2, none⟩ = some (.int .i64 schema) ∧ W.cell? ⟨w.heap.size, 3, none⟩ = some (.int .u64 zt) ∧ W.cell? ⟨w.heap.size, 4, none⟩ = some (.slice A pos.length c) ∧ W.cell? ⟨w.heap.size, 5, none⟩ = some (.slice B neg.length d))) := Lib.hid (fun W h => by
    subst ho1
    exact ⟨h, obj_cell h.o rfl, obj_cell h.o rfl, obj_cell h.o rfl, obj_cell h.o rfl, obj_cell h.o rfl, obj_cell h.o rfl⟩)
  have HS0 := Lib.hid hs1
  have HNI := Lib.hid (fun W => number_calls I 2 W (by omega) (by decide))
  have HNV := Lib.hid (fun W => number_calls V 1 W (by omega) (by decide))
  have HSC : Hid (∀ W, Sb w o1 W → Calls Tryz.prog 81 #[.int .i64 schema] W fun e w' => e = .returned (.string (txt (encS schema))) ∧ Sb w o1 w') := Lib.hid (fun W h => (S_calls schema W (by omega) (by omega)).mono fun e w' ⟨a, b⟩ => ⟨a, h.below b⟩)
  have HZC := Lib.hid (fun W => Bits12_calls zt W hz)
  have HPC : Hid (∀ W, Sb w o1 W → Calls Tryz.prog 83 #[.slice A pos.length c] W fun e w' => e = .returned (.string (txt (encSp pos))) ∧ Sb w o1 w') := Lib.hid (fun W h => (Spans_calls A c pos W (hp.below h.b).rd (sides_in hsp).1 (sides_in hsp).2).mono fun e w' ⟨a, b⟩ => ⟨a, h.below b⟩)
  have HNC : Hid (∀ W, Sb w o1 W → Calls Tryz.prog 83 #[.slice B neg.length d] W fun e w' => e = .returned (.string (txt (encSp neg))) ∧ Sb w o1 w') := Lib.hid (fun W h => (Spans_calls B d neg W (hn.below h.b).rd (sides_in hsn).1 (sides_in hsn).2).mono fun e w' ⟨a, b⟩ => ⟨a, h.below b⟩)
  have HE : Hid (txt (encH ⟨(V : Int), (I : Int), schema, zt, pos, neg⟩) = txt (nb I 2) ++ txt (nb V 1) ++ ⟨#[48, 48, 48, 48, 48]⟩ ++ txt (encS schema) ++ txt (encT zt) ++ txt (encSp pos) ++ txt (encSp neg)) := Lib.hid (by
    have h5 : (⟨#[48, 48, 48, 48, 48]⟩ : ByteArray) = txt [false, false, false, false, false] := rfl
    rw [h5, ← txt_append, ← txt_append, ← txt_append, ← txt_append, ← txt_append, ← txt_append, flags_bits I V (by omega) (by omega)]
    simp [encH])
  have l1 : (txt (nb I 2)).size ≤ 2 := by rw [txt_size, nb_length]; exact Nat.le_refl _
  have l2 : (txt (nb V 1)).size ≤ 1 := by rw [txt_size, nb_length]; exact Nat.le_refl _
  have l3 : (txt (encS schema)).size ≤ 72 := by rw [txt_size]; exact encS_le _
  have l4 : (txt (encT zt)).size ≤ 72 := by rw [txt_size]; exact encT_length _
  have l5 : (txt (encSp pos)).size ≤ 200000 := by rw [txt_size]; have h1 := encSp_le pos; have h2 := (sides_in hsp).1; omega
  have l6 : (txt (encSp neg)).size ≤ 200000 := by rw [txt_size]; have h1 := encSp_le neg; have h2 := (sides_in hsn).1; omega
  have hwI : IntKind.u64.wrap (I : Int) = (I : Int) := by rw [IntKind.wrap_u64]; omega
  have hwV : IntKind.u64.wrap (V : Int) = (V : Int) := by rw [IntKind.wrap_u64]; omega
  obtain ⟨sI, hsI⟩ : ∃ s, s = txt (nb I 2) := ⟨_, rfl⟩
  obtain ⟨sV, hsV⟩ : ∃ s, s = txt (nb V 1) := ⟨_, rfl⟩
  obtain ⟨sS, hsS⟩ : ∃ s, s = txt (encS schema) := ⟨_, rfl⟩
  obtain ⟨sZ, hsZ⟩ : ∃ s, s = txt (encT zt) := ⟨_, rfl⟩
  obtain ⟨sP, hsP⟩ : ∃ s, s = txt (encSp pos) := ⟨_, rfl⟩
  obtain ⟨sN, hsN⟩ : ∃ s, s = txt (encSp neg) := ⟨_, rfl⟩
  rw [← hsI] at HNI HE l1
  rw [← hsV] at HNV HE l2
  rw [← hsS] at HSC HE l3
  rw [← hsZ] at HZC HE l4
  rw [← hsP] at HPC HE l5
  rw [← hsN] at HNC HE l6
  have hz5 : (⟨#[48, 48, 48, 48, 48]⟩ : ByteArray).size = 5 := rfl
  have a0 : ¬ (9223372036854775807 < sI.size + sV.size) := by omega
  have a1 : ¬ (9223372036854775807 < sI.size + sV.size + 5) := by omega
  have a2 : ¬ (9223372036854775807 < sI.size + sV.size + 5 + sS.size) := by omega
  have a3 : ¬ (9223372036854775807 < sI.size + sV.size + 5 + sS.size + sZ.size) := by omega
  have a4 : ¬ (9223372036854775807 < sI.size + sV.size + 5 + sS.size + sZ.size + sP.size) := by omega
  have a5 : ¬ (9223372036854775807 < sI.size + sV.size + 5 + sS.size + sZ.size + sP.size + sN.size) := by omega
  clear hv hi0 hi3 hs0 hs8 hsp hsn hp hn hz he ho1 hs1 hsI hsV hsS hsZ hsP hsN
  go_enter Tryz.func23, Tryz.ntmps23
  go_wp2_with (fail)
  go_region_held3 (fun W => Sb w o1 W ∧ W.cell? ⟨w.heap.size, 0, none⟩ = some (.int .i64 (V : Int)) ∧ W.cell? ⟨w.heap.size, 1, none⟩ = some (.int .i64 (I : Int)) ∧ W.cell? ⟨w.heap.size, 2, none⟩ = some (.int .i64 schema) ∧ W.cell? ⟨w.heap.size, 3, none⟩ = some (.int .u64 zt) ∧ W.cell? ⟨w.heap.size, 4, none⟩ = some (.slice A pos.length c) ∧ W.cell? ⟨w.heap.size, 5, none⟩ = some (.slice B neg.length d))
    (first | (with_reducible exact HSF.out _ (Sb.drew HS0.out)) | (with_reducible exact HSF.out _ hst))
    (first
    | (go_at_call 80; (with_reducible show Calls _ _ #[_, Value.int .i64 2] _ _); refine (HNI.out _).mono ?_; rintro e w2 ⟨rfl, rfl⟩; have hst := Sb.drew HS0.out; have hcells := HSF.out _ hst)
    | (go_at_call 80; (with_reducible show Calls _ _ #[_, Value.int .i64 1] _ _); refine (HNV.out _).mono ?_; rintro e w2 ⟨rfl, rfl⟩)
    | (go_at_call 81; refine (HSC.out _ (by first | (with_reducible exact hst) | (with_reducible exact Sb.drew HS0.out))).mono ?_; rintro e w3 ⟨rfl, hst⟩; have hcells := HSF.out _ hst)
    | (go_at_call 82; refine (HZC.out _).mono ?_; rintro e w4 ⟨rfl, rfl⟩)
    | (go_at_call 83; (with_reducible show Calls _ _ #[Value.slice A pos.length c] _ _); refine (HPC.out _ hst).mono ?_; rintro e w5 ⟨rfl, hst⟩; have hcells := HSF.out _ hst)
    | (go_at_call 83; refine (HNC.out _ hst).mono ?_; rintro e w6 ⟨rfl, hst⟩; have hcells := HSF.out _ hst))
  have HF := Lib.hid hst.b
  go_wp2
  go_ret
  exact ⟨by rw [HE.out]; rfl, HF.out⟩
end Go.Proofs.YtjfekjbmgckkcaaGreatDoor.Ref14B

/- what head asks of the world, out of the row's condition. -/
namespace Go.Proofs.YtjfekjbmgckkcaaGreatDoor.HeadLaid
open Go.RowKit Go.Proofs.YtjfekjbmgckkcaaGreatDoorW.PrintWords
open Go.Proofs.YtjfekjbmgckkcaaGreatDoor.Base Go.Proofs.YtjfekjbmgckkcaaGreatDoor.VarPure Go.Proofs.YtjfekjbmgckkcaaGreatDoor.VarbitA Go.Proofs.YtjfekjbmgckkcaaGreatDoor.FailAs Go.Proofs.YtjfekjbmgckkcaaGreatDoor.FailD

abbrev laidAll : List (String × DataW Unit) := [("errors.errorType", Rows.laid_errors_errorType), ("tidepole/varbit.behinds", Rows.laid_tidepole_varbit_behinds)]
theorem rt : (Tryz.prog.cutTypes.find? (·.1 == "internal/reflectlite.rtype")).map (·.2) = some 290 := by kernel_rfl
theorem gEt : Tryz.prog.globalNamed "errors.errorType" = some 0 := by kernel_rfl
theorem oneRow : ((List.range 373).filter fun t => Tryz.prog.rowNamed t [101, 114, 114, 111, 114]) = [34] := by kernel_rfl
theorem tySize : Tryz.prog.types.size = 373 := by kernel_rfl
theorem split_laid (w : World) : laidMetH Tryz.prog laidAll w = (laidMet Tryz.prog [("tidepole/varbit.behinds", Rows.laid_tidepole_varbit_behinds)] w ∧ handlesMet Tryz.prog [("errors.errorType", Rows.laid_errors_errorType)] w) := by kernel_rfl
theorem handle_of {w : World} (h : handlesMet Tryz.prog [("errors.errorType", Rows.laid_errors_errorType)] w) : GlE w := by
  have h1 : ∃ name u ty, (Rows.laid_errors_errorType (H := Unit)).handleName? = some name ∧ (Tryz.prog.cutTypes.find? (·.1 == "internal/reflectlite.rtype")).map (·.2) = some u ∧ ty < Tryz.prog.types.size ∧ Tryz.prog.rowNamed ty name = true ∧ w.var? Tryz.prog "errors.errorType" = some #[.iface u (.agg #[typeHandle Tryz.prog ty])] := h _ (List.mem_singleton.2 rfl)
  obtain ⟨name, u, ty, e1, e2, e3, e4, e5⟩ := h1
  have en : name = [101, 114, 114, 111, 114] := (Option.some.inj e1).symm
  subst en
  obtain rfl := Option.some.inj (rt.symm.trans e2)
  have hm : ty ∈ (List.range 373).filter fun t => Tryz.prog.rowNamed t [101, 114, 114, 111, 114] := List.mem_filter.2 ⟨List.mem_range.2 (by rw [← tySize]; exact e3), e4⟩
  rw [oneRow] at hm
  obtain rfl := List.mem_singleton.1 hm
  have hh : typeHandle Tryz.prog 34 = .pointer (some ⟨3, 34, none⟩) := by kernel_rfl
  rw [hh] at e5
  simpa [GlE] using World.var?_cell gEt e5 0
theorem tab_met {w : World} (h2 : laidMet Tryz.prog [("tidepole/varbit.behinds", Lib.tabData .i64 ([0, 3, 6, 9, 12, 18, 25, 56, 64].map Int.ofNat))] w) : Tab w := by
  have hv := Lib.tabIs_of_head gTab tTab Tryz.underlying269 Tryz.underlying3 cEl cTab h2
  intro j hj
  have := World.var?_cell gTab hv j
  rw [this]
  have : j = 0 ∨ j = 1 ∨ j = 2 ∨ j = 3 ∨ j = 4 ∨ j = 5 ∨ j = 6 ∨ j = 7 ∨ j = 8 := by omega
  rcases this with rfl | rfl | rfl | rfl | rfl | rfl | rfl | rfl | rfl <;> rfl
theorem of_laid {w : World} (h : laidMetH Tryz.prog laidAll w) : Tab w ∧ GlE w := by
  rw [split_laid] at h
  exact ⟨tab_met h.1, handle_of h.2⟩
theorem wf_in {n : Int} (h : (Lit.int .i64 n).wf = true) : -9223372036854775808 ≤ n ∧ n ≤ 9223372036854775807 := by
  simp [Lit.wf, IntKind.min, IntKind.max, IntKind.bits, IntKind.signed] at h
  omega
end Go.Proofs.YtjfekjbmgckkcaaGreatDoor.HeadLaid

/- a head that comes in as a law's argument. -/
namespace Go.Proofs.YtjfekjbmgckkcaaGreatDoor.HdArg
open Go.RowKit Go.Proofs.YtjfekjbmgckkcaaGreatDoorW.PrintWords
open Go.Proofs.YtjfekjbmgckkcaaGreatDoor.Base Go.Proofs.YtjfekjbmgckkcaaGreatDoor.SpanPure Go.Proofs.YtjfekjbmgckkcaaGreatDoor.SpanBase Go.Proofs.YtjfekjbmgckkcaaGreatDoor.HeadA Go.Proofs.YtjfekjbmgckkcaaGreatDoor.HeadB Go.Proofs.YtjfekjbmgckkcaaGreatDoor.Law14A Go.Proofs.YtjfekjbmgckkcaaGreatDoor.LawBase

/-- a head that came in. -/
structure HdRd (w : World) (h : Hd) (p : Lc) : Prop where
  pos : RdSp w p.A h.pos
  neg : RdSp w p.B h.neg
  lp : h.pos.length ≤ 9223372036854775807
  ln : h.neg.length ≤ 9223372036854775807
theorem HdRd.below {w W : World} {h : Hd} {p : Lc} (x : HdRd w h p) (hb : Below w.heap.size w W) : HdRd W h p := ⟨x.pos.below hb, x.neg.below hb, x.lp, x.ln⟩
/-- spans that lie in memory. -/
theorem rd_sp {w : World} {A : Option Addr} {l : List (Int × Int)} (h : RdC w A (Rep.all (Rep.pair (Rep.int .i64) (Rep.int .i64)) l)) : RdSp w A l := h
abbrev rSp : Rep.Rep (Int × Int) := Rep.pair (Rep.int .i64) (Rep.int .i64)
abbrev rHd : Rep.Rep (Int × Int × Int × Int × Rep.Sl (Int × Int) × Rep.Sl (Int × Int)) := Rep.pair (Rep.int .i64) (Rep.pair (Rep.int .i64) (Rep.pair (Rep.int .i64) (Rep.pair (Rep.int .u64) (Rep.pair (Rep.slice rSp) (Rep.slice rSp)))))
/-- a head that came in, as the row hands it. -/
def hdOf (x : Int × Int × Int × Int × Rep.Sl (Int × Int) × Rep.Sl (Int × Int)) : Hd := ⟨x.1, x.2.1, x.2.2.1, x.2.2.2.1.toNat, x.2.2.2.2.1.l, x.2.2.2.2.2.l⟩
def lcOf (x : Int × Int × Int × Int × Rep.Sl (Int × Int) × Rep.Sl (Int × Int)) : Lc := ⟨x.2.2.2.2.1.at_, x.2.2.2.2.1.cap, x.2.2.2.2.2.at_, x.2.2.2.2.2.cap⟩
theorem u64_in {n : Int} (h : (Lit.int .u64 n).wf = true) : 0 ≤ n ∧ n < 18446744073709551616 := by
  simp [Lit.wf, IntKind.min, IntKind.max, IntKind.bits, IntKind.signed] at h
  omega
theorem enc_hd {w : World} {x : Int × Int × Int × Int × Rep.Sl (Int × Int) × Rep.Sl (Int × Int)} (h : rHd.ok w x) : rHd.enc x = hcs (hdOf x) (lcOf x) ∧ HdRd w (hdOf x) (lcOf x) ∧ (hdOf x).zero < 18446744073709551616 ∧
    (x.2.2.2.2.1.l.length ≤ x.2.2.2.2.1.cap ∧ (x.2.2.2.2.1.at_ = none → x.2.2.2.2.1.cap = 0)) ∧ (x.2.2.2.2.2.l.length ≤ x.2.2.2.2.2.cap ∧ (x.2.2.2.2.2.at_ = none → x.2.2.2.2.2.cap = 0)) := by
  obtain ⟨v, i, s, z, p, q⟩ := x
  obtain ⟨h1, h2, h3, h4, ⟨h5, -⟩, ⟨h6, -⟩⟩ := h
  have hz := u64_in h4
  have e1 := h5.le
  have e2 := h5.max
  have e3 := h6.le
  have e4 := h6.max
  unfold maxLen at e2 e4
  simp only at e1 e2 e3 e4 hz
  refine ⟨?_, ⟨rd_sp h5.rd, rd_sp h6.rd, ?_, ?_⟩, ?_, ⟨h5.le, h5.nil⟩, ⟨h6.le, h6.nil⟩⟩
  · show [Value.int .i64 v, .int .i64 i, .int .i64 s, .int .u64 z, .slice p.at_ p.l.length p.cap, .slice q.at_ q.l.length q.cap] = [Value.int .i64 v, .int .i64 i, .int .i64 s, .int .u64 (z.toNat : Int), .slice p.at_ p.l.length p.cap, .slice q.at_ q.l.length q.cap]
    rw [Int.toNat_of_nonneg hz.1]
  · show p.l.length ≤ _
    omega
  · show q.l.length ≤ _
    omega
  · show z.toNat < _
    omega
theorem hdin_of {w : World} {x : Int × Int × Int × Int × Rep.Sl (Int × Int) × Rep.Sl (Int × Int)} (h : rHd.ok w x) (h1 : few (hdOf x).pos = true) (h2 : few (hdOf x).neg = true) : HdIn w (hdOf x) (lcOf x) := by
  obtain ⟨-, ⟨g1, g2, -, -⟩, g5, g6, g7⟩ := enc_hd h
  exact ⟨⟨g1, Nat.le_trans (few_len h1) (by decide), g6.1, g6.2⟩, ⟨g2, Nat.le_trans (few_len h2) (by decide), g7.1, g7.2⟩, g5⟩

end Go.Proofs.YtjfekjbmgckkcaaGreatDoor.HdArg

/- law 14: any right head has the bits that the document says, behind any others, and is read again; of others nothing is put. -/
namespace Go.Proofs.YtjfekjbmgckkcaaGreatDoor.HeadPuts
open Go.RowKit Go.Proofs.YtjfekjbmgckkcaaGreatDoorW.PrintWords
open Go.Proofs.YtjfekjbmgckkcaaGreatDoor.Bits Go.Proofs.YtjfekjbmgckkcaaGreatDoor.Base Go.Proofs.YtjfekjbmgckkcaaGreatDoor.VarPure Go.Proofs.YtjfekjbmgckkcaaGreatDoor.VarbitA Go.Proofs.YtjfekjbmgckkcaaGreatDoor.VarKit Go.Proofs.YtjfekjbmgckkcaaGreatDoor.StreamA Go.Proofs.YtjfekjbmgckkcaaGreatDoor.StreamR Go.Proofs.YtjfekjbmgckkcaaGreatDoor.SpanPure Go.Proofs.YtjfekjbmgckkcaaGreatDoor.SpanBase Go.Proofs.YtjfekjbmgckkcaaGreatDoor.FailAs Go.Proofs.YtjfekjbmgckkcaaGreatDoor.FailB Go.Proofs.YtjfekjbmgckkcaaGreatDoor.FailC Go.Proofs.YtjfekjbmgckkcaaGreatDoor.HeadA Go.Proofs.YtjfekjbmgckkcaaGreatDoor.HeadB Go.Proofs.YtjfekjbmgckkcaaGreatDoor.HeadC Go.Proofs.YtjfekjbmgckkcaaGreatDoor.HeadD Go.Proofs.YtjfekjbmgckkcaaGreatDoor.HeadPure Go.Proofs.YtjfekjbmgckkcaaGreatDoor.HeadE Go.Proofs.YtjfekjbmgckkcaaGreatDoor.HeadG Go.Proofs.YtjfekjbmgckkcaaGreatDoor.HeadJ Go.Proofs.YtjfekjbmgckkcaaGreatDoor.HeadK Go.Proofs.YtjfekjbmgckkcaaGreatDoor.HeadM Go.Proofs.YtjfekjbmgckkcaaGreatDoor.Ref12 Go.Proofs.YtjfekjbmgckkcaaGreatDoor.Ref14A Go.Proofs.YtjfekjbmgckkcaaGreatDoor.Ref14B Go.Proofs.YtjfekjbmgckkcaaGreatDoor.Law14A Go.Proofs.YtjfekjbmgckkcaaGreatDoor.Law14B Go.Proofs.YtjfekjbmgckkcaaGreatDoor.Law14C Go.Proofs.YtjfekjbmgckkcaaGreatDoor.Law14D Go.Proofs.YtjfekjbmgckkcaaGreatDoor.HeadLaid Go.Proofs.YtjfekjbmgckkcaaGreatDoor.HdArg Go.Proofs.YtjfekjbmgckkcaaGreatDoor.LawBase

set_option maxRecDepth 100000 in
set_option maxHeartbeats 3200000 in
theorem narrow (x : Hd) (p : Lc) (w : World) (hT : Tab w) (hE : GlE w) (a : Int) (hx : HdRd w x p) (hf : a < 0 ∨ (0 ≤ a ∧ 20 < a) ∨ (0 ≤ a ∧ a ≤ 20 ∧ few x.pos = false) ∨ (0 ≤ a ∧ a ≤ 20 ∧ few x.pos = true ∧ few x.neg = false)) :
    Calls Tryz.prog 3 #[.agg (hcs x p).toArray, .int .i64 a] w fun e w' => e = .returned (.bool true) ∧ Below w.heap.size w w' := by
  obtain ⟨v1, i1, s1, z1, l1, m1⟩ := x
  obtain ⟨A, c, B, d⟩ := p
  show Calls Tryz.prog 3 #[.agg #[.int .i64 v1, .int .i64 i1, .int .i64 s1, .int .u64 z1, .slice A l1.length c, .slice B m1.length d], .int .i64 a] w _
  have hal : Below w.heap.size w (w.alloc (.cells #[.int .i64 v1, .int .i64 i1, .int .i64 s1, .int .u64 z1, .slice A l1.length c, .slice B m1.length d] 25)) := below_alloc (Below.refl _ _) _
  have hX := hx.below hal
  have hT1 := hT.below hal
  have hE1 := gle_below hE hal
  have HAL := Lib.hid hal
  obtain ⟨W0, hW0, hbk, hsz⟩ : ∃ W0 : World, W0 = w.alloc (.cells #[.int .i64 v1, .int .i64 i1, .int .i64 s1, .int .u64 z1, .slice A l1.length c, .slice B m1.length d] 25) ∧ W0.heap[w.heap.size]? = some (.cells #[.int .i64 v1, .int .i64 i1, .int .i64 s1, .int .u64 z1, .slice A l1.length c, .slice B m1.length d] 25 (0, 0)) ∧ W0.heap.size = w.heap.size + 1 := ⟨_, rfl, blk_last w _, by simp⟩
  have HCEL : Hid (∀ W, Below W0.heap.size W0 W → (W.cell? ⟨w.heap.size, 0, none⟩ = some (.int .i64 v1) ∧ W.cell? ⟨w.heap.size, 1, none⟩ = some (.int .i64 i1) ∧ W.cell? ⟨w.heap.size, 2, none⟩ = some (.int .i64 s1) ∧ W.cell? ⟨w.heap.size, 3, none⟩ = some (.int .u64 z1) ∧ W.cell? ⟨w.heap.size, 4, none⟩ = some (.slice A l1.length c) ∧ W.cell? ⟨w.heap.size, 5, none⟩ = some (.slice B m1.length d))) := Lib.hid (fun W h => by
    have h := (Ch.of_below (S := fun _ => False) h).blk hbk (fun x => x)
    exact ⟨obj_cell h rfl, obj_cell h rfl, obj_cell h rfl, obj_cell h rfl, obj_cell h rfl, obj_cell h rfl⟩)
  rw [← hW0] at hX hT1 hE1 HAL
  have HX := Lib.hid (fun W (h : Below W0.heap.size W0 W) => hX.below h)
  have HT := Lib.hid (fun W (h : Below W0.heap.size W0 W) => hT1.below h)
  have HE := Lib.hid (fun W (h : Below W0.heap.size W0 W) => gle_below hE1 h)
  have HEND := Lib.hid (fun W (h : Below W0.heap.size W0 W) => below_then HAL.out HAL.out.size h)
  have HAW := Lib.hid (fun W (h : Below W0.heap.size W0 W) => lift h h.size (awake_calls W (hT1.below h) (gle_below hE1 h)))
  have HNW := Lib.hid (newWriter_calls none 0 0 [] W0 (nil_read W0) (by decide) (by decide) (fun _ => rfl) (by decide))
  simp only at hf
  clear hT hE hx hal hT1 hE1 hbk
  rcases hf with f1 | ⟨f1, f2⟩ | ⟨f1, f2, f3⟩ | ⟨f1, f2, f3, f4⟩
  · skip
    have d1 : decide (a < 0) = true := decide_eq_true f1
    clear f1 hX
    go_enter Tryz.func3, Tryz.ntmps3
    go_wp2_with (fail)
    rw [← hW0]
    refine HNW.out.mono ?_
    rintro e u1 ⟨g, S, rfl, hw, hS, hb⟩
    have B1 := Lib.hid hb
    clear hw hS hb HNW
    obtain ⟨k0, k1, k2, k3, k4, k5⟩ := HCEL.out _ B1.out
    go_wp2_with (fail)
    refine (HAW.out _ B1.out).mono ?_
    rintro e u9 ⟨rfl, hb⟩
    have B9 := Lib.hid hb
    clear hb k0 k1 k2 k3 k4 k5
    go_wp2
    go_ret
    exact ⟨rfl, HEND.out _ B9.out⟩
  · skip
    have d1 : decide (a < 0) = false := decide_eq_false (by omega)
    have d2 : decide (a > 20) = true := decide_eq_true f2
    have d2' : decide (20 < a) = true := decide_eq_true f2
    clear f1 f2 hX
    go_enter Tryz.func3, Tryz.ntmps3
    go_wp2_with (fail)
    rw [← hW0]
    refine HNW.out.mono ?_
    rintro e u1 ⟨g, S, rfl, hw, hS, hb⟩
    have B1 := Lib.hid hb
    clear hw hS hb HNW
    obtain ⟨k0, k1, k2, k3, k4, k5⟩ := HCEL.out _ B1.out
    go_wp2_with (fail)
    refine (HAW.out _ B1.out).mono ?_
    rintro e u9 ⟨rfl, hb⟩
    have B9 := Lib.hid hb
    clear hb k0 k1 k2 k3 k4 k5
    go_wp2
    go_ret
    exact ⟨rfl, HEND.out _ B9.out⟩
  · skip
    have d1 : decide (a < 0) = false := decide_eq_false (by omega)
    have d2 : decide (a > 20) = false := decide_eq_false (by omega)
    have d2' : decide (20 < a) = false := decide_eq_false (by omega)
    have HF0 := Lib.hid (fun W (h : Below W0.heap.size W0 W) => few_calls A c l1 W (HX.out W h).pos (HX.out W h).lp)
    rw [f3] at HF0
    clear f1 f2 f3 hX
    go_enter Tryz.func3, Tryz.ntmps3
    go_wp2_with (fail)
    rw [← hW0]
    refine HNW.out.mono ?_
    rintro e u1 ⟨g, S, rfl, hw, hS, hb⟩
    have B1 := Lib.hid hb
    clear hw hS hb HNW
    obtain ⟨k0, k1, k2, k3, k4, k5⟩ := HCEL.out _ B1.out
    go_wp2_with (fail)
    refine (HF0.out _ B1.out).mono ?_
    rintro e u2 ⟨rfl, hb⟩
    have B2 := Lib.hid (below_then B1.out B1.out.size hb)
    clear hb
    clear k0 k1 k2 k3 k4 k5
    obtain ⟨k0, k1, k2, k3, k4, k5⟩ := HCEL.out _ B2.out
    go_wp2_with (fail)
    refine (HAW.out _ B2.out).mono ?_
    rintro e u9 ⟨rfl, hb⟩
    have B9 := Lib.hid hb
    clear hb k0 k1 k2 k3 k4 k5
    go_wp2
    go_ret
    exact ⟨rfl, HEND.out _ B9.out⟩
  · skip
    have d1 : decide (a < 0) = false := decide_eq_false (by omega)
    have d2 : decide (a > 20) = false := decide_eq_false (by omega)
    have d2' : decide (20 < a) = false := decide_eq_false (by omega)
    have HF0 := Lib.hid (fun W (h : Below W0.heap.size W0 W) => few_calls A c l1 W (HX.out W h).pos (HX.out W h).lp)
    rw [f3] at HF0
    have HF1 := Lib.hid (fun W (h : Below W0.heap.size W0 W) => few_calls B d m1 W (HX.out W h).neg (HX.out W h).ln)
    rw [f4] at HF1
    clear f1 f2 f3 f4 hX
    go_enter Tryz.func3, Tryz.ntmps3
    go_wp2_with (fail)
    rw [← hW0]
    refine HNW.out.mono ?_
    rintro e u1 ⟨g, S, rfl, hw, hS, hb⟩
    have B1 := Lib.hid hb
    clear hw hS hb HNW
    obtain ⟨k0, k1, k2, k3, k4, k5⟩ := HCEL.out _ B1.out
    go_wp2_with (fail)
    refine (HF0.out _ B1.out).mono ?_
    rintro e u2 ⟨rfl, hb⟩
    have B2 := Lib.hid (below_then B1.out B1.out.size hb)
    clear hb
    clear k0 k1 k2 k3 k4 k5
    obtain ⟨k0, k1, k2, k3, k4, k5⟩ := HCEL.out _ B2.out
    go_wp2_with (fail)
    refine (HF1.out _ B2.out).mono ?_
    rintro e u3 ⟨rfl, hb⟩
    have B3 := Lib.hid (below_then B2.out B2.out.size hb)
    clear hb
    clear k0 k1 k2 k3 k4 k5
    obtain ⟨k0, k1, k2, k3, k4, k5⟩ := HCEL.out _ B3.out
    go_wp2_with (fail)
    refine (HAW.out _ B3.out).mono ?_
    rintro e u9 ⟨rfl, hb⟩
    have B9 := Lib.hid hb
    clear hb k0 k1 k2 k3 k4 k5
    go_wp2
    go_ret
    exact ⟨rfl, HEND.out _ B9.out⟩
set_option maxRecDepth 100000 in
set_option maxHeartbeats 12800000 in
theorem core (x : Hd) (p : Lc) (w : World) (hT : Tab w) (hE : GlE w) (a : Nat) (ha : a ≤ 20) (hx : HdIn w x p) (hf : few x.pos = true ∧ few x.neg = true) :
    Calls Tryz.prog 3 #[.agg (hcs x p).toArray, .int .i64 a] w fun e w' => e = .returned (.bool true) ∧ Below w.heap.size w w' := by
  obtain ⟨v1, i1, s1, z1, l1, m1⟩ := x
  obtain ⟨A, c, B, d⟩ := p
  show Calls Tryz.prog 3 #[.agg #[.int .i64 v1, .int .i64 i1, .int .i64 s1, .int .u64 z1, .slice A l1.length c, .slice B m1.length d], .int .i64 a] w _
  have hal : Below w.heap.size w (w.alloc (.cells #[.int .i64 v1, .int .i64 i1, .int .i64 s1, .int .u64 z1, .slice A l1.length c, .slice B m1.length d] 25)) := below_alloc (Below.refl _ _) _
  have hX := hx.below hal
  have hT1 := hT.below hal
  have hE1 := gle_below hE hal
  have HAL := Lib.hid hal
  obtain ⟨W0, hW0, hbk, hsz⟩ : ∃ W0 : World, W0 = w.alloc (.cells #[.int .i64 v1, .int .i64 i1, .int .i64 s1, .int .u64 z1, .slice A l1.length c, .slice B m1.length d] 25) ∧ W0.heap[w.heap.size]? = some (.cells #[.int .i64 v1, .int .i64 i1, .int .i64 s1, .int .u64 z1, .slice A l1.length c, .slice B m1.length d] 25 (0, 0)) ∧ W0.heap.size = w.heap.size + 1 := ⟨_, rfl, blk_last w _, by simp⟩
  have HCEL : Hid (∀ W, Below W0.heap.size W0 W → (W.cell? ⟨w.heap.size, 0, none⟩ = some (.int .i64 v1) ∧ W.cell? ⟨w.heap.size, 1, none⟩ = some (.int .i64 i1) ∧ W.cell? ⟨w.heap.size, 2, none⟩ = some (.int .i64 s1) ∧ W.cell? ⟨w.heap.size, 3, none⟩ = some (.int .u64 z1) ∧ W.cell? ⟨w.heap.size, 4, none⟩ = some (.slice A l1.length c) ∧ W.cell? ⟨w.heap.size, 5, none⟩ = some (.slice B m1.length d))) := Lib.hid (fun W h => by
    have h := (Ch.of_below (S := fun _ => False) h).blk hbk (fun x => x)
    exact ⟨obj_cell h rfl, obj_cell h rfl, obj_cell h rfl, obj_cell h rfl, obj_cell h rfl, obj_cell h rfl⟩)
  rw [← hW0] at hX hT1 hE1 HAL
  have HX := Lib.hid (fun W (h : Below W0.heap.size W0 W) => hX.below h)
  have HT := Lib.hid (fun W (h : Below W0.heap.size W0 W) => hT1.below h)
  have HE := Lib.hid (fun W (h : Below W0.heap.size W0 W) => gle_below hE1 h)
  have HEND := Lib.hid (fun W (h : Below W0.heap.size W0 W) => below_then HAL.out HAL.out.size h)
  have HAW := Lib.hid (fun W (h : Below W0.heap.size W0 W) => lift h h.size (awake_calls W (hT1.below h) (gle_below hE1 h)))
  have HNW := Lib.hid (newWriter_calls none 0 0 [] W0 (nil_read W0) (by decide) (by decide) (fun _ => rfl) (by decide))
  simp only at hf
  obtain ⟨f1, f2⟩ := hf
  have HF0 := Lib.hid (fun W (h : Below W0.heap.size W0 W) => few_calls A c l1 W (HX.out W h).pos.rd (Nat.le_trans (HX.out W h).pos.len (by decide)))
  have HF1 := Lib.hid (fun W (h : Below W0.heap.size W0 W) => few_calls B d m1 W (HX.out W h).neg.rd (Nat.le_trans (HX.out W h).neg.len (by decide)))
  rw [f1] at HF0
  rw [f2] at HF1
  have HNG := Lib.hid (fun (S : Nat → Prop) (h : ∀ k, S k → W0.heap.size ≤ k) => not_old hT1 h)
  have HNE := Lib.hid (fun (S : Nat → Prop) (h : ∀ k, S k → W0.heap.size ≤ k) (x : S 0) => by have h1 := h _ x; have h2 := gle_lt hE1; exact Nat.lt_irrefl _ (Nat.lt_of_lt_of_le h2 h1))
  have HNP := Lib.hid (fun (S : Nat → Prop) (h : ∀ k, S k → W0.heap.size ≤ k) ad (hA : A = some ad) (hp : 0 < l1.length) (x : S ad.block) => Nat.lt_irrefl _ (Nat.lt_of_lt_of_le (rd_lt hX.pos.rd ad hA hp) (h _ x)))
  have HNQ := Lib.hid (fun (S : Nat → Prop) (h : ∀ k, S k → W0.heap.size ≤ k) ad (hA : B = some ad) (hp : 0 < m1.length) (x : S ad.block) => Nat.lt_irrefl _ (Nat.lt_of_lt_of_le (rd_lt hX.neg.rd ad hA hp) (h _ x)))
  have d1 : decide ((a : Int) < 0) = false := by simp
  have d2 : decide ((a : Int) > 20) = false := by simp; omega
  have d2' : decide (20 < (a : Int)) = false := by simp; omega
  have d2n : decide (20 < a) = false := by simp; omega
  clear hT hE hx hal hT1 hE1 hbk f1 f2 hX
  go_enter Tryz.func3, Tryz.ntmps3
  go_wp2_with (fail)
  rw [← hW0]
  refine HNW.out.mono ?_
  rintro e u1 ⟨g, S, rfl, hw, hS, hb⟩
  have B1 := Lib.hid hb
  have W1 := Lib.hid hw
  have HS := Lib.hid hS
  clear hw hS hb HNW
  obtain ⟨k0, k1, k2, k3, k4, k5⟩ := HCEL.out _ B1.out
  go_wp2_with (fail)
  refine (HF0.out _ B1.out).mono ?_
  rintro e u2 ⟨rfl, hb⟩
  have B2 := Lib.hid (below_then B1.out B1.out.size hb)
  have W2 := Lib.hid (W1.out.below hb)
  clear hb
  clear k0 k1 k2 k3 k4 k5
  obtain ⟨k0, k1, k2, k3, k4, k5⟩ := HCEL.out _ B2.out
  go_wp2_with (fail)
  refine (HF1.out _ B2.out).mono ?_
  rintro e u3 ⟨rfl, hb⟩
  have B3 := Lib.hid (below_then B2.out B2.out.size hb)
  have W3 := Lib.hid (W2.out.below hb)
  clear hb
  clear k0 k1 k2 k3 k4 k5
  go_wp2
  go_loopw [53] (fun i wr => ∃ k : Nat, k ≤ a ∧ i = .int .i64 k ∧ ∃ S', Wr wr g S' (List.replicate k true) ∧ (∀ j, S' j → W0.heap.size ≤ j) ∧ Below W0.heap.size W0 wr) (fun i _ => a - (intOf i).toNat)
  case atStart => exact ⟨0, by omega, rfl, S, W3.out, HS.out, B3.out⟩
  case round =>
    obtain ⟨k, hk, rfl, S4, hw, hS4, hb4⟩ := hrel
    have B4 := Lib.hid hb4
    have HS4 := Lib.hid hS4
    by_cases hlt : k < a
    · have HBI := Lib.hid (StreamBit.bit_calls g S4 _ true wr hw (by rw [List.length_replicate]; omega))
      clear hw hS4 hb4
      go_wp2_with (fail)
      refine HBI.out.mono ?_
      rintro e u5 ⟨rfl, hu⟩
      obtain ⟨S5, hw5, hs5, hb5⟩ := upd_new B4.out B4.out.size HS4.out hu
      have W5 := Lib.hid hw5
      have S5' := Lib.hid hs5
      have B5 := Lib.hid hb5
      clear hu hw5 hs5 hb5
      go_wp2
      go_roundw
      case rel => exact ⟨k + 1, by omega, by go_num, S5, by rw [List.replicate_succ']; exact W5.out, S5'.out, B5.out⟩
      case measure => simp [intOf]; omega
    · obtain rfl : k = a := by omega
      have W4 := Lib.hid hw
      have HPU := Lib.hid (Put_calls g S4 _ ⟨v1, i1, s1, z1, l1, m1⟩ ⟨A, c, B, d⟩ wr (HX.out _ hb4) (HE.out _ hb4) (HT.out _ hb4) (HNG.out _ hS4) hw (by rw [List.length_replicate]; omega) (HNP.out _ hS4) (HNQ.out _ hS4))
      obtain ⟨k0, k1, k2, k3, k4, k5⟩ := HCEL.out _ hb4
      clear hw hS4 hb4
      go_wp2_with (fail)
      refine HPU.out.mono ?_
      rintro e u5 hput
      clear HPU k0 k1 k2 k3 k4 k5
      by_cases h0 : (headErr ⟨v1, i1, s1, z1, l1, m1⟩).1 = 0
      · skip
        obtain ⟨-, rfl, S5, hw5, hs5, hc5⟩ : (headErr ⟨v1, i1, s1, z1, l1, m1⟩).1 = 0 ∧ e = .returned .nilIface ∧ Upd (fun w S' => Wr w g S' (List.replicate k true ++ encH ⟨v1, i1, s1, z1, l1, m1⟩)) S4 _ u5 := by
          rcases hput with h | ⟨h, -⟩
          · exact h
          · exact absurd h0 h
        have B5 := Lib.hid (ch_new B4.out B4.out.size HS4.out hc5)
        have W5 := Lib.hid hw5
        clear hput hs5 hc5
        have HRE := Lib.hid (ref_calls ⟨v1, i1, s1, z1, l1, m1⟩ ⟨A, c, B, d⟩ _ (HX.out _ B5.out))
        obtain ⟨k0, k1, k2, k3, k4, k5⟩ := HCEL.out _ B5.out
        go_wp2_with (fail)
        refine HRE.out.mono ?_
        rintro e u6 ⟨⟨qa, qc, qb, qd⟩, rfl, hq, hb⟩
        have B6 := Lib.hid (below_then B5.out B5.out.size hb)
        have HC := Lib.hid (Check14_calls ⟨v1, i1, s1, z1, l1, m1⟩ ⟨qa, qc, qb, qd⟩ u6 hq)
        have W6 := Lib.hid (W5.out.below hb)
        rw [h0] at HC
        clear hq hb hw5 k0 k1 k2 k3 k4 k5 HRE
        dsimp only [hcs]
        go_wp2_with (fail)
        refine HC.out.mono ?_
        rintro e u7 ⟨rfl, hb⟩
        rw [show Ref14A.wr 0 (headErr ⟨v1, i1, s1, z1, l1, m1⟩).2 0 = .agg #[.int .i64 0, .string ⟨#[]⟩, .int .i64 0] from rfl]
        have hba := below_alloc (Below.refl u7.heap.size u7) (.cells #[.int .i64 0, .string ⟨#[]⟩, .int .i64 0] 37)
        have B7 := Lib.hid (below_then B6.out B6.out.size hb)
        have B8 := Lib.hid (below_then B7.out B7.out.size hba)
        have W8 := Lib.hid ((W6.out.below hb).below hba)
        clear hb hba HC
        have HRE := Lib.hid (ref_calls ⟨v1, i1, s1, z1, l1, m1⟩ ⟨A, c, B, d⟩ _ (HX.out _ B8.out))
        obtain ⟨k0, k1, k2, k3, k4, k5⟩ := HCEL.out _ B8.out
        go_wp2_with (fail)
        refine HRE.out.mono ?_
        rintro e u9 ⟨⟨ra, rc, rb, rd⟩, rfl, hq, hb⟩
        have B9 := Lib.hid (below_then B8.out B8.out.size hb)
        have W9 := Lib.hid (W8.out.below hb)
        have HBT := Lib.hid (Bits14_calls ⟨v1, i1, s1, z1, l1, m1⟩ ⟨ra, rc, rb, rd⟩ u9 hq h0)
        clear hq hb k0 k1 k2 k3 k4 k5 HRE
        dsimp only [hcs]
        go_wp2_with (fail)
        refine HBT.out.mono ?_
        rintro e u10 ⟨rfl, hb⟩
        have B10 := Lib.hid (below_then B9.out B9.out.size hb)
        have hlX : (encH ⟨v1, i1, s1, z1, l1, m1⟩).length ≤ 400000 := by
          obtain ⟨-, -, -, -, -, -, g7, g8⟩ := err_zero h0
          simp only at g7 g8
          have h1 := encSp_le l1
          have h2 := encSp_le m1
          have h3 := encS_le s1
          have h4 := ThrPure.encT_length z1
          have h5 := (sides_in g7).1
          have h6 := (sides_in g8).1
          simp only [encH, List.length_append, nb_length]
          omega
        have HPH := Lib.hid (pHead_enc ⟨v1, i1, s1, z1, l1, m1⟩ [] h0 (HX.out _ B10.out).z)
        rw [List.append_nil] at HPH
        have HLH : Hid (lenH ⟨v1, i1, s1, z1, l1, m1⟩ = (encH ⟨v1, i1, s1, z1, l1, m1⟩).length) := Lib.hid (if_pos h0)
        have W10' := W9.out.below hb
        obtain ⟨Y, hY⟩ : ∃ Y, Y = encH ⟨v1, i1, s1, z1, l1, m1⟩ := ⟨_, rfl⟩
        rw [← hY] at W10' hlX HPH HLH ⊢
        have hty := txt_size Y
        have hal1 : (List.replicate k true ++ Y).length = k + Y.length := by rw [List.length_append, List.length_replicate]
        have HCUT : Hid (∀ W, (Instr.slice 9 (.string (txt (List.replicate k true ++ Y))) (some (.int .i64 k)) none none).run Tryz.prog W = .ok (.string (txt Y)) W) := Lib.hid (fun W => by
          rw [cut_hi 9 Tryz.underlying9 _ (List.replicate k true ++ Y) k rfl (by rw [hal1]; omega) W, List.drop_left' (by rw [List.length_replicate])])
        have htz := txt_size (List.replicate k true ++ Y)
        rw [hal1] at htz
        have HLW : Hid (∀ N : Nat, N = k + Y.length → ∀ W, Below u10.heap.size u10 W → Calls Tryz.prog 21 #[.pointer (some ⟨g, 0, none⟩)] W fun e w' => e = .returned (.int .i64 (N : Int)) ∧ W = w') := Lib.hid (by
          rintro N rfl W h
          have := len_calls g S5 _ W (W10'.below h)
          rwa [hal1] at this)
        have HBI := Lib.hid (fun W (h : Below u10.heap.size u10 W) => lift h h.size (bits_calls g S5 _ W (W10'.below h) (by rw [hal1]; omega)))
        have HBY := Lib.hid (fun W (h : Below u10.heap.size u10 W) => bytes_calls g S5 _ W (W10'.below h) (by rw [hal1]; omega))
        have HL1 := Lib.hid hal1
        obtain ⟨Q, hQ⟩ : ∃ Q, Q = List.replicate k true ++ Y := ⟨_, rfl⟩
        rw [← hQ] at HCUT htz HBI HBY HL1
        have HQ := Lib.hid hQ
        have hcut := HCUT.out
        obtain ⟨sY, hsY⟩ : ∃ s, s = txt Y := ⟨_, rfl⟩
        obtain ⟨sQ, hsQ⟩ : ∃ s, s = txt Q := ⟨_, rfl⟩
        rw [← hsY] at hcut hty ⊢
        rw [← hsQ] at hcut htz HBI
        obtain ⟨n, hn⟩ : ∃ n, n = Y.length := ⟨_, rfl⟩
        rw [← hn] at hlX hty htz HLW HLH HL1 HPH
        obtain ⟨N, hN⟩ : ∃ N, N = k + n := ⟨_, rfl⟩
        have HLW := Lib.hid (HLW.out N hN)
        rw [← hN] at htz HL1
        have e1 : ((N : Int) != (k : Int) + (n : Int)) = false := by simp; omega
        have e2 : ((N : Int) == (k : Int) + (n : Int)) = true := by simp; omega
        have hN4 : N ≤ 400020 := by omega
        have hkN : k ≤ N := by omega
        clear hN
        have HLL := Lib.hid (Len_calls ⟨v1, i1, s1, z1, l1, m1⟩ ⟨A, c, B, d⟩ _ (HX.out _ B10.out) (HE.out _ B10.out) (HT.out _ B10.out))
        rw [HLH.out] at HLL
        have B0 := Below.refl u10.heap.size u10
        obtain ⟨k0, k1, k2, k3, k4, k5⟩ := HCEL.out _ B10.out
        clear hb hY hsY hsQ hQ hn hal1 HCUT h0 HBT W10'
        go_wp2_with (fail)
        refine (HLW.out _ B0).mono ?_
        rintro e u11 ⟨rfl, rfl⟩
        go_wp2_with (fail)
        refine HLL.out.mono ?_
        rintro e u11 ⟨rfl, hb11⟩
        have B11 := Lib.hid hb11
        clear B0 HLL k0 k1 k2 k3 k4 k5 hb11
        go_wp2_with (fail)
        refine (HBI.out _ B11.out).mono ?_
        rintro e u12 ⟨rfl, hb12⟩
        have B12 := Lib.hid hb12
        clear hb12
        go_wp2_with (fail)
        refine (HBI.out _ B12.out).mono ?_
        rintro e u13 ⟨rfl, hb13⟩
        have B13 := Lib.hid hb13
        clear hb13
        go_wp2_with (fail)
        refine (HBY.out _ B13.out).mono ?_
        rintro e u14 ⟨v, rfl, ho, hb14⟩
        obtain ⟨D, dd, rfl, hd, hr⟩ := ho.reads
        have hD : D = none → dd = 0 := OwI.nilcap ho
        have B14 := Lib.hid (below_then B13.out B13.out.size hb14)
        have HNR := Lib.hid (newReader_calls D dd N (pack Q) u14 hr (by rw [pack_length]; have := HL1.out; omega) hd hD (by rw [pack_length]; have := HL1.out; omega))
        rw [show (bts (pack Q)).take N = Q from by rw [← HL1.out]; exact pack_take_all Q] at HNR
        have B14' := Lib.hid (below_then B10.out B10.out.size B14.out)
        clear ho hr hd hb14 hD
        go_wp2_with (fail)
        refine (HLW.out _ B14.out).mono ?_
        rintro e u15 ⟨rfl, rfl⟩
        go_wp2_with (fail)
        refine HNR.out.mono ?_
        rintro e u15 ⟨gr, SR, rfl, hR, hSR, hb15⟩
        have B15 := Lib.hid (below_then B14'.out B14'.out.size hb15)
        have HSR := Lib.hid (fun j h => Nat.le_trans B14'.out.size (hSR j h) : ∀ j, SR j → W0.heap.size ≤ j)
        rw [HQ.out] at hR
        have R15 := Lib.hid hR
        clear hR hSR hb15 HNR e1 e2
        go_wp2
        go_loopw [142] (fun i wr => ∃ j : Nat, j ≤ k ∧ i = .int .i64 j ∧ Rr wr gr SR j (List.replicate (k - j) true ++ Y) false ∧ Below W0.heap.size W0 wr) (fun i _ => k - (intOf i).toNat)
        case atStart => exact ⟨0, by omega, rfl, R15.out, B15.out⟩
        case round =>
          obtain ⟨j, hj, rfl, hR, hbj⟩ := hrel
          have BJ := Lib.hid hbj
          by_cases hlt : j < k
          · rw [show k - j = (k - (j + 1)) + 1 from by omega, List.replicate_succ, List.cons_append] at hR
            have HRB := Lib.hid (rbit_calls gr j SR true _ false _ hR)
            clear hR hbj
            go_wp2_with (fail)
            refine HRB.out.mono ?_
            rintro e u16 ⟨rfl, hR, hc⟩
            have R16 := Lib.hid hR
            have B16 := Lib.hid (ch_new BJ.out BJ.out.size HSR.out hc)
            clear hR hc HRB
            go_wp2
            go_roundw
            case rel => exact ⟨j + 1, by omega, by go_num, R16.out, B16.out⟩
            case measure => simp [intOf]; omega
          · obtain rfl : j = k := by omega
            rw [Nat.sub_self, List.replicate_zero, List.nil_append] at hR
            have HG := Lib.hid (Get_calls gr j SR Y _ (HT.out _ hbj) (HE.out _ hbj) (HNG.out _ HSR.out) (HNE.out _ HSR.out) hR)
            rw [HPH.out] at HG
            clear hR hbj
            go_wp2_with (fail)
            refine HG.out.mono ?_
            rintro e u16 ⟨hc6, hcase⟩
            obtain ⟨p6, rfl, ho6, hR⟩ : ∃ p, e = .returned (.tuple #[.agg (hcs ⟨v1, i1, s1, z1, l1, m1⟩ p).toArray, .nilIface]) ∧ HdOut u16 _ ⟨v1, i1, s1, z1, l1, m1⟩ p ∧ Rr u16 gr SR (j + n) [] false := by
              rcases hcase with ⟨h, -⟩ | ⟨-, ⟨p, h1, h2⟩, h3⟩
              · exact absurd rfl h
              · exact ⟨p, h1, h2, h3⟩
            obtain ⟨A6, c6, B6', d6⟩ := p6
            have B16 := Lib.hid (ch_new BJ.out BJ.out.size HSR.out hc6)
            have hba := below_alloc (Below.refl u16.heap.size u16) (.cells #[.int .i64 v1, .int .i64 i1, .int .i64 s1, .int .u64 z1, .slice A6 l1.length c6, .slice B6' m1.length d6] 25)
            have B17 := Lib.hid (below_then B16.out B16.out.size hba)
            have HEQ := Lib.hid (Equal_calls ⟨v1, i1, s1, z1, l1, m1⟩ ⟨v1, i1, s1, z1, l1, m1⟩ ⟨A6, c6, B6', d6⟩ ⟨A, c, B, d⟩ _ ((hdin_out ho6 (HX.out _ B16.out).pos.len (HX.out _ B16.out).neg.len (HX.out _ B16.out).z).below hba) (HX.out _ B17.out))
            have R17 := Lib.hid (hR.below hba)
            obtain ⟨k0, k1, k2, k3, k4, k5⟩ := HCEL.out _ B17.out
            clear hc6 hcase ho6 hR hba HG
            dsimp only [hcs]
            go_wp2_with (fail)
            refine HEQ.out.mono ?_
            rintro e u18 ⟨rfl, hb⟩
            rw [show eqH ⟨v1, i1, s1, z1, l1, m1⟩ ⟨v1, i1, s1, z1, l1, m1⟩ = true from decide_eq_true rfl]
            have B18 := Lib.hid (below_then B17.out B17.out.size hb)
            have HLF := Lib.hid (left_calls gr (j + n) SR [] false u18 (R17.out.below hb))
            clear hb HEQ k0 k1 k2 k3 k4 k5
            go_wp2_with (fail)
            refine HLF.out.mono ?_
            rintro e u19 ⟨rfl, nd, rfl⟩
            have B19 := Lib.hid (pw_below_drewN B18.out nd)
            go_wp2_with (fail)
            refine (HAW.out _ B19.out).mono ?_
            rintro e u20 ⟨rfl, hb⟩
            have B20 := Lib.hid hb
            clear hb
            go_wp2
            go_ret
            exact ⟨rfl, HEND.out _ B20.out⟩
      · skip
        obtain ⟨v, rfl, he5, hb5⟩ : ErrAt (headErr ⟨v1, i1, s1, z1, l1, m1⟩).1 (headErr ⟨v1, i1, s1, z1, l1, m1⟩).2 0 _ e u5 := by
          rcases hput with ⟨h, -⟩ | ⟨-, h⟩
          · exact absurd h h0
          · exact h
        have B5 := Lib.hid (below_then B4.out B4.out.size hb5)
        have W5 := Lib.hid (W4.out.below hb5)
        have E5 := Lib.hid he5
        clear hput hb5 he5
        have HRE := Lib.hid (ref_calls ⟨v1, i1, s1, z1, l1, m1⟩ ⟨A, c, B, d⟩ _ (HX.out _ B5.out))
        obtain ⟨k0, k1, k2, k3, k4, k5⟩ := HCEL.out _ B5.out
        go_wp2_with (fail)
        refine HRE.out.mono ?_
        rintro e u6 ⟨⟨qa, qc, qb, qd⟩, rfl, hq, hb⟩
        have B6 := Lib.hid (below_then B5.out B5.out.size hb)
        have HC := Lib.hid (Check14_calls ⟨v1, i1, s1, z1, l1, m1⟩ ⟨qa, qc, qb, qd⟩ u6 hq)
        have W6 := Lib.hid (W5.out.below hb)
        have E6 := Lib.hid (E5.out.below hb)
        have HLH : Hid (lenH ⟨v1, i1, s1, z1, l1, m1⟩ = 0) := Lib.hid (if_neg h0)
        obtain ⟨ep, hep⟩ : ∃ ep, ep = headErr ⟨v1, i1, s1, z1, l1, m1⟩ := ⟨_, rfl⟩
        rw [← hep] at HC E6 h0
        obtain ⟨ec, en⟩ := ep
        simp only at HC E6 h0
        clear hq hb k0 k1 k2 k3 k4 k5 HRE hep E5
        dsimp only [hcs]
        go_wp2_with (fail)
        refine HC.out.mono ?_
        rintro e u7 ⟨rfl, hb⟩
        rw [show Ref14A.wr ec en 0 = .agg #[.int .i64 ec, .string en, .int .i64 0] from if_neg h0]
        have hba := below_alloc (Below.refl u7.heap.size u7) (.cells #[.int .i64 ec, .string en, .int .i64 0] 37)
        have B7 := Lib.hid (below_then B6.out B6.out.size hb)
        have B8 := Lib.hid (below_then B7.out B7.out.size hba)
        have W8 := Lib.hid ((W6.out.below hb).below hba)
        have he8 := (E6.out.below hb).below hba
        have HTL : Hid (Calls Tryz.prog 20 #[v, .agg #[.int .i64 ec, .string en, .int .i64 0]] (u7.alloc (.cells #[.int .i64 ec, .string en, .int .i64 0] 37)) fun e w' => e = .returned (.bool true) ∧ Below (u7.alloc (.cells #[.int .i64 ec, .string en, .int .i64 0] 37)).heap.size (u7.alloc (.cells #[.int .i64 ec, .string en, .int .i64 0] 37)) w') := Lib.hid (tells_calls v ec en 0 _ he8 h0)
        obtain ⟨ge, rfl⟩ := err_some (by omega) he8
        have dd0 : ((ec : Int) != 0) = true := by simp; omega
        clear hb hba HC he8 h0 E6
        go_wp2_with (fail)
        refine HTL.out.mono ?_
        rintro e u9 ⟨rfl, hb⟩
        have B9 := Lib.hid (below_then B8.out B8.out.size hb)
        have HLW := Lib.hid (len_calls g S4 _ u9 (W8.out.below hb))
        rw [List.length_replicate] at HLW
        have HLL := Lib.hid (Len_calls ⟨v1, i1, s1, z1, l1, m1⟩ ⟨A, c, B, d⟩ _ (HX.out _ B9.out) (HE.out _ B9.out) (HT.out _ B9.out))
        rw [HLH.out] at HLL
        obtain ⟨k0, k1, k2, k3, k4, k5⟩ := HCEL.out _ B9.out
        clear hb HTL
        go_wp2_with (fail)
        refine HLW.out.mono ?_
        rintro e u10 ⟨rfl, rfl⟩
        go_wp2_with (fail)
        refine HLL.out.mono ?_
        rintro e u10 ⟨rfl, hb⟩
        have B10 := Lib.hid (below_then B9.out B9.out.size hb)
        clear hb HLL k0 k1 k2 k3 k4 k5
        go_wp2_with (fail)
        refine (HAW.out _ B10.out).mono ?_
        rintro e u20 ⟨rfl, hb⟩
        have B20 := Lib.hid hb
        clear hb
        go_wp2
        go_ret
        exact ⟨rfl, HEND.out _ B20.out⟩
theorem walk (x : Int × Int × Int × Int × Rep.Sl (Int × Int) × Rep.Sl (Int × Int)) (a : Int) (w : World) (hx : rHd.ok w x) (_ : (Lit.int .i64 a).wf = true) (hL : laidMetH Tryz.prog laidAll w) :
    Calls Tryz.prog 3 #[.agg (rHd.enc x).toArray, .int .i64 a] w fun e w' => e = .returned (.bool true) ∧ Below w.heap.size w w' := by
  obtain ⟨hT, hE⟩ := of_laid hL
  obtain ⟨e1, x1, -⟩ := enc_hd hx
  rw [e1]
  by_cases h1 : a < 0
  · exact narrow _ _ w hT hE a x1 (.inl h1)
  by_cases h2 : 20 < a
  · exact narrow _ _ w hT hE a x1 (.inr (.inl ⟨by omega, h2⟩))
  obtain ⟨k, rfl⟩ := Int.eq_ofNat_of_zero_le (show 0 ≤ a by omega)
  cases f1 : few (hdOf x).pos with
  | false => exact narrow _ _ w hT hE _ x1 (.inr (.inr (.inl ⟨by omega, by omega, f1⟩)))
  | true =>
    cases f2 : few (hdOf x).neg with
    | false => exact narrow _ _ w hT hE _ x1 (.inr (.inr (.inr ⟨by omega, by omega, f1, f2⟩)))
    | true => exact core _ _ w hT hE k (by omega) (hdin_of hx f1 f2) ⟨f1, f2⟩
end Go.Proofs.YtjfekjbmgckkcaaGreatDoor.HeadPuts
