/- the references of layers 9 and 12: a head's schema and threshold; a threshold's byte, its bits, and a reading of them. -/
import Derived.Test.YtjfekjbmgckkcaaGreatDoorHeadK
import Derived.Test.YtjfekjbmgckkcaaGreatDoorRef04P
import Derived.OwnWalk
namespace Go.Proofs.YtjfekjbmgckkcaaGreatDoor.Ref12
open Go.RowKit Go.Proofs.YtjfekjbmgckkcaaGreatDoorW.PrintWords
open Go.Proofs.YtjfekjbmgckkcaaGreatDoor.Bits Go.Proofs.YtjfekjbmgckkcaaGreatDoor.Base Go.Proofs.YtjfekjbmgckkcaaGreatDoor.VarPure Go.Proofs.YtjfekjbmgckkcaaGreatDoor.ThrPure Go.Proofs.YtjfekjbmgckkcaaGreatDoor.HeadA Go.Proofs.YtjfekjbmgckkcaaGreatDoor.HeadK Go.Proofs.YtjfekjbmgckkcaaGreatDoor.Ref01

theorem results_cell1 {fn : Func} {p : Tmp} {ty : TypeId} (h : fn.results = #[.cell p ty]) (tmps : Array Value) (P : Program) (w : World) :
    (results fn tmps).run P w = ((asAddr (tmps.getD p undef)).run P w).andThen fun a w₁ => (loadVar ty a).run P w₁ := by
  simp only [results, h]
  simp [Sem.run_bind, Result.andThen]
  try (split <;> rfl)
theorem results_ttc {fn : Func} {p u v : Tmp} {ty : TypeId} (h : fn.results = #[.tmp u, .tmp v, .cell p ty]) (tmps : Array Value) (P : Program) (w : World) :
    (results fn tmps).run P w = ((asAddr (tmps.getD p undef)).run P w).andThen fun a w₁ => ((loadVar ty a).run P w₁).andThen fun x w₂ => .ok (.tuple #[tmps.getD u undef, tmps.getD v undef, x]) w₂ := by
  simp only [results, h]
  simp [Sem.run_bind, Result.andThen]
  try (split <;> rfl)
theorem results_ctc {fn : Func} {p r v : Tmp} {ty ty2 : TypeId} (h : fn.results = #[.cell p ty, .tmp v, .cell r ty2]) (tmps : Array Value) (P : Program) (w : World) :
    (results fn tmps).run P w = ((asAddr (tmps.getD p undef)).run P w).andThen fun a w₁ => ((loadVar ty a).run P w₁).andThen fun x w₂ =>
      ((asAddr (tmps.getD r undef)).run P w₂).andThen fun b w₃ => ((loadVar ty2 b).run P w₃).andThen fun y w₄ => .ok (.tuple #[x, tmps.getD v undef, y]) w₄ := by
  simp only [results, h]
  simp [Sem.run_bind, Result.andThen]
  try (split <;> rfl)
theorem cut_lo {P : Program} (t : TypeId) (ht : P.underlying t = some .string) (s : ByteArray) (l : List Bool) (n : Nat) (hs : s = txt l) (h : n ≤ l.length) (w : World) : (Instr.slice t (.string s) none (some (.int .i64 n)) none).run P w = .ok (.string (txt (l.take n))) w := by
  subst hs
  rw [run_slice_string_h w t _ ht .i64 _ (Int.natCast_nonneg _) (by rw [txt_size]; omega), Int.toNat_natCast, extract_txt, List.drop_zero, Nat.sub_zero]
theorem cut_hi {P : Program} (t : TypeId) (ht : P.underlying t = some .string) (s : ByteArray) (l : List Bool) (n : Nat) (hs : s = txt l) (h : n ≤ l.length) (w : World) : (Instr.slice t (.string s) (some (.int .i64 n)) none none).run P w = .ok (.string (txt (l.drop n))) w := by
  subst hs
  rw [run_slice_string_l w t _ ht .i64 _ (Int.natCast_nonneg _) (by rw [txt_size]; omega), Int.toNat_natCast, extract_txt, txt_size, List.take_of_length_le (by rw [List.length_drop]; omega)]
theorem cut_mid {P : Program} (t : TypeId) (ht : P.underlying t = some .string) (s : ByteArray) (l : List Bool) (i j : Nat) (hs : s = txt l) (h1 : i ≤ j) (h2 : j ≤ l.length) (w : World) : (Instr.slice t (.string s) (some (.int .i64 i)) (some (.int .i64 j)) none).run P w = .ok (.string (txt ((l.drop i).take (j - i)))) w := by
  subst hs
  rw [Ref04.cut_str t ht _ _ _ (Int.natCast_nonneg _) (by omega) (by rw [txt_size]; omega), Int.toNat_natCast, Int.toNat_natCast, extract_txt]
def headE (s : Int) (z : Nat) : Nat := if s < -4 ∨ 8 < s then 21 else if thrOk z then 0 else 11
theorem headE_s (s : Int) : headE s 0 = shapeE s := by unfold headE shapeE; split <;> rfl
theorem headE_z (z : Nat) : headE 0 z = if thrOk z then 0 else 11 := rfl
theorem Head_calls (s : Int) (z : Nat) (w : World) : Calls Tryz.prog 76 #[.int .i64 s, .int .u64 z] w fun e w' => e = .returned (.int .i64 (headE s z)) ∧ w = w' := by
  by_cases h1 : s < -4
  · have HE : Hid (headE s z = 21) := Lib.hid (if_pos (.inl h1))
    have d1 : decide (s < -4) = true := decide_eq_true h1
    clear h1
    go_enter Tryz.func76, Tryz.ntmps76
    go_wp2
    go_ret
    exact ⟨by rw [HE.out]; rfl, rfl⟩
  · have d1 : decide (s < -4) = false := decide_eq_false h1
    by_cases h2 : 8 < s
    · have HE : Hid (headE s z = 21) := Lib.hid (if_pos (.inr h2))
      have d2 : decide (s > 8) = true := decide_eq_true h2
      have d2' : decide (8 < s) = true := decide_eq_true h2
      clear h1 h2
      go_enter Tryz.func76, Tryz.ntmps76
      go_wp2
      go_ret
      exact ⟨by rw [HE.out]; rfl, rfl⟩
    · have d2 : decide (s > 8) = false := decide_eq_false h2
      have d2' : decide (8 < s) = false := decide_eq_false h2
      by_cases h3 : z < 9218868437227405312
      · have HE : Hid (headE s z = 0) := Lib.hid (by unfold headE; rw [if_neg (by omega), if_pos (show thrOk z = true from decide_eq_true h3)])
        have d3 : decide ((z : Int) ≥ 9218868437227405312) = false := by simp; omega
        have d3' : decide (9218868437227405312 ≤ (z : Int)) = false := by simp; omega
        have d3n : decide (9218868437227405312 ≤ z) = false := by simp; omega
        clear h1 h2 h3
        go_enter Tryz.func76, Tryz.ntmps76
        go_wp2
        go_ret
        exact ⟨by rw [HE.out]; rfl, rfl⟩
      · have HE : Hid (headE s z = 11) := Lib.hid (by unfold headE; rw [if_neg (by omega), if_neg (by unfold thrOk; rw [decide_eq_true_eq]; exact h3)])
        have d3 : decide ((z : Int) ≥ 9218868437227405312) = true := by simp; omega
        have d3' : decide (9218868437227405312 ≤ (z : Int)) = true := by simp; omega
        have d3n : decide (9218868437227405312 ≤ z) = true := by simp; omega
        clear h1 h2 h3
        go_enter Tryz.func76, Tryz.ntmps76
        go_wp2
        go_ret
        exact ⟨by rw [HE.out]; rfl, rfl⟩
set_option maxHeartbeats 1600000 in
theorem Byte_calls (v : Nat) (w : World) (hv : v < 18446744073709551616) : Calls Tryz.prog 155 #[.int .u64 v] w fun e w' => e = .returned (.int .i64 (codeT v)) ∧ w = w' := by
  by_cases h0 : v = 0
  · subst h0
    have HF : Hid (codeT 0 = 0) := Lib.hid rfl
    go_enter Tryz.func155, Tryz.ntmps155
    go_wp2
    go_ret
    exact ⟨by rw [HF.out]; rfl, rfl⟩
  · have d0 : ((v : Int) == 0) = false := by simp; omega
    have HC := Lib.hid (codeT_lt v)
    have HZ := Lib.hid (fun h => h0 (codeT_zero h) : codeT v ≠ 0)
    clear h0
    go_enter Tryz.func155, Tryz.ntmps155
    go_wp2
    go_loop [3] (fun i => ∃ k : Nat, 1 ≤ k ∧ k ≤ 255 ∧ i = .int .u64 k ∧ Hid (∀ j : Nat, 1 ≤ j → j < k → v ≠ (j + 779) * 4503599627370496)) (fun i => 255 - (intOf i).toNat)
    case atStart => exact ⟨1, by omega, by omega, rfl, Lib.hid (by omega)⟩
    case round =>
      obtain ⟨k, hk1, hk, rfl, hn⟩ := hrel
      by_cases hlt : k < 255
      · have d1 : decide ((k : Int) < 255) = true := by simp; omega
        have d1n : decide (k < 255) = true := by simp; omega
        by_cases he : v = (k + 779) * 4503599627370496
        · have d2 : ((v : Int) == ((k : Int) + 779) * 4503599627370496) = true := by simp; omega
          have HF : Hid (codeT v = k) := Lib.hid (by rw [he]; exact codeT_of hk1 (by omega))
          clear hn he
          go_wp2
          go_ret
          exact ⟨by rw [HF.out]; rfl, rfl⟩
        · have d2 : ((v : Int) == ((k : Int) + 779) * 4503599627370496) = false := by simp; omega
          have HN := Lib.hid (fun j h1 h2 h3 => by
            rcases Nat.lt_or_ge j k with h | h
            · exact hn.out j h1 h h3
            · obtain rfl : j = k := by omega
              exact he h3 : ∀ j : Nat, 1 ≤ j → j < k + 1 → v ≠ (j + 779) * 4503599627370496)
          clear hn he
          go_wp2
          go_round
          case rel => exact ⟨k + 1, by omega, by omega, by go_num, HN⟩
          case measure => simp [intOf]; omega
      · obtain rfl : k = 255 := by omega
        have HF : Hid (codeT v = 255) := Lib.hid (by
          have h1 := HC.out
          have h2 := HZ.out
          by_cases h3 : codeT v = 255
          · exact h3
          · have g1 : 1 ≤ codeT v := Nat.one_le_iff_ne_zero.2 h2
            have g2 : codeT v < 255 := Nat.lt_of_le_of_ne h1 h3
            exact absurd (codeT_mid h2 h3) (hn.out (codeT v) g1 g2))
        clear hn
        go_wp2
        go_ret
        exact ⟨by rw [HF.out]; rfl, rfl⟩
set_option maxHeartbeats 800000 in
theorem Bits12_calls (v : Nat) (w : World) (hv : v < 18446744073709551616) : Calls Tryz.prog 82 #[.int .u64 v] w fun e w' => e = .returned (.string (txt (encT v))) ∧ w = w' := by
  have HB := Lib.hid (fun W => Byte_calls v W hv)
  have hc := codeT_lt v
  by_cases h5 : codeT v = 255
  · have HE : Hid (txt (encT v) = txt (nb 255 8) ++ txt (nb v 64)) := Lib.hid (by rw [encT, if_pos h5, h5, txt_append])
    have HN1 := Lib.hid (fun W => number_calls 255 8 W (by decide) (by decide))
    have HN2 := Lib.hid (fun W => number_calls v 64 W hv (by decide))
    have z1 : (txt (nb 255 8)).size = 8 := by rw [txt_size, nb_length]
    have z2 : (txt (nb v 64)).size = 64 := by rw [txt_size, nb_length]
    rw [h5] at HB
    clear h5 hc
    go_enter Tryz.func82, Tryz.ntmps82
    go_wp2_with (fail)
    refine (HB.out _).mono ?_
    rintro e w1 ⟨rfl, rfl⟩
    go_wp2_with (fail)
    refine (HN1.out _).mono ?_
    rintro e w1 ⟨rfl, rfl⟩
    go_wp2_with (fail)
    refine (HN2.out _).mono ?_
    rintro e w1 ⟨rfl, rfl⟩
    go_wp2
    go_ret
    exact ⟨by rw [HE.out]; rfl, rfl⟩
  · have HE : Hid (txt (encT v) = txt (nb (codeT v) 8)) := Lib.hid (by rw [encT, if_neg h5, List.append_nil])
    have HN1 := Lib.hid (fun W => number_calls (codeT v) 8 W (by omega) (by decide))
    have d1 : ((codeT v : Int) == 255) = false := by simp; omega
    obtain ⟨c, hcc⟩ : ∃ c, c = codeT v := ⟨_, rfl⟩
    rw [← hcc] at HB HE HN1 hc d1
    clear h5 hcc
    go_enter Tryz.func82, Tryz.ntmps82
    go_wp2_with (fail)
    refine (HB.out _).mono ?_
    rintro e w1 ⟨rfl, rfl⟩
    go_wp2_with (fail)
    refine (HN1.out _).mono ?_
    rintro e w1 ⟨rfl, rfl⟩
    go_wp2
    go_ret
    exact ⟨by rw [HE.out]; rfl, rfl⟩
/-- what a reading tells of some bits. -/
def P12 (q : List Bool) (w : World) (e : Ending) (w' : World) : Prop := e = .returned (.tuple #[.int .u64 (parseT q).2.1, .int .i64 (parseT q).2.2, .int .i64 (parseT q).1]) ∧ w = w'
set_option maxRecDepth 100000 in
set_option maxHeartbeats 1600000 in
theorem Parse12_calls (q : List Bool) (w : World) (hm : q.length ≤ 1000000) : Calls Tryz.prog 92 #[.string (txt q)] w (P12 q w) := by
  have hsz := txt_size q
  have hlt := val_lt8 q
  by_cases h8 : q.length < 8
  · have HP : Hid (parseT q = (16, 0, 0)) := Lib.hid (by unfold parseT; rw [if_pos h8])
    have d1 : decide ((q.length : Int) < 8) = true := by simp; omega
    have d1n : decide (q.length < 8) = true := by simp; omega
    obtain ⟨s, hs⟩ : ∃ s, s = txt q := ⟨_, rfl⟩
    rw [← hs] at hsz ⊢
    clear h8 hs
    go_enter Tryz.func92, Tryz.ntmps92
    go_wp2
    go_ret3
    exact ⟨by rw [HP.out]; rfl, rfl⟩
  have d1 : decide ((q.length : Int) < 8) = false := by simp; omega
  have d1n : decide (q.length < 8) = false := by simp; omega
  have hl8 : (q.take 8).length = 8 := by rw [List.length_take]; omega
  have HV := Lib.hid (fun W => value_calls (q.take 8) W (by omega))
  have hcut : ∀ W, (Instr.slice 9 (.string (txt q)) none (some (.int .i64 8)) none).run Tryz.prog W = .ok (.string (txt (q.take 8))) W := fun W => cut_lo (P := Tryz.prog) 9 Tryz.underlying9 (txt q) q 8 rfl (by omega) W
  have HP : Hid (∀ c : Nat, c = val (q.take 8) → parseT q = if c = 255 then
      if q.length < 72 then (16, 0, 0)
      else if thrOk (val ((q.drop 8).take 64)) = false then (11, 0, 0)
      else if codeT (val ((q.drop 8).take 64)) ≠ 255 then (10, 0, 0)
      else (0, val ((q.drop 8).take 64), 72)
    else if c = 0 then (0, 0, 8) else (0, (c + 779) * 4503599627370496, 8)) := Lib.hid (by rintro c rfl; unfold parseT; rw [if_neg h8])
  obtain ⟨c, hc⟩ : ∃ c, c = val (q.take 8) := ⟨_, rfl⟩
  have HP2 := Lib.hid (HP.out c hc)
  rw [← hc] at HV hlt
  by_cases h0 : c = 0
  · have HP3 : Hid (parseT q = (0, 0, 8)) := Lib.hid (by rw [HP2.out, if_neg (by omega), if_pos h0])
    subst h0
    obtain ⟨s, hs⟩ : ∃ s, s = txt q := ⟨_, rfl⟩
    obtain ⟨t, ht⟩ : ∃ t, t = txt (q.take 8) := ⟨_, rfl⟩
    rw [← hs] at hsz hcut ⊢
    rw [← ht] at HV hcut
    clear hs ht hc h8 hl8
    go_enter Tryz.func92, Tryz.ntmps92
    go_wp2_with (fail)
    refine (HV.out _).mono ?_
    rintro e w1 ⟨rfl, rfl⟩
    go_wp2
    go_ret3
    exact ⟨by rw [HP3.out]; rfl, rfl⟩
  have e0 : ((c : Int) == 0) = false := by simp; omega
  by_cases h5 : ¬ c = 255
  · have d2 : decide ((c : Int) < 255) = true := by simp; omega
    have d2n : decide (c < 255) = true := by simp; omega
    have HP3 : Hid (parseT q = (0, (c + 779) * 4503599627370496, 8)) := Lib.hid (by rw [HP2.out, if_neg h5, if_neg h0])
    have hmul : IntKind.u64.wrap (((c : Int) + 779) * 4503599627370496) = ((c : Int) + 779) * 4503599627370496 := by rw [IntKind.wrap_u64]; omega
    obtain ⟨s, hs⟩ : ∃ s, s = txt q := ⟨_, rfl⟩
    obtain ⟨t, ht⟩ : ∃ t, t = txt (q.take 8) := ⟨_, rfl⟩
    rw [← hs] at hsz hcut ⊢
    rw [← ht] at HV hcut
    clear hs ht hc h8 hl8 h0
    go_enter Tryz.func92, Tryz.ntmps92
    go_wp2_with (fail)
    refine (HV.out _).mono ?_
    rintro e w1 ⟨rfl, rfl⟩
    go_wp2
    go_ret3
    exact ⟨by rw [HP3.out]; rfl, rfl⟩
  obtain rfl : c = 255 := Decidable.not_not.1 h5
  have d2 : decide ((255 : Int) < 255) = false := rfl
  clear h0 h5 e0
  by_cases h72 : q.length < 72
  · have d3 : decide ((q.length : Int) < 72) = true := by simp; omega
    have d3n : decide (q.length < 72) = true := by simp; omega
    have HP3 : Hid (parseT q = (16, 0, 0)) := Lib.hid (by rw [HP2.out, if_pos rfl, if_pos h72])
    obtain ⟨s, hs⟩ : ∃ s, s = txt q := ⟨_, rfl⟩
    obtain ⟨t, ht⟩ : ∃ t, t = txt (q.take 8) := ⟨_, rfl⟩
    rw [← hs] at hsz hcut ⊢
    rw [← ht] at HV hcut
    clear hs ht hc h8 hl8 h72
    go_enter Tryz.func92, Tryz.ntmps92
    go_wp2_with (fail)
    refine (HV.out _).mono ?_
    rintro e w1 ⟨rfl, rfl⟩
    go_wp2
    go_ret3
    exact ⟨by rw [HP3.out]; rfl, rfl⟩
  have d3 : decide ((q.length : Int) < 72) = false := by simp; omega
  have d3n : decide (q.length < 72) = false := by simp; omega
  have hl64 : ((q.drop 8).take 64).length = 64 := by rw [List.length_take, List.length_drop]; omega
  have hcut2 : ∀ W, (Instr.slice 9 (.string (txt q)) (some (.int .i64 8)) (some (.int .i64 72)) none).run Tryz.prog W = .ok (.string (txt ((q.drop 8).take 64))) W := fun W => cut_mid (P := Tryz.prog) 9 Tryz.underlying9 (txt q) q 8 72 rfl (by omega) (by omega) W
  have HV2 := Lib.hid (fun W => value_calls ((q.drop 8).take 64) W (by omega))
  have hv64 : val ((q.drop 8).take 64) < 18446744073709551616 := by have := val_lt ((q.drop 8).take 64); rw [hl64] at this; exact this
  rw [if_pos rfl, if_neg h72] at HP2
  obtain ⟨v, hv⟩ : ∃ v, v = val ((q.drop 8).take 64) := ⟨_, rfl⟩
  rw [← hv] at HV2 hv64 HP2
  obtain ⟨s, hs⟩ : ∃ s, s = txt q := ⟨_, rfl⟩
  obtain ⟨t, ht⟩ : ∃ t, t = txt (q.take 8) := ⟨_, rfl⟩
  obtain ⟨t2, ht2⟩ : ∃ t, t = txt ((q.drop 8).take 64) := ⟨_, rfl⟩
  rw [← hs] at hsz hcut hcut2 ⊢
  rw [← ht] at HV hcut
  rw [← ht2] at HV2 hcut2
  have HH := Lib.hid (fun W => Head_calls 0 v W)
  have HBY := Lib.hid (fun W => Byte_calls v W hv64)
  clear hs ht ht2 hc h8 hl8 h72 hl64 hv HP
  cases hk : thrOk v with
  | false =>
    rw [show headE 0 v = 11 from by rw [headE_z, hk]; rfl] at HH
    rw [if_pos hk] at HP2
    clear hk
    go_enter Tryz.func92, Tryz.ntmps92
    go_wp2_with (fail)
    refine (HV.out _).mono ?_
    rintro e w1 ⟨rfl, rfl⟩
    go_wp2_with (fail)
    refine (HV2.out _).mono ?_
    rintro e w1 ⟨rfl, rfl⟩
    go_wp2_with (fail)
    refine (HH.out _).mono ?_
    rintro e w1 ⟨rfl, rfl⟩
    go_wp2
    go_ret3
    exact ⟨by rw [HP2.out]; rfl, rfl⟩
  | true =>
    rw [show headE 0 v = 0 from by rw [headE_z, hk]; rfl] at HH
    rw [if_neg (by rw [hk]; decide)] at HP2
    clear hk
    obtain ⟨b, hb⟩ : ∃ b, b = codeT v := ⟨_, rfl⟩
    rw [← hb] at HBY HP2
    clear hb
    by_cases h5 : b = 255
    · subst h5
      go_enter Tryz.func92, Tryz.ntmps92
      go_wp2_with (fail)
      refine (HV.out _).mono ?_
      rintro e w1 ⟨rfl, rfl⟩
      go_wp2_with (fail)
      refine (HV2.out _).mono ?_
      rintro e w1 ⟨rfl, rfl⟩
      go_wp2_with (fail)
      refine (HH.out _).mono ?_
      rintro e w1 ⟨rfl, rfl⟩
      go_wp2_with (fail)
      refine (HBY.out _).mono ?_
      rintro e w1 ⟨rfl, rfl⟩
      go_wp2
      go_ret3
      exact ⟨by rw [HP2.out]; rfl, rfl⟩
    · have e5 : ((b : Int) != 255) = true := by simp; omega
      rw [if_pos h5] at HP2
      clear h5
      go_enter Tryz.func92, Tryz.ntmps92
      go_wp2_with (fail)
      refine (HV.out _).mono ?_
      rintro e w1 ⟨rfl, rfl⟩
      go_wp2_with (fail)
      refine (HV2.out _).mono ?_
      rintro e w1 ⟨rfl, rfl⟩
      go_wp2_with (fail)
      refine (HH.out _).mono ?_
      rintro e w1 ⟨rfl, rfl⟩
      go_wp2_with (fail)
      refine (HBY.out _).mono ?_
      rintro e w1 ⟨rfl, rfl⟩
      go_wp2
      go_ret3
      exact ⟨by rw [HP2.out]; rfl, rfl⟩
end Go.Proofs.YtjfekjbmgckkcaaGreatDoor.Ref12
