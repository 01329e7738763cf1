/- threshold's walks: Power, Of, code, Put, Get. -/
import Derived.Test.YtjfekjbmgckkcaaGreatDoorStreamR
import Derived.Test.YtjfekjbmgckkcaaGreatDoorStreamBit
import Derived.Test.YtjfekjbmgckkcaaGreatDoorThrPure
namespace Go.Proofs.YtjfekjbmgckkcaaGreatDoor.ThrA
open Go.RowKit Go.Proofs.YtjfekjbmgckkcaaGreatDoorW.PrintWords
open Go.Proofs.YtjfekjbmgckkcaaGreatDoor.Bits Go.Proofs.YtjfekjbmgckkcaaGreatDoor.Base Go.Proofs.YtjfekjbmgckkcaaGreatDoor.StreamPure Go.Proofs.YtjfekjbmgckkcaaGreatDoor.StreamA Go.Proofs.YtjfekjbmgckkcaaGreatDoor.StreamBit Go.Proofs.YtjfekjbmgckkcaaGreatDoor.StreamR Go.Proofs.YtjfekjbmgckkcaaGreatDoor.ThrPure

theorem ret_int {k : IntKind} {a b : Int} (h : a = b) : Ending.returned (.int k a) = .returned (.int k b) := by rw [h]
theorem ret_tup {k : IntKind} {a b : Int} {v : Value} (h : a = b) : Ending.returned (.tuple #[.int k a, v]) = .returned (.tuple #[.int k b, v]) := by rw [h]
theorem thr_calls (v : Nat) (w : World) : Calls Tryz.prog 143 #[.int .u64 v] w fun e w' => e = .returned (.bool (thrOk v)) ∧ w = w' := by
  have HF : Hid (thrOk v = decide (v < 9218868437227405312)) := Lib.hid rfl
  by_cases h : v < 9218868437227405312
  · have d1 : decide ((v : Int) < 9218868437227405312) = true := by simp; omega
    have d1n : decide (v < 9218868437227405312) = true := by simp; omega
    go_enter Tryz.func143, Tryz.ntmps143
    go_wp2
    go_ret
    exact ⟨by rw [HF.out, decide_eq_true h]; rfl, rfl⟩
  · have d1 : decide ((v : Int) < 9218868437227405312) = false := by simp; omega
    have d1n : decide (v < 9218868437227405312) = false := by simp; omega
    go_enter Tryz.func143, Tryz.ntmps143
    go_wp2
    go_ret
    exact ⟨by rw [HF.out, decide_eq_false h]; rfl, rfl⟩
/-- what Power hands back. -/
def PowPost (v : Nat) (w : World) (e : Ending) (w' : World) : Prop :=
  w = w' ∧ ((pw v = true ∧ e = .returned (.tuple #[.int .i64 ((v / 4503599627370496 : Nat) - 1023 : Int), .bool true])) ∨ (pw v = false ∧ e = .returned (.tuple #[.int .i64 0, .bool false])))
set_option maxHeartbeats 1600000 in
theorem power_calls (v : Nat) (w : World) (hv : v < 18446744073709551616) : Calls Tryz.prog 202 #[.int .u64 v] w (PowPost v w) := by
  obtain ⟨p, hp⟩ : ∃ p, p = v / 4503599627370496 := ⟨_, rfl⟩
  have ep : ((v : Int) / 4503599627370496) = (p : Int) := by omega
  have hp2 : p < 4096 := by omega
  by_cases h0 : v % 4503599627370496 = 0
  · have e1 : ((v : Int) % 4503599627370496 != 0) = false := by simp; omega
    by_cases h1 : 780 ≤ p
    · have d1 : decide ((p : Int) - 1023 < -243) = false := by simp; omega
      by_cases h2 : p ≤ 1033
      · have d2 : decide ((p : Int) - 1023 > 10) = false := by simp; omega
        have d2' : decide (10 < (p : Int) - 1023) = false := by simp; omega
        have HF : Hid (pw v = true) := Lib.hid (by unfold pw; rw [← hp, decide_eq_true ⟨h0, h1, h2⟩])
        have HP := Lib.hid hp
        clear h0 hp
        go_enter Tryz.func202, Tryz.ntmps202
        go_wp2
        go_ret2
        exact ⟨rfl, .inl ⟨HF.out, by rw [← HP.out]; rfl⟩⟩
      · have d2 : decide ((p : Int) - 1023 > 10) = true := by simp; omega
        have d2' : decide (10 < (p : Int) - 1023) = true := by simp; omega
        have HF : Hid (pw v = false) := Lib.hid (by unfold pw; rw [← hp, decide_eq_false (by omega)])
        clear h0 hp
        go_enter Tryz.func202, Tryz.ntmps202
        go_wp2
        go_ret2
        exact ⟨rfl, .inr ⟨HF.out, rfl⟩⟩
    · have d1 : decide ((p : Int) - 1023 < -243) = true := by simp; omega
      have HF : Hid (pw v = false) := Lib.hid (by unfold pw; rw [← hp, decide_eq_false (by omega)])
      clear h0 hp
      go_enter Tryz.func202, Tryz.ntmps202
      go_wp2
      go_ret2
      exact ⟨rfl, .inr ⟨HF.out, rfl⟩⟩
  · have e1 : ((v : Int) % 4503599627370496 != 0) = true := by simp; omega
    have HF : Hid (pw v = false) := Lib.hid (by unfold pw; rw [decide_eq_false (by omega)])
    clear h0 hp
    go_enter Tryz.func202, Tryz.ntmps202
    go_wp2
    go_ret2
    exact ⟨rfl, .inr ⟨HF.out, rfl⟩⟩
set_option maxHeartbeats 800000 in
/-- Of a byte's exponent. -/
theorem of_calls (c : Nat) (w : World) (h1 : 1 ≤ c) (h2 : c ≤ 254) : Calls Tryz.prog 207 #[.int .i64 ((c : Int) - 244)] w fun e w' => e = .returned (.tuple #[.int .u64 ((c + 779) * 4503599627370496 : Nat), .bool true]) ∧ w = w' := by
  have d1 : decide ((c : Int) - 244 < -243) = false := by simp; omega
  have d2 : decide ((c : Int) - 244 > 10) = false := by simp; omega
  have d2' : decide (10 < (c : Int) - 244) = false := by simp; omega
  go_enter Tryz.func207, Tryz.ntmps207
  go_wp2
  go_ret2
  exact ⟨ret_tup (a := ((c : Int) - 244 + 1023) * 4503599627370496) (by omega), rfl⟩
set_option maxHeartbeats 800000 in
theorem code_calls (v : Nat) (w : World) (hv : v < 18446744073709551616) : Calls Tryz.prog 149 #[.int .u64 v] w fun e w' => e = .returned (.int .u64 (codeT v)) ∧ w = w' := by
  by_cases h0 : v = 0
  · subst h0
    have HF : Hid (codeT 0 = 0) := Lib.hid rfl
    go_enter Tryz.func149, Tryz.ntmps149
    go_wp2
    go_ret
    exact ⟨by rw [HF.out]; rfl, rfl⟩
  · have e0 : ((v : Int) == 0) = false := by simp; omega
    have e0n : (v == 0) = false := by simp; omega
    have HP := Lib.hid (power_calls v w hv)
    have H0 := Lib.hid h0
    clear h0
    go_enter Tryz.func149, Tryz.ntmps149
    go_wp2_with (fail)
    refine HP.out.mono ?_
    rintro e w1 ⟨rfl, ⟨hp, rfl⟩ | ⟨hp, rfl⟩⟩
    · have hpp := hp
      unfold pw at hpp
      rw [decide_eq_true_eq] at hpp
      obtain ⟨p, hpq⟩ : ∃ p, p = v / 4503599627370496 := ⟨_, rfl⟩
      have HF : Hid (codeT v = p - 779) := Lib.hid (by unfold codeT; rw [if_neg H0.out, hp, if_pos rfl, hpq])
      rw [← hpq] at hpp ⊢
      obtain ⟨-, b1, b2⟩ := hpp
      clear hp hpq HP
      go_wp2
      go_ret
      rw [HF.out]
      exact ⟨ret_int (a := 244 + ((p : Int) - 1023)) (by omega), rfl⟩
    · have HF : Hid (codeT v = 255) := Lib.hid (by unfold codeT; rw [if_neg H0.out, hp]; rfl)
      clear hp HP
      go_wp2
      go_ret
      exact ⟨by rw [HF.out]; rfl, rfl⟩
/-- what Put hands back. -/
def PutPost (S : Nat → Prop) (g : Nat) (l : List Bool) (v : Nat) (w : World) (e : Ending) (w' : World) : Prop :=
  (thrOk v = true ∧ e = .returned (.int .i64 0) ∧ Upd (fun w S => Wr w g S (l ++ encT v)) S w w') ∨ (thrOk v = false ∧ e = .returned (.int .i64 11) ∧ w = w')
set_option maxHeartbeats 1600000 in
theorem put_calls (g : Nat) (S : Nat → Prop) (l : List Bool) (v : Nat) (w : World) (h : Wr w g S l) (hm : l.length ≤ 10000000000) (hv : v < 18446744073709551616) :
    Calls Tryz.prog 74 #[.pointer (some ⟨g, 0, none⟩), .int .u64 v] w (PutPost S g l v w) := by
  have HT := Lib.hid (thr_calls v w)
  cases hk : thrOk v with
  | false =>
    rw [hk] at HT
    have HK := Lib.hid hk
    clear hk h
    go_enter Tryz.func74, Tryz.ntmps74
    go_wp2_with (go_at_call 143; refine HT.out.mono ?_; rintro e w' ⟨rfl, rfl⟩)
    go_ret
    exact .inr ⟨HK.out, rfl, rfl⟩
  | true =>
    rw [hk] at HT
    have HK := Lib.hid hk
    have HC := Lib.hid (code_calls v w hv)
    have hcl := codeT_lt v
    have HE : Hid (encT v = nb (codeT v) 8 ++ (if codeT v = 255 then nb v 64 else [])) := Lib.hid rfl
    obtain ⟨c, hc⟩ : ∃ c, c = codeT v := ⟨_, rfl⟩
    rw [← hc] at HC hcl HE
    have HP := Lib.hid (StreamBit.put_calls g S l c 8 w h (by omega) (by omega) (by omega))
    clear hk h hc
    go_enter Tryz.func74, Tryz.ntmps74
    go_wp2_with (first
      | (go_at_call 143; refine HT.out.mono ?_; rintro e w' ⟨rfl, rfl⟩)
      | (go_at_call 149; refine HC.out.mono ?_; rintro e w' ⟨rfl, rfl⟩))
    refine HP.out.mono ?_
    rintro e w1 ⟨rfl, hu⟩
    by_cases h5 : c = 255
    · subst h5
      rw [if_pos rfl] at HE
      obtain ⟨S1, hw1, hs1, hc1⟩ := hu
      have HQ := Lib.hid (StreamBit.put_calls g S1 (l ++ nb 255 8) v 64 w1 hw1 (by rw [List.length_append, nb_length]; omega) (by omega) hv)
      have HS := Lib.hid hs1
      have HCH := Lib.hid hc1
      clear hw1 hs1 hc1 HP HT HC
      go_wp2_with (go_at_call 72; refine HQ.out.mono ?_; rintro e w2 ⟨rfl, hu2⟩; have HU := Lib.hid hu2; clear hu2)
      go_ret
      refine .inl ⟨HK.out, rfl, ?_⟩
      rw [HE.out, ← List.append_assoc]
      exact Upd.then HS.out HCH.out HU.out
    · have e5 : ((c : Int) == 255) = false := by simp; omega
      have e5n : (c == 255) = false := by simp; omega
      rw [if_neg h5, List.append_nil] at HE
      have HU := Lib.hid hu
      clear hu h5
      go_wp2
      go_ret
      refine .inl ⟨HK.out, rfl, ?_⟩
      rw [HE.out]
      exact HU.out
/-- what Get hands back. -/
def GetPost (g a : Nat) (S : Nat → Prop) (q : List Bool) (w : World) (e : Ending) (w' : World) : Prop :=
  Ch S w w' ∧ (((parseT q).1 ≠ 0 ∧ e = .returned (.tuple #[.int .u64 0, .int .i64 (parseT q).1]) ∧ ∃ a' q' sh, Rr w' g S a' q' sh) ∨
    ((parseT q).1 = 0 ∧ e = .returned (.tuple #[.int .u64 (parseT q).2.1, .int .i64 0]) ∧ Rr w' g S (a + (parseT q).2.2) (q.drop (parseT q).2.2) false))
set_option maxHeartbeats 3200000 in
/-- far, behind a byte 255. -/
theorem far_calls (g a : Nat) (S : Nat → Prop) (q : List Bool) (w : World) (h : Rr w g S (a + 8) (q.drop 8) false) (h8 : 8 ≤ q.length) (h5 : val (q.take 8) = 255) :
    Calls Tryz.prog 206 #[.pointer (some ⟨g, 0, none⟩)] w (GetPost g a S q w) := by
  by_cases hs : q.length < 72
  · have HP : Hid (parseT q = (16, 0, 0)) := Lib.hid (by unfold parseT; rw [if_neg (by omega), if_pos h5, if_pos hs])
    have HG := Lib.hid (get_short g (a + 8) 64 S (q.drop 8) false w h (by omega) (by omega) (by rw [List.length_drop]; omega))
    clear h h5
    go_enter Tryz.func206, Tryz.ntmps206
    go_wp2_with (fail)
    refine HG.out.mono ?_
    rintro e w1 ⟨rfl, hr, hc⟩
    have HR := Lib.hid hr
    have HC := Lib.hid hc
    have HS := Lib.hid (short_calls g (a + 8) S [] true w1 hr)
    clear hr hc HG
    go_wp2_with (go_at_call 157; refine HS.out.mono ?_; rintro e w' ⟨rfl, rfl⟩)
    go_ret2
    exact ⟨HC.out, .inl ⟨by rw [HP.out]; decide, by rw [HP.out]; rfl, _, _, _, HR.out⟩⟩
  · have HG := Lib.hid (get_calls g (a + 8) 64 S (q.drop 8) false w h (by omega) (by omega) (by rw [List.length_drop]; omega))
    obtain ⟨v, hv⟩ : ∃ v, v = val ((q.drop 8).take 64) := ⟨_, rfl⟩
    have hvl : v < 18446744073709551616 := by
      have := val_lt ((q.drop 8).take 64)
      have h' : ((q.drop 8).take 64).length ≤ 64 := by rw [List.length_take]; omega
      have : 2 ^ ((q.drop 8).take 64).length ≤ 2 ^ 64 := Nat.pow_le_pow_right (by decide) h'
      rw [hv]; omega
    rw [← hv] at HG
    have HP : Hid (parseT q = if thrOk v = false then (11, 0, 0) else if codeT v ≠ 255 then (10, 0, 0) else (0, v, 72)) := Lib.hid (by unfold parseT; rw [if_neg (by omega), if_pos h5, if_neg hs, ← hv])
    have HT := Lib.hid (fun W => thr_calls v W)
    have HCD := Lib.hid (fun W => code_calls v W hvl)
    clear h h5 hv
    cases hk : thrOk v with
    | false =>
      rw [hk] at HT
      rw [hk, if_pos rfl] at HP
      clear hk
      go_enter Tryz.func206, Tryz.ntmps206
      go_wp2_with (fail)
      refine HG.out.mono ?_
      rintro e w1 ⟨rfl, hr, hc⟩
      have HR := Lib.hid hr
      have HC := Lib.hid hc
      have HS := Lib.hid (short_calls g (a + 8 + 64) S _ false w1 hr)
      clear hr hc HG
      go_wp2_with (first
        | (go_at_call 157; refine HS.out.mono ?_; rintro e w' ⟨rfl, rfl⟩)
        | (go_at_call 143; refine (HT.out _).mono ?_; rintro e w' ⟨rfl, rfl⟩))
      go_ret2
      exact ⟨HC.out, .inl ⟨by rw [HP.out]; decide, by rw [HP.out]; rfl, _, _, _, HR.out⟩⟩
    | true =>
      rw [hk] at HT
      rw [hk, if_neg (by decide)] at HP
      clear hk
      by_cases hcd : codeT v = 255
      · rw [hcd] at HCD
        rw [if_neg (by omega)] at HP
        clear hcd
        go_enter Tryz.func206, Tryz.ntmps206
        go_wp2_with (fail)
        refine HG.out.mono ?_
        rintro e w1 ⟨rfl, hr, hc⟩
        have HR := Lib.hid hr
        have HC := Lib.hid hc
        have HS := Lib.hid (short_calls g (a + 8 + 64) S _ false w1 hr)
        clear hr hc HG
        go_wp2_with (first
          | (go_at_call 157; refine HS.out.mono ?_; rintro e w' ⟨rfl, rfl⟩)
          | (go_at_call 143; refine (HT.out _).mono ?_; rintro e w' ⟨rfl, rfl⟩)
          | (go_at_call 149; refine (HCD.out _).mono ?_; rintro e w' ⟨rfl, rfl⟩))
        go_ret2
        refine ⟨HC.out, .inr ⟨by rw [HP.out], by rw [HP.out]; rfl, ?_⟩⟩
        rw [HP.out]
        have := HR.out
        rwa [List.drop_drop] at this
      · have HN : Hid ((parseT q).1 = 10) := Lib.hid (by rw [HP.out, if_pos hcd])
        obtain ⟨c, hc9⟩ : ∃ c, c = codeT v := ⟨_, rfl⟩
        rw [← hc9] at HCD hcd
        have e5 : ((c : Int) != 255) = true := by simp; omega
        have e5n : (c != 255) = true := by simp; omega
        clear hcd hc9
        go_enter Tryz.func206, Tryz.ntmps206
        go_wp2_with (fail)
        refine HG.out.mono ?_
        rintro e w1 ⟨rfl, hr, hc⟩
        have HR := Lib.hid hr
        have HC := Lib.hid hc
        have HS := Lib.hid (short_calls g (a + 8 + 64) S _ false w1 hr)
        clear hr hc HG
        go_wp2_with (first
          | (go_at_call 157; refine HS.out.mono ?_; rintro e w' ⟨rfl, rfl⟩)
          | (go_at_call 143; refine (HT.out _).mono ?_; rintro e w' ⟨rfl, rfl⟩)
          | (go_at_call 149; refine (HCD.out _).mono ?_; rintro e w' ⟨rfl, rfl⟩))
        go_ret2
        exact ⟨HC.out, .inl ⟨by rw [HN.out]; decide, by rw [HN.out]; rfl, _, _, _, HR.out⟩⟩
set_option maxHeartbeats 3200000 in
theorem get_calls' (g a : Nat) (S : Nat → Prop) (q : List Bool) (w : World) (h : Rr w g S a q false) :
    Calls Tryz.prog 159 #[.pointer (some ⟨g, 0, none⟩)] w (GetPost g a S q w) := by
  by_cases hs : q.length < 8
  · have HP : Hid (parseT q = (16, 0, 0)) := Lib.hid (by unfold parseT; rw [if_pos hs])
    have HG := Lib.hid (get_short g a 8 S q false w h (by omega) (by omega) hs)
    clear h
    go_enter Tryz.func159, Tryz.ntmps159
    go_wp2_with (fail)
    refine HG.out.mono ?_
    rintro e w1 ⟨rfl, hr, hc⟩
    have HR := Lib.hid hr
    have HC := Lib.hid hc
    have HS := Lib.hid (short_calls g a S [] true w1 hr)
    clear hr hc HG
    go_wp2_with (go_at_call 157; refine HS.out.mono ?_; rintro e w' ⟨rfl, rfl⟩)
    go_ret2
    exact ⟨HC.out, .inl ⟨by rw [HP.out]; decide, by rw [HP.out]; rfl, _, _, _, HR.out⟩⟩
  · have HG := Lib.hid (StreamR.get_calls g a 8 S q false w h (by omega) (by omega) (by omega))
    have hv8 := val_lt8 q
    obtain ⟨c, hc⟩ : ∃ c, c = val (q.take 8) := ⟨_, rfl⟩
    by_cases h5 : val (q.take 8) = 255
    · rw [h5] at HG
      have H5 := Lib.hid h5
      clear h hc h5
      go_enter Tryz.func159, Tryz.ntmps159
      go_wp2_with (fail)
      refine HG.out.mono ?_
      rintro e w1 ⟨rfl, hr, hc⟩
      have HC := Lib.hid hc
      have HS := Lib.hid (short_calls g (a + 8) S _ false w1 hr)
      have HF := Lib.hid (far_calls g a S q w1 hr (by omega) H5.out)
      clear hr hc HG
      go_wp2_with (go_at_call 157; refine HS.out.mono ?_; rintro e w' ⟨rfl, rfl⟩)
      refine HF.out.mono ?_
      rintro e w2 ⟨hc2, ⟨h1, rfl, hrr⟩ | ⟨h1, rfl, hrr⟩⟩
      · have HC2 := Lib.hid (HC.out.trans hc2 fun _ _ h => h)
        have H1 := Lib.hid h1
        have HRR := Lib.hid hrr
        clear hc2 h1 hrr HF
        go_wp2
        go_ret2
        exact ⟨HC2.out, .inl ⟨H1.out, rfl, HRR.out⟩⟩
      · have HC2 := Lib.hid (HC.out.trans hc2 fun _ _ h => h)
        have H1 := Lib.hid h1
        have HRR := Lib.hid hrr
        clear hc2 h1 hrr HF
        go_wp2
        go_ret2
        exact ⟨HC2.out, .inr ⟨H1.out, rfl, HRR.out⟩⟩
    · rw [← hc] at HG hv8 h5
      have e5 : ((c : Int) == 255) = false := by simp; omega
      have e5n : (c == 255) = false := by simp; omega
      by_cases h0 : c = 0
      · subst h0
        have HP : Hid (parseT q = (0, 0, 8)) := Lib.hid (by unfold parseT; rw [if_neg (by omega), ← hc, if_neg (by decide), if_pos rfl])
        clear h h5 hc
        go_enter Tryz.func159, Tryz.ntmps159
        go_wp2_with (fail)
        refine HG.out.mono ?_
        rintro e w1 ⟨rfl, hr, hc⟩
        have HR := Lib.hid hr
        have HC := Lib.hid hc
        have HS := Lib.hid (short_calls g (a + 8) S _ false w1 hr)
        clear hr hc HG
        go_wp2_with (go_at_call 157; refine HS.out.mono ?_; rintro e w' ⟨rfl, rfl⟩)
        go_ret2
        exact ⟨HC.out, .inr ⟨by rw [HP.out], by rw [HP.out]; rfl, by rw [HP.out]; exact HR.out⟩⟩
      · have e0 : ((c : Int) == 0) = false := by simp; omega
        have e0n : (c == 0) = false := by simp; omega
        have HP : Hid (parseT q = (0, (c + 779) * 4503599627370496, 8)) := Lib.hid (by unfold parseT; rw [if_neg (by omega), ← hc, if_neg h5, if_neg h0])
        have HO := Lib.hid (fun W => of_calls c W (by omega) (by omega))
        clear h h5 hc h0
        go_enter Tryz.func159, Tryz.ntmps159
        go_wp2_with (fail)
        refine HG.out.mono ?_
        rintro e w1 ⟨rfl, hr, hc⟩
        have HR := Lib.hid hr
        have HC := Lib.hid hc
        have HS := Lib.hid (short_calls g (a + 8) S _ false w1 hr)
        clear hr hc HG
        go_wp2_with (first
          | (go_at_call 157; refine HS.out.mono ?_; rintro e w' ⟨rfl, rfl⟩)
          | (go_at_call 207; refine (HO.out _).mono ?_; rintro e w' ⟨rfl, rfl⟩))
        go_ret2
        exact ⟨HC.out, .inr ⟨by rw [HP.out], by rw [HP.out]; rfl, by rw [HP.out]; exact HR.out⟩⟩
end Go.Proofs.YtjfekjbmgckkcaaGreatDoor.ThrA
