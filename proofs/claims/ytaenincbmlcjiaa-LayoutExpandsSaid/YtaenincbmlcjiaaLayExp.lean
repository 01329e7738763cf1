/- law 08: any values are expanded by any inserts that may be; others are refused. -/
import Derived.Test.YtaenincbmlcjiaaLayAw
import Derived.Test.YtaenincbmlcjiaaLayPure4
import Derived.Test.YtaenincbmlcjiaaOpenSp
namespace Go.Proofs.Ytaenincbmlcjiaa.LayExp
open Go.RowKit Go.Proofs.YtaenincbmlcjiaaW.PrintWords
open Go.Proofs.Ytaenincbmlcjiaa.Base Go.Proofs.Ytaenincbmlcjiaa.SpanPure Go.Proofs.Ytaenincbmlcjiaa.SpanPure2 Go.Proofs.Ytaenincbmlcjiaa.LayPure Go.Proofs.Ytaenincbmlcjiaa.LayPure2 Go.Proofs.Ytaenincbmlcjiaa.LayPure4 Go.Proofs.Ytaenincbmlcjiaa.SpanBase Go.Proofs.Ytaenincbmlcjiaa.LayA Go.Proofs.Ytaenincbmlcjiaa.LayB Go.Proofs.Ytaenincbmlcjiaa.LayC Go.Proofs.Ytaenincbmlcjiaa.LayD Go.Proofs.Ytaenincbmlcjiaa.LayF Go.Proofs.Ytaenincbmlcjiaa.LayG Go.Proofs.Ytaenincbmlcjiaa.LawBase Go.Proofs.Ytaenincbmlcjiaa.OpenSp
open Go.Proofs.Ytaenincbmlcjiaa.LayAw (awake_calls)
open Go.Proofs.Ytaenincbmlcjiaa.Law06B (lift)

set_option maxRecDepth 100000 in
set_option maxHeartbeats 1600000 in
theorem refused (A B : Option Addr) (c d : Nat) (vs : List Int) (l : List Sp) (z : Int) (w : World) (hr : RdI .i64 w A vs) (hl : RdSp w B l) (hm : vs.length ≤ 200) (hm2 : l.length ≤ 200) (hc : vs.length ≤ c) (hok : right vs.length l = false) :
    Calls Try.prog 7 #[.slice A vs.length c, .slice B l.length d, .int .i64 z] w fun e w' => e = .returned (.bool true) ∧ Below w.heap.size w w' := by
  have HE := Lib.hid (expand_calls A B c d vs l z w hr hl (by omega) (by omega) hc)
  have HR1 := Lib.hid (fun W (h : Below w.heap.size w W) => lift h h.size (right_calls B d l vs.length W (hl.below h) (by omega)))
  have HR2 := Lib.hid (fun W (h : Below w.heap.size w W) => lift h h.size (lawright_calls B d l vs.length W (hl.below h) (by omega)))
  rw [hok] at HR1 HR2
  have HAW := Lib.hid (fun W (h : Below w.heap.size w W) => lift h h.size (awake_calls W))
  have HOK := Lib.hid hok
  have d1 : decide ((vs.length : Int) > 200) = false := by simp; omega
  have d1' : decide (200 < (vs.length : Int)) = false := by simp; omega
  have d1n : decide (200 < vs.length) = false := by simp; omega
  have d2 : decide ((l.length : Int) > 200) = false := by simp; omega
  have d2' : decide (200 < (l.length : Int)) = false := by simp; omega
  have d2n : decide (200 < l.length) = false := by simp; omega
  clear hr hl hok
  go_enter Try.func7, Try.ntmps7
  go_wp2_with (fail)
  refine HE.out.mono ?_
  rintro e w1 ⟨hb1, ⟨-, rfl⟩ | ⟨h0, -⟩⟩
  · have HB1 := Lib.hid hb1
    clear hb1 HE
    go_wp2_with (first
      | (go_at_call 29; refine (HR1.out _ HB1.out).mono ?_; rintro e w2 ⟨rfl, hb2⟩; have HB2 := Lib.hid hb2; clear hb2)
      | (go_at_call 30; first
          | (refine (HR2.out _ HB2.out).mono ?_; rintro e w3 ⟨rfl, hb3⟩; have HB3 := Lib.hid hb3; clear hb3 HB2)
          | (refine (HR2.out _ HB3.out).mono ?_; rintro e w4 ⟨rfl, hb4⟩; have HB4 := Lib.hid hb4; clear hb4 HB3))
      | (go_at_call 27; refine (HAW.out _ HB4.out).mono ?_; rintro e w5 ⟨rfl, hb5⟩))
    go_ret
    exact ⟨rfl, hb5⟩
  · rw [HOK.out] at h0; cases h0

set_option maxRecDepth 100000 in
set_option maxHeartbeats 3200000 in
theorem done (A B : Option Addr) (c d : Nat) (vs : List Int) (l : List Sp) (z : Int) (w : World) (hr : RdI .i64 w A vs) (hl : RdSp w B l) (hm : vs.length ≤ 200) (hm2 : l.length ≤ 200) (hc : vs.length ≤ c) (hok : right vs.length l = true) :
    Calls Try.prog 7 #[.slice A vs.length c, .slice B l.length d, .int .i64 z] w fun e w' => e = .returned (.bool true) ∧ Below w.heap.size w w' := by
  have HE := Lib.hid (expand_calls A B c d vs l z w hr hl (by omega) (by omega) hc)
  have HR1 := Lib.hid (fun W (h : Below w.heap.size w W) => right_calls B d l vs.length W (hl.below h) (by omega))
  have HR2 := Lib.hid (fun W (h : Below w.heap.size w W) => lawright_calls B d l vs.length W (hl.below h) (by omega))
  rw [hok] at HR1 HR2
  have HAW := Lib.hid (fun W (h : Below w.heap.size w W) => lift h h.size (awake_calls W))
  have HOK := Lib.hid hok
  have HR := Lib.hid hr
  have HL := Lib.hid hl
  have d1 : decide ((vs.length : Int) > 200) = false := by simp; omega
  have d1' : decide (200 < (vs.length : Int)) = false := by simp; omega
  have d1n : decide (200 < vs.length) = false := by simp; omega
  have d2 : decide ((l.length : Int) > 200) = false := by simp; omega
  have d2' : decide (200 < (l.length : Int)) = false := by simp; omega
  have d2n : decide (200 < l.length) = false := by simp; omega
  have HLN := Lib.hid (expand_len vs z l rfl hok)
  have HCT := Lib.hid (right_cnt hok)
  have HX := Lib.hid (rightI_all _ _ _ _ hok)
  clear hr hl hok
  go_enter Try.func7, Try.ntmps7
  go_wp2_with (fail)
  refine HE.out.mono ?_
  rintro e w1 ⟨hb1, ⟨h0, -⟩ | ⟨-, v1, rfl, ho1⟩⟩
  · rw [HOK.out] at h0; cases h0
  obtain ⟨X, hX⟩ : ∃ X, X = expand vs l z := ⟨_, rfl⟩
  rw [← hX] at ho1 HLN
  obtain ⟨A1, c1, rfl, -, hr1⟩ := ho1.reads
  have T1 : Hid (Th w w1 w1 w1) := Lib.hid ⟨hb1, Below.refl _ _, Below.refl _ _⟩
  have HE1 := Lib.hid hr1
  have HXX := Lib.hid hX
  have hxl : X.length ≤ 10000 := by
    have h1 := HLN.out
    have h2 := HCT.out
    omega
  clear hb1 ho1 hr1 HE hX
  go_wp2_with (first
      | (go_at_call 29; refine (HR1.out _ T1.out.x).mono ?_; rintro e w2 ⟨rfl, hb2⟩; have T2 := Lib.hid (T1.out.next hb2); clear hb2)
      | (go_at_call 30; first
          | (refine (HR2.out _ T2.out.x).mono ?_; rintro e w3 ⟨rfl, hb3⟩; have T3 := Lib.hid (T2.out.next hb3); clear hb3 T2)
          | (refine (HR2.out _ T3.out.x).mono ?_; rintro e w4 ⟨rfl, hb4⟩; have T4 := Lib.hid (T3.out.next hb4); clear hb4 T3)))
  clear HR1 HR2 T1
  have HE4 := Lib.hid (HE1.out.below T4.out.y)
  clear HE1
  have HZ4 := Lib.hid T4.out.x.size
  go_loopw [9, 10, 11] (fun u n i wr => ∃ (k q : Nat) (out : List Int), q ≤ vs.length + 1 ∧ k ≤ l.length ∧ i = .int .i64 q ∧ n = .int .i64 k ∧ Hid (Wt vs l z k q out) ∧ OwI 2 .i64 wr w4.heap.size u out ∧ Th w w4 w4 wr) (fun _ _ i _ => vs.length + 1 - (intOf i).toNat)
  case atStart => exact ⟨0, 0, [], by omega, by omega, rfl, rfl, Lib.hid (Wt.zero HOK.out), OwI.nil _ _ _ _, ⟨T4.out.x, Below.refl _ _, Below.refl _ _⟩⟩
  case round =>
    obtain ⟨k, q, out, hq, hk, rfl, rfl, hwt, ho, ht⟩ := hrel
    have T := Lib.hid ht
    have HO := Lib.hid ho
    clear ho ht
    by_cases hlt : q ≤ vs.length
    · have e9 : decide ((q : Int) ≤ (vs.length : Int)) = true := by simp; omega
      have e9n : decide (q ≤ vs.length) = true := by simp; omega
      by_cases hit : ∃ h : k < l.length, l[k].1 = (q : Int)
      · obtain ⟨hkl, he⟩ := hit
        obtain ⟨ad, hA, b0, b1⟩ := (HL.out.below T.out.x).at_ k hkl
        subst hA
        rw [he] at b0
        have hb := HX.out l[k] (List.getElem_mem hkl)
        have HW1 := Lib.hid (hwt.out.hit HOK.out hkl he)
        have HLM := Lib.hid (HW1.out.len HOK.out)
        obtain ⟨N, hN⟩ := Int.eq_ofNat_of_zero_le (show 0 ≤ l[k].2 by omega)
        have hN2 : N ≤ 4096 := by omega
        rw [hN] at b1 HW1 HLM
        rw [Int.toNat_natCast] at HW1 HLM
        have c0 : (0 : Int) ≤ (k : Int) := by omega
        have c1 : (k : Int) < (l.length : Int) := by omega
        have e0 : decide ((k : Int) < (l.length : Int)) = true := by simp; omega
        have e0n : decide (k < l.length) = true := by simp; omega
        have hol : out.length ≤ 10000 := by have := hwt.out.len HOK.out; omega
        have HOL := Lib.hid hol
        clear he hb hN hwt hol
        go_wp2
        obtain ⟨TT, hTT⟩ : ∃ TT, TT = T := ⟨_, rfl⟩
        clear hTT
        go_loopw [9, 76] (fun u j wq => ∃ (m : Nat), m ≤ N ∧ j = .int .i64 m ∧ OwI 2 .i64 wq w4.heap.size u (out ++ List.replicate m z) ∧ Th w w4 w4 wq) (fun _ j _ => N - (intOf j).toNat)
        case atStart => exact ⟨0, by omega, rfl, by simpa using HO.out, T.out⟩
        case round =>
          clear HO T TT
          obtain ⟨m, hm9, rfl, ho, ht⟩ := hrel
          have T := Lib.hid ht
          have HO := Lib.hid ho
          clear ho ht
          by_cases hmN : m < N
          · have hsz := T.out.y.size
            have HRP : Hid (out ++ List.replicate m z ++ [z] = out ++ List.replicate (m + 1) z) := Lib.hid (by rw [List.append_assoc, ← List.replicate_succ'])
            go_wp2_with (at_builtin; refine append_one (w0 := w4) w4.heap.size rfl (.tmp 78) (.tmp 80) 47 2 .i64 8 rfl Try.underlying47 info64 (by decide) _ (out ++ List.replicate m z) _ rfl rfl HO.out T.out.y hsz (by have := HOL.out; rw [List.length_append, List.length_replicate]; omega) ?_; intro v7 w7 ho7 hb7 hg7 _; have HO7 := Lib.hid ho7; have T7 : Hid (Th w w4 w4 w7) := Lib.hid ⟨T.out.x.grown hg7 T.out.x.size (fun g hg => Nat.le_trans HZ4.out (HO.out.base_ g hg)), hb7, hb7⟩; clear ho7 hb7 hg7)
            go_roundw
            case rel => exact ⟨m + 1, by omega, by go_num, by rw [← HRP.out]; exact HO7.out, T7.out⟩
            case measure => simp [intOf]; omega
          · obtain rfl : m = N := by omega
            have HWM := HW1
            clear HW1
            by_cases hq2 : q < vs.length
            · obtain ⟨av, hAv, cv⟩ := (HR.out.below T.out.x).at_ q hq2
              subst hAv
              have HN := Lib.hid (HWM.out.put hq2)
              have HLN2 := Lib.hid (HWM.out.len HOK.out)
              obtain ⟨y, hy⟩ : ∃ y, y = vs[q] := ⟨_, rfl⟩
              rw [← hy] at cv HN
              have e1 : decide ((q : Int) < (vs.length : Int)) = true := by simp; omega
              have e1n : decide (q < vs.length) = true := by simp; omega
              have hsz := T.out.y.size
              clear hy HWM
              go_wp2_with (at_builtin; refine append_one (w0 := w4) w4.heap.size rfl (.tmp 89) (.tmp 94) 47 2 .i64 8 rfl Try.underlying47 info64 (by decide) _ ((out ++ List.replicate m z)) _ rfl rfl HO.out T.out.y hsz (by have := HLN2.out; omega) ?_; intro v7 w7 ho7 hb7 hg7 _; have HO7 := Lib.hid ho7; have T7 : Hid (Th w w4 w4 w7) := Lib.hid ⟨T.out.x.grown hg7 T.out.x.size (fun g hg => Nat.le_trans HZ4.out (HO.out.base_ g hg)), hb7, hb7⟩; clear ho7 hb7 hg7)
              go_roundw
              case rel => exact ⟨k + 1, q + 1, (out ++ List.replicate m z) ++ [y], by omega, by omega, by go_num, (by first | rfl | go_num), HN, HO7.out, T7.out⟩
              case measure => simp [intOf]; omega
            · obtain rfl : q = vs.length := by omega
              have HN := Lib.hid (HWM.out.last)
              clear HWM
              go_wp2
              go_roundw
              case rel => exact ⟨k + 1, vs.length + 1, (out ++ List.replicate m z), by omega, by omega, by go_num, (by first | rfl | go_num), HN, HO.out, T.out⟩
              case measure => simp [intOf]
      · have HWM := Lib.hid (hwt.out.miss HOK.out fun h e => hit ⟨h, e⟩)
        have hno : l.length ≤ k ∨ ∃ h : k < l.length, l[k].1 ≠ (q : Int) := by
          rcases Nat.lt_or_ge k l.length with h | h
          · exact .inr ⟨h, fun e => hit ⟨h, e⟩⟩
          · exact .inl h
        clear hit hwt
        rcases hno with hge | ⟨hkl, hne⟩
        · have e0 : decide ((k : Int) < (l.length : Int)) = false := by simp; omega
          have e0n : decide (k < l.length) = false := by simp; omega
          by_cases hq2 : q < vs.length
          · obtain ⟨av, hAv, cv⟩ := (HR.out.below T.out.x).at_ q hq2
            subst hAv
            have HN := Lib.hid (HWM.out.put hq2)
            have HLN2 := Lib.hid (HWM.out.len HOK.out)
            obtain ⟨y, hy⟩ : ∃ y, y = vs[q] := ⟨_, rfl⟩
            rw [← hy] at cv HN
            have e1 : decide ((q : Int) < (vs.length : Int)) = true := by simp; omega
            have e1n : decide (q < vs.length) = true := by simp; omega
            have hsz := T.out.y.size
            clear hy HWM
            go_wp2_with (at_builtin; refine append_one (w0 := w4) w4.heap.size rfl (.tmp 89) (.tmp 94) 47 2 .i64 8 rfl Try.underlying47 info64 (by decide) _ (out) _ rfl rfl HO.out T.out.y hsz (by have := HLN2.out; omega) ?_; intro v7 w7 ho7 hb7 hg7 _; have HO7 := Lib.hid ho7; have T7 : Hid (Th w w4 w4 w7) := Lib.hid ⟨T.out.x.grown hg7 T.out.x.size (fun g hg => Nat.le_trans HZ4.out (HO.out.base_ g hg)), hb7, hb7⟩; clear ho7 hb7 hg7)
            go_roundw
            case rel => exact ⟨k, q + 1, out ++ [y], by omega, by omega, by go_num, (by first | rfl | go_num), HN, HO7.out, T7.out⟩
            case measure => simp [intOf]; omega
          · obtain rfl : q = vs.length := by omega
            have HN := Lib.hid (HWM.out.last)
            clear HWM
            go_wp2
            go_roundw
            case rel => exact ⟨k, vs.length + 1, out, by omega, by omega, by go_num, (by first | rfl | go_num), HN, HO.out, T.out⟩
            case measure => simp [intOf]
        · obtain ⟨ad, hA, b0, -⟩ := (HL.out.below T.out.x).at_ k hkl
          subst hA
          have c0 : (0 : Int) ≤ (k : Int) := by omega
          have c1 : (k : Int) < (l.length : Int) := by omega
          have e0 : decide ((k : Int) < (l.length : Int)) = true := by simp; omega
          have e0n : decide (k < l.length) = true := by simp; omega
          have ne : (l[k].1 == (q : Int)) = false := by simpa using hne
          obtain ⟨s, hs⟩ : ∃ s, s = l[k].1 := ⟨_, rfl⟩
          rw [← hs] at b0 ne
          clear hs hne
          by_cases hq2 : q < vs.length
          · obtain ⟨av, hAv, cv⟩ := (HR.out.below T.out.x).at_ q hq2
            subst hAv
            have HN := Lib.hid (HWM.out.put hq2)
            have HLN2 := Lib.hid (HWM.out.len HOK.out)
            obtain ⟨y, hy⟩ : ∃ y, y = vs[q] := ⟨_, rfl⟩
            rw [← hy] at cv HN
            have e1 : decide ((q : Int) < (vs.length : Int)) = true := by simp; omega
            have e1n : decide (q < vs.length) = true := by simp; omega
            have hsz := T.out.y.size
            clear hy HWM
            go_wp2_with (at_builtin; refine append_one (w0 := w4) w4.heap.size rfl (.tmp 89) (.tmp 94) 47 2 .i64 8 rfl Try.underlying47 info64 (by decide) _ (out) _ rfl rfl HO.out T.out.y hsz (by have := HLN2.out; omega) ?_; intro v7 w7 ho7 hb7 hg7 _; have HO7 := Lib.hid ho7; have T7 : Hid (Th w w4 w4 w7) := Lib.hid ⟨T.out.x.grown hg7 T.out.x.size (fun g hg => Nat.le_trans HZ4.out (HO.out.base_ g hg)), hb7, hb7⟩; clear ho7 hb7 hg7)
            go_roundw
            case rel => exact ⟨k, q + 1, out ++ [y], by omega, by omega, by go_num, (by first | rfl | go_num), HN, HO7.out, T7.out⟩
            case measure => simp [intOf]; omega
          · obtain rfl : q = vs.length := by omega
            have HN := Lib.hid (HWM.out.last)
            clear HWM
            go_wp2
            go_roundw
            case rel => exact ⟨k, vs.length + 1, out, by omega, by omega, by go_num, (by first | rfl | go_num), HN, HO.out, T.out⟩
            case measure => simp [intOf]
    · obtain rfl : q = vs.length + 1 := by omega
      have HF := Lib.hid (hwt.out.all HOK.out)
      rw [HF.out, ← HXX.out] at HO
      obtain ⟨A2, c2, rfl, -, hr2⟩ := HO.out.reads
      have HSM := Lib.hid (same_calls A1 A2 c1 c2 X X wr (HE4.out.below T.out.y) hr2 (by omega) (by omega))
      rw [show decide (X = X) = true from by simp] at HSM
      clear hr2 hwt
      go_wp2_with (first
        | (go_at_call 31; refine HSM.out.mono ?_; rintro e w5 ⟨rfl, q5, rfl⟩; have T5 := Lib.hid (T.out.drew q5))
        | (go_at_call 27; refine (HAW.out _ T5.out.x).mono ?_; rintro e w6 ⟨rfl, hb6⟩))
      go_ret
      exact ⟨rfl, hb6⟩

set_option maxRecDepth 100000 in
set_option maxHeartbeats 800000 in
theorem narrow (A B : Option Addr) (c d n m : Nat) (z : Int) (w : World) (h : 200 < n ∨ (n ≤ 200 ∧ 200 < m)) :
    Calls Try.prog 7 #[.slice A n c, .slice B m d, .int .i64 z] w fun e w' => e = .returned (.bool true) ∧ Below w.heap.size w w' := by
  have HAW := Lib.hid (awake_calls w)
  rcases h with h | ⟨h1, h2⟩
  · have d1 : decide ((n : Int) > 200) = true := by simp; omega
    have d1' : decide (200 < (n : Int)) = true := by simp; omega
    have d1n : decide (200 < n) = true := by simp; omega
    go_enter Try.func7, Try.ntmps7
    go_wp2_with (go_at_call 27; refine HAW.out.mono ?_; rintro e w9 ⟨rfl, hb9⟩)
    go_ret
    exact ⟨rfl, hb9⟩
  · have d1 : decide ((n : Int) > 200) = false := by simp; omega
    have d1' : decide (200 < (n : Int)) = false := by simp; omega
    have d1n : decide (200 < n) = false := by simp; omega
    have d2 : decide ((m : Int) > 200) = true := by simp; omega
    have d2' : decide (200 < (m : Int)) = true := by simp; omega
    have d2n : decide (200 < m) = true := by simp; omega
    go_enter Try.func7, Try.ntmps7
    go_wp2_with (go_at_call 27; refine HAW.out.mono ?_; rintro e w9 ⟨rfl, hb9⟩)
    go_ret
    exact ⟨rfl, hb9⟩
theorem walk (a0 : Option Addr) (len0 cap0 : Nat) (z0 : List Int) (a1 : Option Addr) (len1 cap1 : Nat) (z1 : List Sp) (s : Int) (w : World) (h0 : IsRow .i64 w a0 len0 cap0 z0) (h1 : IsSps w a1 len1 cap1 z1) (_ : (Lit.int .i64 s).wf = true) :
    Calls Try.prog 7 #[.slice a0 len0 cap0, .slice a1 len1 cap1, .int .i64 s] w fun e w' => e = .returned (.bool true) ∧ Below w.heap.size w w' := by
  obtain ⟨hr, hl, hc, hA, -⟩ := h0.reads
  obtain ⟨rb, rfl, hcb, hnb, hmb, -⟩ := h1
  by_cases hin : len0 ≤ 200 ∧ z1.length ≤ 200
  · obtain ⟨ps, hps⟩ : ∃ ps, ps = z0.take len0 := ⟨_, rfl⟩
    rw [← hps] at hr hl
    subst hl
    cases hok : right ps.length z1 with
    | false => exact refused a0 a1 cap0 cap1 ps z1 s w hr rb hin.1 hin.2 hc hok
    | true => exact done a0 a1 cap0 cap1 ps z1 s w hr rb hin.1 hin.2 hc hok
  · exact narrow a0 a1 cap0 cap1 len0 z1.length s w (by omega)
end Go.Proofs.Ytaenincbmlcjiaa.LayExp
