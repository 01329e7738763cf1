/- layout's walks: which inserts may be; how many values they are. -/
import Derived.Test.YtaenincbmlcjiaaSpanA
import Derived.Test.YtaenincbmlcjiaaLayPure
namespace Go.Proofs.Ytaenincbmlcjiaa.LayA
open Go.RowKit Go.Proofs.YtaenincbmlcjiaaW.PrintWords
open Go.Proofs.Ytaenincbmlcjiaa.Base Go.Proofs.Ytaenincbmlcjiaa.SpanPure Go.Proofs.Ytaenincbmlcjiaa.LayPure Go.Proofs.Ytaenincbmlcjiaa.SpanBase

set_option maxHeartbeats 3200000 in
theorem right_calls (A : Option Addr) (c : Nat) (l : List Sp) (n : Int) (w : World) (hr : RdSp w A l) (hm : l.length ≤ 1000000000) :
    Calls Try.prog 29 #[.slice A l.length c, .int .i64 n] w fun e w' => e = .returned (.bool (right n l)) ∧ Below w.heap.size w w' := by
  have HR := Lib.hid hr
  clear hr
  go_enter Try.func29, Try.ntmps29
  go_wp2
  go_loopw [5, 6, 11] (fun t m i wr => ∃ (k : Nat) (a q : Int), k ≤ l.length ∧ i = .int .i64 k ∧ t = .int .i64 a ∧ m = .int .i64 q ∧ 0 ≤ q ∧ q ≤ 4096 ∧ Hid (right n l = rightI n a q (l.drop k)) ∧ Below w.heap.size w wr) (fun _ _ i _ => l.length - (intOf i).toNat)
  case atStart => exact ⟨0, -1, 0, by omega, rfl, rfl, rfl, by omega, by omega, Lib.hid rfl, Below.refl _ _⟩
  case round =>
    obtain ⟨k, a, m, hk, rfl, rfl, rfl, hm1, hm2, hd, hb⟩ := hrel
    have HB := Lib.hid hb
    have hsz := hb.size
    by_cases hlt : k < l.length
    · obtain ⟨ad, hA, c0, c1⟩ := (HR.out.below hb).at_ k hlt
      subst hA
      have HD := Lib.hid (show l.drop k = l[k] :: l.drop (k + 1) from List.drop_eq_getElem_cons hlt)
      obtain ⟨s, hs⟩ : ∃ s, s = l[k] := ⟨_, rfl⟩
      rw [← hs] at c0 c1 HD
      obtain ⟨o, q⟩ := s
      simp only at c0 c1
      have HX : Hid (rightI n a m ((o, q) :: l.drop (k + 1)) = (decide (a < o ∧ o ≤ n ∧ 1 ≤ q ∧ q ≤ 4096 ∧ m + q ≤ 4096) && rightI n o (m + q) (l.drop (k + 1)))) := Lib.hid rfl
      clear hs hb
      go_wp2
      all_goals
        first
        | (have HF : right n l = false := by
             rw [hd.out, HD.out, HX.out, decide_eq_false (by omega)]; rfl
           go_ret
           exact ⟨by rw [HF]; rfl, HB.out.alloc hsz _⟩)
        | (have HF : right n l = rightI n o (m + q) (l.drop (k + 1)) := by
             rw [hd.out, HD.out, HX.out, decide_eq_true (by omega)]; rfl
           go_roundw
           case rel => exact ⟨k + 1, o, m + q, by omega, by go_num, rfl, rfl, by omega, by omega, Lib.hid HF, HB.out.alloc hsz _⟩
           case measure => simp [intOf]; omega)
    · obtain rfl : k = l.length := by omega
      have HF : Hid (right n l = true) := Lib.hid (by rw [hd.out, List.drop_length]; rfl)
      go_wp2
      go_ret
      exact ⟨by rw [HF.out]; rfl, HB.out⟩

set_option maxHeartbeats 3200000 in
theorem lawright_calls (A : Option Addr) (c : Nat) (l : List Sp) (n : Int) (w : World) (hr : RdSp w A l) (hm : l.length ≤ 1000000000) :
    Calls Try.prog 30 #[.slice A l.length c, .int .i64 n] w fun e w' => e = .returned (.bool (right n l)) ∧ Below w.heap.size w w' := by
  have HR := Lib.hid hr
  clear hr
  go_enter Try.func30, Try.ntmps30
  go_wp2
  go_loopw [5, 6, 11] (fun t m i wr => ∃ (k : Nat) (a q : Int), k ≤ l.length ∧ i = .int .i64 k ∧ t = .int .i64 a ∧ m = .int .i64 q ∧ 0 ≤ q ∧ q ≤ 4096 ∧ Hid (right n l = rightI n a q (l.drop k)) ∧ Below w.heap.size w wr) (fun _ _ i _ => l.length - (intOf i).toNat)
  case atStart => exact ⟨0, -1, 0, by omega, rfl, rfl, rfl, by omega, by omega, Lib.hid rfl, Below.refl _ _⟩
  case round =>
    obtain ⟨k, a, m, hk, rfl, rfl, rfl, hm1, hm2, hd, hb⟩ := hrel
    have HB := Lib.hid hb
    have hsz := hb.size
    by_cases hlt : k < l.length
    · obtain ⟨ad, hA, c0, c1⟩ := (HR.out.below hb).at_ k hlt
      subst hA
      have HD := Lib.hid (show l.drop k = l[k] :: l.drop (k + 1) from List.drop_eq_getElem_cons hlt)
      obtain ⟨s, hs⟩ : ∃ s, s = l[k] := ⟨_, rfl⟩
      rw [← hs] at c0 c1 HD
      obtain ⟨o, q⟩ := s
      simp only at c0 c1
      have HX : Hid (rightI n a m ((o, q) :: l.drop (k + 1)) = (decide (a < o ∧ o ≤ n ∧ 1 ≤ q ∧ q ≤ 4096 ∧ m + q ≤ 4096) && rightI n o (m + q) (l.drop (k + 1)))) := Lib.hid rfl
      clear hs hb
      go_wp2
      all_goals
        first
        | (have HF : right n l = false := by
             rw [hd.out, HD.out, HX.out, decide_eq_false (by omega)]; rfl
           go_ret
           exact ⟨by rw [HF]; rfl, HB.out.alloc hsz _⟩)
        | (have HF : right n l = rightI n o (m + q) (l.drop (k + 1)) := by
             rw [hd.out, HD.out, HX.out, decide_eq_true (by omega)]; rfl
           go_roundw
           case rel => exact ⟨k + 1, o, m + q, by omega, by go_num, rfl, rfl, by omega, by omega, Lib.hid HF, HB.out.alloc hsz _⟩
           case measure => simp [intOf]; omega)
    · obtain rfl : k = l.length := by omega
      have HF : Hid (right n l = true) := Lib.hid (by rw [hd.out, List.drop_length]; rfl)
      go_wp2
      go_ret
      exact ⟨by rw [HF.out]; rfl, HB.out⟩

theorem cntF_take (l : List Sp) (k : Nat) (h : k < l.length) : cntF 0 (l.take (k + 1)) = cntF 0 (l.take k) + l[k].2 := by
  rw [List.take_succ_eq_append_getElem h, cntF_append]; rfl
theorem cntF_mono (l : List Sp) : ∀ (c : Int), (∀ s ∈ l, 0 ≤ s.2) → c ≤ cntF c l := by
  induction l with
  | nil => intro c _; exact Int.le_refl _
  | cons s t ih =>
    intro c h
    have := ih (c + s.2) fun u hu => h u (List.mem_cons_of_mem _ hu)
    have := h s (List.mem_cons_self)
    rw [cntF]; omega
theorem cntF_le (l : List Sp) (k : Nat) (h : ∀ s ∈ l, 0 ≤ s.2) : 0 ≤ cntF 0 (l.take k) ∧ cntF 0 (l.take k) ≤ cntF 0 l := by
  refine ⟨cntF_mono _ 0 fun s hs => h s (List.mem_of_mem_take hs), ?_⟩
  have h2 := cntF_append (l.take k) (l.drop k) 0
  rw [List.take_append_drop] at h2
  rw [h2]
  exact cntF_mono _ _ fun s hs => h s (List.mem_of_mem_drop hs)
set_option maxHeartbeats 1600000 in
theorem many_calls (A : Option Addr) (c : Nat) (l : List Sp) (w : World) (hr : RdSp w A l) (hm : l.length ≤ 1000000000) (h0 : ∀ s ∈ l, 0 ≤ s.2) (hc : cntF 0 l ≤ 1000000000) :
    Calls Try.prog 41 #[.slice A l.length c] w fun e w' => e = .returned (.int .i64 (cntF 0 l)) ∧ Below w.heap.size w w' := by
  have HR := Lib.hid hr
  have HC := Lib.hid (fun k => cntF_le l k h0)
  have HT := Lib.hid (fun k h => cntF_take l k h)
  clear hr h0
  go_enter Try.func41, Try.ntmps41
  go_wp2
  go_loopw [3, 8] (fun m i wr => ∃ (k : Nat) (q : Int), k ≤ l.length ∧ i = .int .i64 k ∧ m = .int .i64 q ∧ Hid (q = cntF 0 (l.take k)) ∧ Below w.heap.size w wr) (fun _ i _ => l.length - (intOf i).toNat)
  case atStart => exact ⟨0, 0, by omega, rfl, rfl, Lib.hid rfl, Below.refl _ _⟩
  case round =>
    obtain ⟨k, m, hk, rfl, rfl, hq, hb⟩ := hrel
    have HB := Lib.hid hb
    have hsz := hb.size
    have h1 := HC.out k
    rw [← hq.out] at h1
    obtain ⟨h1, h2⟩ := h1
    by_cases hlt : k < l.length
    · obtain ⟨ad, hA, c0, c1⟩ := (HR.out.below hb).at_ k hlt
      subst hA
      have h3 := HT.out k hlt
      have h4 := HC.out (k + 1)
      rw [h3, ← hq.out] at h4
      obtain ⟨h4, h5⟩ := h4
      rw [← hq.out] at h3
      obtain ⟨s, hs⟩ : ∃ s, s = l[k] := ⟨_, rfl⟩
      rw [← hs] at c0 c1 h3 h4 h5
      obtain ⟨o, q⟩ := s
      simp only at c0 c1 h3 h4 h5
      have H3 := Lib.hid h3.symm
      clear hs hb h3
      go_wp2
      go_roundw
      case rel => exact ⟨k + 1, m + q, by omega, by go_num, rfl, H3, HB.out.alloc hsz _⟩
      case measure => simp [intOf]; omega
    · obtain rfl : k = l.length := by omega
      have HF : Hid (m = cntF 0 l) := Lib.hid (by rw [hq.out, List.take_length])
      go_wp2
      go_ret
      exact ⟨by rw [HF.out]; rfl, HB.out⟩
end Go.Proofs.Ytaenincbmlcjiaa.LayA
