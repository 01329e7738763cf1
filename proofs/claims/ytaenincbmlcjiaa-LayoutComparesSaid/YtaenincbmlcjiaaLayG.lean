/- the law of layer 8: its helpers; its reference. -/
import Derived.Test.YtaenincbmlcjiaaLaw06A
import Derived.Test.YtaenincbmlcjiaaLayF
import Derived.Test.YtaenincbmlcjiaaLayD
namespace Go.Proofs.Ytaenincbmlcjiaa.LayG
open Go.RowKit Go.Proofs.YtaenincbmlcjiaaW.PrintWords
open Go.Proofs.Ytaenincbmlcjiaa.Base Go.Proofs.Ytaenincbmlcjiaa.SpanPure Go.Proofs.Ytaenincbmlcjiaa.SpanPure2 Go.Proofs.Ytaenincbmlcjiaa.LayPure Go.Proofs.Ytaenincbmlcjiaa.LayPure2 Go.Proofs.Ytaenincbmlcjiaa.LayPure3 Go.Proofs.Ytaenincbmlcjiaa.SpanBase Go.Proofs.Ytaenincbmlcjiaa.LayA Go.Proofs.Ytaenincbmlcjiaa.LayB Go.Proofs.Ytaenincbmlcjiaa.LayD Go.Proofs.Ytaenincbmlcjiaa.LayF Go.Proofs.Ytaenincbmlcjiaa.Ref06
open Go.Proofs.Ytaenincbmlcjiaa.Law06A (infoRs)

set_option maxRecDepth 100000 in
set_option maxHeartbeats 800000 in
theorem ref_calls (A : Option Addr) (c : Nat) (l : List Sp) (w : World) (hr : RdSp w A l) (hm : l.length ≤ 1000000) :
    Calls Try.prog 37 #[.slice A l.length c] w fun e w' => ∃ v, e = .returned v ∧ OwSp 69 w' w.heap.size v l ∧ Below w.heap.size w w' := by
  have HR := Lib.hid hr
  clear hr
  go_enter Try.func37, Try.ntmps37
  go_wp2
  go_loopw [3, 8] (fun v i wr => ∃ (k : Nat), k ≤ l.length ∧ i = .int .i64 k ∧ OwSp 69 wr w.heap.size v (l.take k) ∧ Below w.heap.size w wr) (fun _ i _ => l.length - (intOf i).toNat)
  case atStart => exact ⟨0, by omega, rfl, OwSp.nil _ _ _, Below.refl _ _⟩
  case round =>
    obtain ⟨k, hk, rfl, ho, hb⟩ := hrel
    have HO := Lib.hid ho
    have HB := Lib.hid hb
    have hsz := hb.size
    by_cases hlt : k < l.length
    · obtain ⟨ad, hA, c0, c1⟩ := (HR.out.below hb).at_ k hlt
      subst hA
      have HT := Lib.hid (show l.take (k + 1) = l.take k ++ [l[k]] from List.take_succ_eq_append_getElem hlt)
      obtain ⟨s, hs⟩ : ∃ s, s = l[k] := ⟨_, rfl⟩
      rw [← hs] at c0 c1 HT
      obtain ⟨o, q⟩ := s
      simp only at c0 c1
      have hlk : (l.take k).length ≤ 1000000 := by rw [List.length_take]; omega
      obtain ⟨L, hL⟩ : ∃ L, L = l.take k := ⟨_, rfl⟩
      rw [← hL] at HO HT hlk
      clear hs ho hb hL
      go_wp2_with (at_builtin; refine append_span_at (w0 := w) w.heap.size rfl (.tmp 12) (.tmp 18) 27 69 16 rfl Try.underlying27 infoRs _ L o q rfl (wr.heap.size + 1) (by simp) rfl (by exact HO.out.below (below_alloc (Below.refl _ _) _)) (by exact below_alloc HB.out _) (by simp; omega) (by omega) (by omega) ?_; intro g cap w1 ho1 hb1 _ _; have HO1 := Lib.hid ho1; have HB1 := Lib.hid hb1; clear ho1 hb1)
      go_roundw
      case rel => exact ⟨k + 1, by omega, by go_num, by rw [HT.out]; exact HO1.out, HB1.out⟩
      case measure => simp [intOf]; omega
    · obtain rfl : k = l.length := by omega
      rw [List.take_length] at HO
      obtain ⟨A1, c1, rfl, -, -, -⟩ := HO.out.reads
      clear ho hb
      go_wp2
      go_ret
      exact ⟨_, rfl, HO.out, HB.out⟩

/-- what small counts. -/
def sizeF : Int → List Sp → Int
  | n, [] => n
  | n, s :: t => sizeF (n + (if 0 < s.2 then 1 + min s.2 5000 / 4 else 0) + 1) t
def smallF : Int → List Sp → Bool
  | _, [] => true
  | n, s :: t => decide (n + (if 0 < s.2 then 1 + min s.2 5000 / 4 else 0) + 1 ≤ 300) && smallF (n + (if 0 < s.2 then 1 + min s.2 5000 / 4 else 0) + 1) t
def small (l : List Sp) : Bool := smallF 0 l
theorem smallF_len (l : List Sp) : ∀ n, smallF n l = true → 0 ≤ n → n ≤ 300 → n + (l.length : Int) ≤ 300 := by
  induction l with
  | nil => intro n _ _ h; simpa using h
  | cons s t ih =>
    intro n h h0 h6
    simp only [smallF, Bool.and_eq_true, decide_eq_true_eq] at h
    have h1 : 0 ≤ (if 0 < s.2 then 1 + min s.2 5000 / 4 else 0) := by split <;> omega
    have := ih _ h.2 (by omega) h.1
    simp only [List.length_cons]
    omega
theorem small_len {l : List Sp} (h : small l = true) : l.length ≤ 300 := by
  have := smallF_len l 0 h (by decide) (by decide)
  omega
set_option maxHeartbeats 1300000 in
theorem small_calls (A : Option Addr) (c : Nat) (l : List Sp) (w : World) (hr : RdSp w A l) (hm : l.length ≤ 9223372036854775807) :
    Calls Try.prog 34 #[.slice A l.length c] w fun e w' => e = .returned (.bool (small l)) ∧ Below w.heap.size w w' := by
  have HR := Lib.hid hr
  clear hr
  go_enter Try.func34, Try.ntmps34
  go_wp2
  go_loopw [3, 8] (fun n i wr => ∃ (k : Nat) (m : Int), k ≤ l.length ∧ i = .int .i64 k ∧ n = .int .i64 m ∧ 0 ≤ m ∧ m ≤ 300 ∧ Hid (small l = smallF m (l.drop k)) ∧ Below w.heap.size w wr) (fun _ i _ => l.length - (intOf i).toNat)
  case atStart => exact ⟨0, 0, by omega, rfl, rfl, by omega, by omega, Lib.hid rfl, Below.refl _ _⟩
  case round =>
    obtain ⟨k, m, hk, rfl, rfl, hm0, hm6, ht, hb⟩ := hrel
    have HB := Lib.hid hb
    have hsz := hb.size
    by_cases hlt : k < l.length
    · obtain ⟨ad, hA, c0, c1⟩ := (HR.out.below hb).at_ k hlt
      subst hA
      have HD := Lib.hid (show l.drop k = l[k] :: l.drop (k + 1) from List.drop_eq_getElem_cons hlt)
      obtain ⟨s, hs⟩ : ∃ s, s = l[k] := ⟨_, rfl⟩
      rw [← hs] at c0 c1 HD
      obtain ⟨o, q⟩ := s
      simp only at c0 c1
      clear hs hb
      by_cases hq : 0 < q
      · have d1 : decide (q > 0) = true := by simpa using hq
        have d1' : decide (0 < q) = true := by simpa using hq
        by_cases hq5 : q ≤ 5000
        · have e5 : min q 5000 = q := by omega
          have HS : Hid (small l = (decide (m + (1 + q / 4) + 1 ≤ 300) && smallF (m + (1 + q / 4) + 1) (l.drop (k + 1)))) := Lib.hid (by rw [ht.out, HD.out, smallF, if_pos hq, e5])
          go_wp2
          all_goals first
            | (have HF : small l = false := by rw [HS.out, decide_eq_false (by omega)]; rfl
               go_ret
               exact ⟨by rw [HF]; rfl, HB.out.alloc hsz _⟩)
            | (have HF : small l = smallF (m + (1 + q / 4) + 1) (l.drop (k + 1)) := by rw [HS.out, decide_eq_true (by omega)]; rfl
               go_roundw
               case rel => exact ⟨k + 1, _, by omega, by go_num, rfl, by omega, by omega, Lib.hid HF, HB.out.alloc hsz _⟩
               case measure => simp [intOf]; omega)
        · have hq6 : 5000 < q := by omega
          have e5 : min q 5000 = 5000 := by omega
          have HS : Hid (small l = (decide (m + 1251 + 1 ≤ 300) && smallF (m + 1251 + 1) (l.drop (k + 1)))) := Lib.hid (by rw [ht.out, HD.out, smallF, if_pos hq, e5]; rfl)
          clear hq5
          go_wp2
          all_goals first
            | (have HF : small l = false := by rw [HS.out, decide_eq_false (by omega)]; rfl
               go_ret
               exact ⟨by rw [HF]; rfl, HB.out.alloc hsz _⟩)
            | (have HF : small l = smallF (m + 1251 + 1) (l.drop (k + 1)) := by rw [HS.out, decide_eq_true (by omega)]; rfl
               go_roundw
               case rel => exact ⟨k + 1, _, by omega, by go_num, rfl, by omega, by omega, Lib.hid HF, HB.out.alloc hsz _⟩
               case measure => simp [intOf]; omega)
      · have d1 : decide (q > 0) = false := by simpa using hq
        have d1' : decide (0 < q) = false := by simpa using hq
        have HS : Hid (small l = (decide (m + 1 ≤ 300) && smallF (m + 1) (l.drop (k + 1)))) := Lib.hid (by rw [ht.out, HD.out, smallF, if_neg hq, Int.add_zero])
        clear hq
        go_wp2
        all_goals first
          | (have HF : small l = false := by rw [HS.out, decide_eq_false (by omega)]; rfl
             go_ret
             exact ⟨by rw [HF]; rfl, HB.out.alloc hsz _⟩)
          | (have HF : small l = smallF (m + 1) (l.drop (k + 1)) := by rw [HS.out, decide_eq_true (by omega)]; rfl
             go_roundw
             case rel => exact ⟨k + 1, _, by omega, by go_num, rfl, by omega, by omega, Lib.hid HF, HB.out.alloc hsz _⟩
             case measure => simp [intOf]; omega)
    · obtain rfl : k = l.length := by omega
      have HF : Hid (small l = true) := Lib.hid (by rw [ht.out, List.drop_length]; rfl)
      clear ht hb
      go_wp2
      go_ret
      exact ⟨by rw [HF.out]; rfl, HB.out⟩
set_option maxHeartbeats 800000 in
theorem has_calls (A : Option Addr) (c : Nat) (x : List Int) (p : Int) (w : World) (hr : RdI .i64 w A x) (hm : x.length ≤ 1000000) :
    Calls Try.prog 39 #[.slice A x.length c, .int .i64 p] w fun e w' => e = .returned (.bool (decide (p ∈ x))) ∧ w = w' := by
  have HR := Lib.hid hr
  clear hr
  go_enter Try.func39, Try.ntmps39
  go_wp2
  go_loop [5] (fun i => ∃ k : Nat, k ≤ x.length ∧ i = .int .i64 k ∧ Hid (p ∉ x.take k)) (fun i => x.length - (intOf i).toNat)
  case atStart => exact ⟨0, by omega, rfl, Lib.hid (by simp)⟩
  case round =>
    obtain ⟨k, hk, rfl, hn⟩ := hrel
    by_cases hlt : k < x.length
    · obtain ⟨ad, hA, c0⟩ := HR.out.at_ k hlt
      subst hA
      by_cases he : x[k] = p
      · have HF : Hid (decide (p ∈ x) = true) := Lib.hid (decide_eq_true (he ▸ List.getElem_mem hlt))
        rw [he] at c0
        clear he hn
        go_wp2
        go_ret
        exact ⟨by rw [HF.out]; rfl, rfl⟩
      · have HN : Hid (p ∉ x.take (k + 1)) := Lib.hid (by
          rw [List.take_succ_eq_append_getElem hlt, List.mem_append, List.mem_singleton]
          rintro (h | h)
          · exact hn.out h
          · exact he h.symm)
        have ne : (x[k] == p) = false := by simpa using he
        obtain ⟨y, hy⟩ : ∃ y, y = x[k] := ⟨_, rfl⟩
        rw [← hy] at c0 ne
        clear he hn hy
        go_wp2
        go_round
        case rel => exact ⟨k + 1, by omega, by go_num, HN⟩
        case measure => simp [intOf]; omega
    · obtain rfl : k = x.length := by omega
      have HF : Hid (decide (p ∈ x) = false) := Lib.hid (by
        rw [decide_eq_false]
        have := hn.out
        rwa [List.take_length] at this)
      clear hn
      go_wp2
      go_ret
      exact ⟨by rw [HF.out]; rfl, rfl⟩
end Go.Proofs.Ytaenincbmlcjiaa.LayG
