/- span's walks: what is canonical, the canonical list of places. -/
import Derived.Test.YtjfekjbmgckkcaaDoorSpanA
namespace Go.Proofs.YtjfekjbmgckkcaaDoor.SpanB
open Go.RowKit Go.Proofs.YtjfekjbmgckkcaaDoorW.PrintWords
open Go.Proofs.YtjfekjbmgckkcaaDoor.Base Go.Proofs.YtjfekjbmgckkcaaDoor.SpanPure Go.Proofs.YtjfekjbmgckkcaaDoor.SpanBase Go.Proofs.YtjfekjbmgckkcaaDoor.SpanA

theorem infoSp : (Tryd.prog.info? 57).map (fun i => (i.zero, i.size, i.bytes)) = some (some (.agg #[.int .i64 0, .int .i64 0]), 2, 16) := by kernel_rfl

set_option maxHeartbeats 1600000 in
theorem canonical_calls (A : Option Addr) (c : Nat) (l : List Sp) (w : World) (hr : RdSp w A l) (hm : l.length ≤ 1000000000) :
    Calls Tryd.prog 57 #[.slice A l.length c] w fun e w' => e = .returned (.bool (canonical l)) ∧ Below w.heap.size w w' := by
  have HR := Lib.hid hr
  have HC := Lib.hid (fun W (h : Below w.heap.size w W) => check_calls A c l W (hr.below h) hm)
  clear hr
  go_enter Tryd.func57, Tryd.ntmps57
  go_wp2
  go_loopw [7] (fun i wr => ∃ (k : Nat), k ≤ l.length ∧ i = .int .i64 k ∧ Hid (canonF true l = canonF (decide (k = 0)) (l.drop k)) ∧ Below w.heap.size w wr) (fun i _ => l.length - (intOf i).toNat)
  case atStart => exact ⟨0, by omega, rfl, Lib.hid rfl, Below.refl _ _⟩
  case round =>
    obtain ⟨k, hk, rfl, hd, hb⟩ := hrel
    have HB := Lib.hid hb
    have hsz := hb.size
    by_cases hlt : k < l.length
    · obtain ⟨ad, hA, c0, c1⟩ := (HR.out.below hb).at_ k hlt
      subst hA
      have HD := Lib.hid (show l.drop k = l[k] :: l.drop (k + 1) from List.drop_eq_getElem_cons hlt)
      obtain ⟨s, hs⟩ : ∃ s, s = l[k] := ⟨_, rfl⟩
      rw [← hs] at c0 c1 HD
      obtain ⟨o, q⟩ := s
      simp only at c0 c1
      have HX : Hid (canonF (decide (k = 0)) ((o, q) :: l.drop (k + 1)) = (decide (q ≠ 0 ∧ (0 < k → o ≠ 0)) && canonF (decide (k + 1 = 0)) (l.drop (k + 1)))) := Lib.hid (by
        rw [canonF, decide_eq_false (Nat.succ_ne_zero k)]
        congr 1
        rw [Bool.eq_iff_iff, Bool.and_eq_true, Bool.or_eq_true, decide_eq_true_iff, decide_eq_true_iff, decide_eq_true_iff, decide_eq_true_iff]
        simp only
        omega)
      clear hs hb
      by_cases h1 : q = 0
      · have e1 : (q == 0) = true := by simpa using h1
        have HF : Hid (canonical l = false) := Lib.hid (by rw [canonical, hd.out, HD.out, HX.out, decide_eq_false (by omega)]; rfl)
        clear h1
        go_wp2
        go_ret
        exact ⟨by rw [HF.out]; rfl, HB.out.alloc hsz _⟩
      · have e1 : (q == 0) = false := by simpa using h1
        by_cases h2 : 0 < k
        · have e2 : decide ((k : Int) > 0) = true := by simp; omega
          have e2' : decide (0 < (k : Int)) = true := by simp; omega
          have e2n : decide (0 < k) = true := by simp; omega
          by_cases h3 : o = 0
          · have e3 : (o == 0) = true := by simpa using h3
            have HF : Hid (canonical l = false) := Lib.hid (by rw [canonical, hd.out, HD.out, HX.out, decide_eq_false (by omega)]; rfl)
            clear h1 h3
            go_wp2
            go_ret
            exact ⟨by rw [HF.out]; rfl, HB.out.alloc hsz _⟩
          · have e3 : (o == 0) = false := by simpa using h3
            have HF : Hid (canonF true l = canonF (decide (k + 1 = 0)) (l.drop (k + 1))) := Lib.hid (by rw [hd.out, HD.out, HX.out, decide_eq_true (by omega)]; rfl)
            clear h1 h3
            go_wp2
            go_roundw
            case rel => exact ⟨k + 1, by omega, by go_num, HF, HB.out.alloc hsz _⟩
            case measure => simp [intOf]; omega
        · have e2 : decide ((k : Int) > 0) = false := by simp; omega
          have e2' : decide (0 < (k : Int)) = false := by simp; omega
          have e2n : decide (0 < k) = false := by simp; omega
          have HF : Hid (canonF true l = canonF (decide (k + 1 = 0)) (l.drop (k + 1))) := Lib.hid (by rw [hd.out, HD.out, HX.out, decide_eq_true (by omega)]; rfl)
          clear h1
          go_wp2
          go_roundw
          case rel => exact ⟨k + 1, by omega, by go_num, HF, HB.out.alloc hsz _⟩
          case measure => simp [intOf]; omega
    · obtain rfl : k = l.length := by omega
      have HF : Hid (canonical l = decide (chk l = 0)) := Lib.hid (by rw [canonical, hd.out, List.drop_length]; rfl)
      have HCC := Lib.hid (HC.out wr HB.out)
      by_cases hc : chk l = 0
      · have e1 : ((chk l : Int) == 0) = true := by simp [hc]
        rw [decide_eq_true hc] at HF
        clear hc
        go_wp2_with (go_at_call 56; refine HCC.out.mono ?_; rintro e w1 ⟨rfl, hb1⟩)
        go_ret
        exact ⟨by rw [HF.out]; rfl, below_then HB.out hsz hb1⟩
      · have e1 : ((chk l : Int) == 0) = false := by simp; exact hc
        rw [decide_eq_false hc] at HF
        clear hc
        go_wp2_with (go_at_call 56; refine HCC.out.mono ?_; rintro e w1 ⟨rfl, hb1⟩)
        go_ret
        exact ⟨by rw [HF.out]; rfl, below_then HB.out hsz hb1⟩

/-- what From hands back. -/
def FromPost (ps : List Int) (w : World) (e : Ending) (w' : World) : Prop :=
  Below w.heap.size w w' ∧ ((rising ps = false ∧ e = .returned (.tuple #[.slice none 0 0, .int .i64 11])) ∨
    (rising ps = true ∧ (4096 < ps.length ∨ 1024 < (fromL ps).length) ∧ e = .returned (.tuple #[.slice none 0 0, .int .i64 12])) ∨
    (rising ps = true ∧ ps.length ≤ 4096 ∧ (fromL ps).length ≤ 1024 ∧ ∃ v, e = .returned (.tuple #[v, .int .i64 0]) ∧ OwSp 57 w' w.heap.size v (fromL ps)))
theorem buildF_cons_new (L : List Sp) (f p : Int) (ps : List Int) (h : L = [] ∨ f < p) : buildF L f (p :: ps) = buildF (L ++ [(p - f, 1)]) (p + 1) ps := by
  rw [buildF, addP, if_pos h]
theorem buildF_cons_old (i : List Sp) (s : Sp) (p : Int) (ps : List Int) : buildF (i ++ [s]) p (p :: ps) = buildF (i ++ [(s.1, s.2 + 1)]) (p + 1) ps := by
  rw [buildF, addP, if_neg (by simp)]
  simp
theorem rising_step (k : Nat) (f p : Int) (t : List Int) : risingF (decide (k = 0)) f (p :: t) = (decide (-1048576 ≤ p ∧ p ≤ 1048576 ∧ (0 < k → f ≤ p)) && risingF (decide (k + 1 = 0)) (p + 1) t) := by
  rw [risingF, decide_eq_false (Nat.succ_ne_zero k)]
  congr 1
  rw [Bool.eq_iff_iff, decide_eq_true_iff, decide_eq_true_iff, decide_eq_true_iff]
  omega

end Go.Proofs.YtjfekjbmgckkcaaDoor.SpanB
