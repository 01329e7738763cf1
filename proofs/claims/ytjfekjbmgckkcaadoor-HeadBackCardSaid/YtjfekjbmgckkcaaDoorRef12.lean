/- the references of layers 9 and 12: a head's schema and threshold; a threshold's byte, its bits, and a reading of them. -/
import Derived.Test.YtjfekjbmgckkcaaDoorHeadK
import Derived.Test.YtjfekjbmgckkcaaDoorRef04P
namespace Go.Proofs.YtjfekjbmgckkcaaDoor.Ref12
open Go.RowKit Go.Proofs.YtjfekjbmgckkcaaDoorW.PrintWords
open Go.Proofs.YtjfekjbmgckkcaaDoor.Bits Go.Proofs.YtjfekjbmgckkcaaDoor.Base Go.Proofs.YtjfekjbmgckkcaaDoor.VarPure Go.Proofs.YtjfekjbmgckkcaaDoor.ThrPure Go.Proofs.YtjfekjbmgckkcaaDoor.HeadA Go.Proofs.YtjfekjbmgckkcaaDoor.HeadK Go.Proofs.YtjfekjbmgckkcaaDoor.Ref01

theorem cut_lo {P : Program} (t : TypeId) (ht : P.underlying t = some .string) (s : ByteArray) (l : List Bool) (n : Nat) (hs : s = txt l) (h : n ≤ l.length) (w : World) : (Instr.slice t (.string s) none (some (.int .i64 n)) none).run P w = .ok (.string (txt (l.take n))) w := by
  subst hs
  rw [run_slice_string_h w t _ ht .i64 _ (Int.natCast_nonneg _) (by rw [txt_size]; omega), Int.toNat_natCast, extract_txt, List.drop_zero, Nat.sub_zero]
theorem cut_hi {P : Program} (t : TypeId) (ht : P.underlying t = some .string) (s : ByteArray) (l : List Bool) (n : Nat) (hs : s = txt l) (h : n ≤ l.length) (w : World) : (Instr.slice t (.string s) (some (.int .i64 n)) none none).run P w = .ok (.string (txt (l.drop n))) w := by
  subst hs
  rw [run_slice_string_l w t _ ht .i64 _ (Int.natCast_nonneg _) (by rw [txt_size]; omega), Int.toNat_natCast, extract_txt, txt_size, List.take_of_length_le (by rw [List.length_drop]; omega)]
theorem cut_mid {P : Program} (t : TypeId) (ht : P.underlying t = some .string) (s : ByteArray) (l : List Bool) (i j : Nat) (hs : s = txt l) (h1 : i ≤ j) (h2 : j ≤ l.length) (w : World) : (Instr.slice t (.string s) (some (.int .i64 i)) (some (.int .i64 j)) none).run P w = .ok (.string (txt ((l.drop i).take (j - i)))) w := by
  subst hs
  rw [Ref04.cut_str t ht _ _ _ (Int.natCast_nonneg _) (by omega) (by rw [txt_size]; omega), Int.toNat_natCast, Int.toNat_natCast, extract_txt]
def headE (s : Int) (z : Nat) : Nat := if s < -4 ∨ 8 < s then 21 else if thrOk z then 0 else 11
theorem headE_s (s : Int) : headE s 0 = shapeE s := by unfold headE shapeE; split <;> rfl
theorem headE_z (z : Nat) : headE 0 z = if thrOk z then 0 else 11 := rfl
theorem Head_calls (s : Int) (z : Nat) (w : World) : Calls Tryd.prog 40 #[.int .i64 s, .int .u64 z] w fun e w' => e = .returned (.int .i64 (headE s z)) ∧ w = w' := by
  by_cases h1 : s < -4
  · have HE : Hid (headE s z = 21) := Lib.hid (if_pos (.inl h1))
    have d1 : decide (s < -4) = true := decide_eq_true h1
    clear h1
    go_enter Tryd.func40, Tryd.ntmps40
    go_wp2
    go_ret
    exact ⟨by rw [HE.out]; rfl, rfl⟩
  · have d1 : decide (s < -4) = false := decide_eq_false h1
    by_cases h2 : 8 < s
    · have HE : Hid (headE s z = 21) := Lib.hid (if_pos (.inr h2))
      have d2 : decide (s > 8) = true := decide_eq_true h2
      have d2' : decide (8 < s) = true := decide_eq_true h2
      clear h1 h2
      go_enter Tryd.func40, Tryd.ntmps40
      go_wp2
      go_ret
      exact ⟨by rw [HE.out]; rfl, rfl⟩
    · have d2 : decide (s > 8) = false := decide_eq_false h2
      have d2' : decide (8 < s) = false := decide_eq_false h2
      by_cases h3 : z < 9218868437227405312
      · have HE : Hid (headE s z = 0) := Lib.hid (by unfold headE; rw [if_neg (by omega), if_pos (show thrOk z = true from decide_eq_true h3)])
        have d3 : decide ((z : Int) ≥ 9218868437227405312) = false := by simp; omega
        have d3' : decide (9218868437227405312 ≤ (z : Int)) = false := by simp; omega
        have d3n : decide (9218868437227405312 ≤ z) = false := by simp; omega
        clear h1 h2 h3
        go_enter Tryd.func40, Tryd.ntmps40
        go_wp2
        go_ret
        exact ⟨by rw [HE.out]; rfl, rfl⟩
      · have HE : Hid (headE s z = 11) := Lib.hid (by unfold headE; rw [if_neg (by omega), if_neg (by unfold thrOk; rw [decide_eq_true_eq]; exact h3)])
        have d3 : decide ((z : Int) ≥ 9218868437227405312) = true := by simp; omega
        have d3' : decide (9218868437227405312 ≤ (z : Int)) = true := by simp; omega
        have d3n : decide (9218868437227405312 ≤ z) = true := by simp; omega
        clear h1 h2 h3
        go_enter Tryd.func40, Tryd.ntmps40
        go_wp2
        go_ret
        exact ⟨by rw [HE.out]; rfl, rfl⟩
/-- what a reading tells of some bits. -/
def P12 (q : List Bool) (w : World) (e : Ending) (w' : World) : Prop := e = .returned (.tuple #[.int .u64 (parseT q).2.1, .int .i64 (parseT q).2.2, .int .i64 (parseT q).1]) ∧ w = w'
end Go.Proofs.YtjfekjbmgckkcaaDoor.Ref12
