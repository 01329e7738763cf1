/- sums one behind the other and differences, modulo 2^64. -/
import Derived.IntWalk
import Derived.Test.YtaenincbmlcjiaaLayPure
namespace Go.Proofs.Ytaenincbmlcjiaa.LayPure2
open Go.Proofs.Ytaenincbmlcjiaa.SpanPure Go.Proofs.Ytaenincbmlcjiaa.LayPure

/-- modulo 2^64, with a sign. -/
def w64 (x : Int) : Int := (x + 9223372036854775808) % 18446744073709551616 - 9223372036854775808
theorem w64_eq (x : Int) : IntKind.i64.wrap x = w64 x := by rw [IntKind.wrap_i64]; unfold w64; omega
def In64 (x : Int) : Prop := -9223372036854775808 ≤ x ∧ x ≤ 9223372036854775807
theorem w64_in (x : Int) : In64 (w64 x) := by unfold In64 w64; omega
theorem w64_id {x : Int} (h : In64 x) : w64 x = x := by unfold In64 at h; unfold w64; omega
/-- sums, one behind the other. -/
def sumsF : Int → List Int → List Int
  | _, [] => []
  | a, d :: t => w64 (a + d) :: sumsF (w64 (a + d)) t
def sums (l : List Int) : List Int := sumsF 0 l
/-- differences. -/
def difsF : Int → List Int → List Int
  | _, [] => []
  | a, v :: t => w64 (v - a) :: difsF v t
def difs (l : List Int) : List Int := difsF 0 l
theorem sumsF_in (l : List Int) : ∀ a, ∀ x ∈ sumsF a l, In64 x := by
  induction l with
  | nil => intro a x h; simp [sumsF] at h
  | cons d t ih =>
    intro a x h
    rcases List.mem_cons.1 h with rfl | h
    · exact w64_in _
    · exact ih _ x h
theorem sumsF_len (l : List Int) : ∀ a, (sumsF a l).length = l.length := by
  induction l with
  | nil => intro a; rfl
  | cons d t ih => intro a; simp [sumsF, ih]
theorem difsF_len (l : List Int) : ∀ a, (difsF a l).length = l.length := by
  induction l with
  | nil => intro a; rfl
  | cons d t ih => intro a; simp [difsF, ih]
theorem sums_difs (l : List Int) : ∀ a, (∀ x ∈ l, In64 x) → sumsF a (difsF a l) = l := by
  induction l with
  | nil => intro a _; rfl
  | cons v t ih =>
    intro a h
    have hv := h v (List.mem_cons_self)
    have e : w64 (a + w64 (v - a)) = v := by unfold In64 at hv; unfold w64; omega
    simp only [difsF, sumsF, e]
    rw [ih v fun x hx => h x (List.mem_cons_of_mem _ hx)]
/-- where the sum stands behind k of them. -/
def endS : Int → List Int → Int
  | a, [] => a
  | a, d :: t => endS (w64 (a + d)) t
theorem sumsF_append (l m : List Int) : ∀ a, sumsF a (l ++ m) = sumsF a l ++ sumsF (endS a l) m := by
  induction l with
  | nil => intro a; rfl
  | cons d t ih => intro a; simp [sumsF, endS, ih]
theorem endS_append (l m : List Int) : ∀ a, endS a (l ++ m) = endS (endS a l) m := by
  induction l with
  | nil => intro a; rfl
  | cons d t ih => intro a; simp [endS, ih]
theorem sums_take (l : List Int) (k : Nat) (h : k < l.length) : sums (l.take (k + 1)) = sums (l.take k) ++ [w64 (endS 0 (l.take k) + l[k])] ∧ endS 0 (l.take (k + 1)) = w64 (endS 0 (l.take k) + l[k]) := by
  unfold sums
  rw [List.take_succ_eq_append_getElem h, sumsF_append, endS_append]
  exact ⟨rfl, rfl⟩
/-- the last one of the first k. -/
def prev (l : List Int) (k : Nat) : Int := if k = 0 then 0 else l.getD (k - 1) 0
theorem difsF_get (l : List Int) : ∀ (a : Int) (k : Nat) (h : k < l.length), (difsF a l)[k]'(by rw [difsF_len]; exact h) = w64 (l[k] - (if k = 0 then a else l.getD (k - 1) 0)) := by
  induction l with
  | nil => intro a k h; simp at h
  | cons v t ih =>
    intro a k h
    cases k with
    | zero => simp [difsF]
    | succ k =>
      simp only [difsF, List.getElem_cons_succ]
      rw [ih v k (by simpa using h)]
      congr 2
      cases k with
      | zero => simp
      | succ k => simp
/-- the row while it is turned. -/
def half (l : List Int) (k : Nat) : List Int := (difs l).take k ++ l.drop k
theorem half_zero (l : List Int) : half l 0 = l := by simp [half]
theorem half_len (l : List Int) (k : Nat) (h : k ≤ l.length) : (half l k).length = l.length := by
  simp [half, difs, difsF_len]; omega
theorem half_all (l : List Int) : half l l.length = difs l := by
  simp [half, difs, difsF_len, List.take_of_length_le]
theorem half_get (l : List Int) (k : Nat) (h : k < l.length) : (half l k)[k]'(by rw [half_len _ _ (by omega)]; exact h) = l[k] := by
  have e : ((difs l).take k).length = k := by rw [List.length_take, difs, difsF_len]; omega
  simp only [half]
  rw [List.getElem_append_right (by omega)]
  simp [e]
theorem half_set (l : List Int) (k : Nat) (h : k < l.length) : (half l k).set k (w64 (l[k] - prev l k)) = half l (k + 1) := by
  have e : ((difs l).take k).length = k := by rw [List.length_take, difs, difsF_len]; omega
  have hk : k < (difs l).length := by rw [difs, difsF_len]; exact h
  simp only [half]
  rw [List.set_append_right _ _ (by omega), e, Nat.sub_self, List.drop_eq_getElem_cons h, List.set_cons_zero, List.take_succ_eq_append_getElem hk, List.append_assoc, List.singleton_append]
  congr 2
  exact (difsF_get l 0 k h).symm
theorem expand_in (v : List Int) (l : List Sp) (h : ∀ x ∈ v, In64 x) : ∀ x ∈ expand v l 0, In64 x := by
  have h1 : ∀ x ∈ (expL v 0 l).2, In64 x := by
    induction l using snoc_ind with
    | h0 => intro x hx; simp [expL] at hx
    | h1 l i ih =>
      intro x hx
      rw [expL_snoc] at hx
      simp only [expS, List.mem_append] at hx
      rcases hx with (hx | hx) | hx
      · exact ih x hx
      · exact h x (List.mem_of_mem_take (List.mem_of_mem_drop hx))
      · rw [List.eq_of_mem_replicate hx]; unfold In64; omega
  intro x hx
  rw [expand, List.mem_append] at hx
  rcases hx with hx | hx
  · exact h1 x hx
  · exact h x (List.mem_of_mem_drop hx)
end Go.Proofs.Ytaenincbmlcjiaa.LayPure2
