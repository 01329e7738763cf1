/- the law's way to values with zeros: value by value. No program in sight. -/
import Derived.Test.YtaenincbmlcjiaaLayPure
namespace Go.Proofs.Ytaenincbmlcjiaa.LayPure4
open Go.Proofs.Ytaenincbmlcjiaa.SpanPure Go.Proofs.Ytaenincbmlcjiaa.SpanPure2 Go.Proofs.Ytaenincbmlcjiaa.LayPure

theorem rightI_pair (n : Int) (l : List Sp) : ∀ last c, rightI n last c l = true → l.Pairwise fun a b => a.1 < b.1 := by
  induction l with
  | nil => intro _ _ _; exact List.Pairwise.nil
  | cons s t ih =>
    intro last c h
    rw [rightI, Bool.and_eq_true] at h
    refine List.pairwise_cons.2 ⟨fun u hu => ?_, ih _ _ h.2⟩
    exact (rightI_all n t _ _ h.2 u hu).1
theorem right_take {n : Int} {l : List Sp} (h : right n l = true) (k : Nat) : right n (l.take k) = true := by
  have h2 := rightI_append n (l.take k) (l.drop k) (-1) 0
  rw [List.take_append_drop] at h2
  unfold right at h ⊢
  rw [h2, Bool.and_eq_true] at h
  exact h.1
/-- what has come ahead of value i, k inserts taken. -/
structure Wt (v : List Int) (l : List Sp) (z : Int) (k i : Nat) (out : List Int) : Prop where
  kl : k ≤ l.length
  hi : ∀ s ∈ l.drop k, (i : Int) ≤ s.1
  fr : (expL v z (l.take k)).1 ≤ i
  eq : out = (expL v z (l.take k)).2 ++ (v.take i).drop (expL v z (l.take k)).1
/-- the insert at i is taken, too. -/
structure WtM (v : List Int) (l : List Sp) (z : Int) (k i : Nat) (out : List Int) : Prop where
  kl : k ≤ l.length
  hi : ∀ s ∈ l.drop k, (i : Int) + 1 ≤ s.1
  fr : (expL v z (l.take k)).1 ≤ i
  eq : out = (expL v z (l.take k)).2 ++ (v.take i).drop (expL v z (l.take k)).1
variable {v : List Int} {l : List Sp} {z : Int} {k i : Nat} {out : List Int}
theorem Wt.zero (hr : right v.length l = true) : Wt v l z 0 0 [] :=
  ⟨Nat.zero_le _, fun s hs => by have := rightI_all _ _ _ _ hr s hs; omega, Nat.le_refl _, by simp [expL]⟩
theorem Wt.hit (h : Wt v l z k i out) (hr : right v.length l = true) (hk : k < l.length) (he : l[k].1 = i) : WtM v l z (k + 1) i (out ++ List.replicate l[k].2.toNat z) := by
  obtain ⟨s1, s2, s3, s4, s5, s6, s7⟩ := exp_step v z l rfl hr k hk
  have hp := (rightI_pair _ _ _ _ hr).drop (i := k)
  rw [List.drop_eq_getElem_cons hk] at hp
  have hp := (List.pairwise_cons.1 hp).1
  refine ⟨hk, fun s hs => by have := hp s hs; omega, by rw [s7]; simp only; omega, ?_⟩
  have hi : l[k].1.toNat = i := by omega
  rw [s7, hi]
  simp only
  rw [h.eq, show (v.take i).drop i = [] from List.drop_of_length_le (by rw [List.length_take]; omega), List.append_nil]
theorem Wt.miss (h : Wt v l z k i out) (hr : right v.length l = true) (hne : ∀ hk : k < l.length, l[k].1 ≠ i) : WtM v l z k i out := by
  refine ⟨h.kl, fun s hs => ?_, h.fr, h.eq⟩
  rcases Nat.lt_or_ge k l.length with hk | hk
  · have h1 := h.hi l[k] (by rw [List.drop_eq_getElem_cons hk]; exact List.mem_cons_self)
    have h2 := hne hk
    have hp := (rightI_pair _ _ _ _ hr).drop (i := k)
    rw [List.drop_eq_getElem_cons hk] at hp hs
    rcases List.mem_cons.1 hs with rfl | hs
    · omega
    · have := (List.pairwise_cons.1 hp).1 s hs; omega
  · rw [List.drop_of_length_le hk] at hs; simp at hs
theorem WtM.put (h : WtM v l z k i out) (hi : i < v.length) : Wt v l z k (i + 1) (out ++ [v[i]]) := by
  refine ⟨h.kl, fun s hs => by have := h.hi s hs; omega, by have := h.fr; omega, ?_⟩
  rw [List.take_succ_eq_append_getElem hi, List.drop_append_of_le_length (by rw [List.length_take]; have := h.fr; omega), ← List.append_assoc, ← h.eq]
theorem WtM.last (h : WtM v l z k v.length out) : Wt v l z k (v.length + 1) out := by
  refine ⟨h.kl, fun s hs => by have := h.hi s hs; omega, by have := h.fr; omega, ?_⟩
  rw [h.eq, List.take_length, List.take_of_length_le (Nat.le_succ _)]
theorem Wt.all (h : Wt v l z k (v.length + 1) out) (hr : right v.length l = true) : out = expand v l z := by
  have hk : k = l.length := by
    rcases Nat.lt_or_ge k l.length with hk | hk
    · have h1 := h.hi l[k] (by rw [List.drop_eq_getElem_cons hk]; exact List.mem_cons_self)
      have h2 := rightI_all _ _ _ _ hr l[k] (List.getElem_mem hk)
      omega
    · have := h.kl; omega
  subst hk
  rw [h.eq, List.take_length, List.take_of_length_le (Nat.le_succ _)]
  rfl
theorem Wt.len (h : Wt v l z k i out) (hr : right v.length l = true) : out.length ≤ v.length + 4096 := by
  have h1 := expL_len v z (l.take k) rfl (right_take hr k)
  have h2 := right_cnt (right_take hr k)
  have h3 := h.fr
  rw [h.eq, List.length_append, List.length_drop, List.length_take]
  omega
theorem WtM.len (h : WtM v l z k i out) (hr : right v.length l = true) : out.length ≤ v.length + 4096 := by
  have h1 := expL_len v z (l.take k) rfl (right_take hr k)
  have h2 := right_cnt (right_take hr k)
  have h3 := h.fr
  rw [h.eq, List.length_append, List.length_drop, List.length_take]
  omega
end Go.Proofs.Ytaenincbmlcjiaa.LayPure4
