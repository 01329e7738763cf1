/- layout in plain Lean: which inserts may be, what they make of values; which inserts lead from some places to all. -/
import Derived.Test.YtaenincbmlcjiaaSpanPure2
namespace Go.Proofs.Ytaenincbmlcjiaa.LayPure
open Go.Proofs.Ytaenincbmlcjiaa.SpanPure Go.Proofs.Ytaenincbmlcjiaa.SpanPure2

theorem snoc_ind {β : Type} {P : List β → Prop} (h0 : P []) (h1 : ∀ l x, P l → P (l ++ [x])) (l : List β) : P l := by
  have h : ∀ m : List β, P m.reverse := fun m => by
    induction m with
    | nil => exact h0
    | cons x t ih => rw [List.reverse_cons]; exact h1 _ _ ih
  have := h l.reverse
  rwa [List.reverse_reverse] at this

/-- which inserts may be. -/
def rightI (n : Int) : Int → Int → List Sp → Bool
  | _, _, [] => true
  | last, m, s :: t => decide (last < s.1 ∧ s.1 ≤ n ∧ 1 ≤ s.2 ∧ s.2 ≤ 4096 ∧ m + s.2 ≤ 4096) && rightI n s.1 (m + s.2) t
def right (n : Int) (l : List Sp) : Bool := rightI n (-1) 0 l
theorem rightI_append (n : Int) (l m : List Sp) : ∀ last c, rightI n last c (l ++ m) = (rightI n last c l && rightI n (l.getLast?.elim last (·.1)) (cntF c l) m) := by
  induction l with
  | nil => intro last c; rfl
  | cons s t ih =>
    intro last c
    rw [List.cons_append, rightI, rightI, ih, cntF, Bool.and_assoc]
    congr 2
    cases t with
    | nil => rfl
    | cons u t => rw [List.getLast?_cons_cons, List.getLast?_eq_some_getLast (by simp : u :: t ≠ [])]; rfl
/-- what a right list has. -/
theorem rightI_all (n : Int) (l : List Sp) : ∀ last c, rightI n last c l = true → ∀ s ∈ l, last < s.1 ∧ s.1 ≤ n ∧ 1 ≤ s.2 ∧ s.2 ≤ 4096 := by
  induction l with
  | nil => intro _ _ _ s hs; simp at hs
  | cons u t ih =>
    intro last c h s hs
    rw [rightI, Bool.and_eq_true, decide_eq_true_eq] at h
    rcases List.mem_cons.1 hs with rfl | hs
    · omega
    · have := ih _ _ h.2 s hs; omega

theorem rightI_cnt (n : Int) (l : List Sp) : ∀ last c, rightI n last c l = true → c ≤ 4096 → c ≤ cntF c l ∧ cntF c l ≤ 4096 := by
  induction l with
  | nil => intro _ c _ h; exact ⟨Int.le_refl _, h⟩
  | cons u t ih =>
    intro last c h hc
    rw [rightI, Bool.and_eq_true, decide_eq_true_eq] at h
    have := ih _ _ h.2 (by omega)
    rw [cntF]
    omega
theorem right_cnt {n : Int} {l : List Sp} (h : right n l = true) : 0 ≤ cntF 0 l ∧ cntF 0 l ≤ 4096 := rightI_cnt n l (-1) 0 h (by decide)

section
variable {α : Type}
/-- values, so far: where they are taken from on, and what has come. -/
def expS (v : List α) (z : α) (s : Nat × List α) (i : Sp) : Nat × List α := (i.1.toNat, s.2 ++ (v.take i.1.toNat).drop s.1 ++ List.replicate i.2.toNat z)
def expL (v : List α) (z : α) (l : List Sp) : Nat × List α := l.foldl (expS v z) (0, [])
/-- values with z's. -/
def expand (v : List α) (l : List Sp) (z : α) : List α := (expL v z l).2 ++ v.drop (expL v z l).1
theorem expL_snoc (v : List α) (z : α) (l : List Sp) (i : Sp) : expL v z (l ++ [i]) = expS v z (expL v z l) i := by simp [expL]
theorem expL_fst (v : List α) (z : α) (l : List Sp) : (expL v z l).1 = (l.getLast?.elim 0 (·.1)).toNat := by
  rcases List.eq_nil_or_concat l with rfl | ⟨i, s, rfl⟩
  · rfl
  · rw [List.concat_eq_append, expL_snoc]; simp [expS]
theorem expL_len (v : List α) (z : α) (l : List Sp) : ∀ {n : Int}, n = v.length → right n l = true → ((expL v z l).1 : Int) ≤ n ∧ ((expL v z l).2.length : Int) = (expL v z l).1 + cntF 0 l := by
  intro n hn
  induction l using snoc_ind with
  | h0 => intro _; exact ⟨by simp [expL]; omega, by simp [expL, cntF]⟩
  | h1 l i ih =>
    intro h
    unfold right at h ih
    rw [rightI_append, Bool.and_eq_true] at h
    obtain ⟨h1, h2⟩ := ih h.1
    have h3 := h.2
    rw [rightI, Bool.and_eq_true, decide_eq_true_eq] at h3
    obtain ⟨⟨h4, h5, h6, h7, h8⟩, -⟩ := h3
    have h9 : ((expL v z l).1 : Int) ≤ i.1 := by
      rw [expL_fst]
      cases hl : l.getLast? with
      | none => rw [hl] at h4; simp at h4 ⊢; omega
      | some u =>
        have := rightI_all n l (-1) 0 h.1 u (List.mem_of_getLast? hl)
        rw [hl] at h4; simp at h4 ⊢; omega
    have h0 : 0 ≤ i.1 := by omega
    clear h4
    rw [expL_snoc, cntF_append]
    refine ⟨by simp [expS]; omega, ?_⟩
    simp only [expS, List.length_append, List.length_drop, List.length_take, List.length_replicate, cntF]
    omega
theorem exp_step (v : List α) (z : α) (l : List Sp) {n : Int} (hn : n = v.length) (h : right n l = true) (k : Nat) (hk : k < l.length) :
    0 ≤ l[k].1 ∧ l[k].1 ≤ n ∧ 1 ≤ l[k].2 ∧ l[k].2 ≤ 4096 ∧ ((expL v z (l.take k)).1 : Int) ≤ l[k].1 ∧ ((expL v z (l.take k)).2.length : Int) ≤ n + 4096 ∧
      expL v z (l.take (k + 1)) = (l[k].1.toNat, (expL v z (l.take k)).2 ++ (v.take l[k].1.toNat).drop (expL v z (l.take k)).1 ++ List.replicate l[k].2.toNat z) := by
  have h1 := rightI_all n l (-1) 0 h l[k] (List.getElem_mem hk)
  have ht : right n (l.take (k + 1)) = true := by
    have h2 := rightI_append n (l.take (k + 1)) (l.drop (k + 1)) (-1) 0
    rw [List.take_append_drop] at h2
    unfold right at h ⊢
    rw [h2, Bool.and_eq_true] at h
    exact h.1
  have ht0 : right n (l.take k) = true := by
    have h2 := rightI_append n (l.take k) (l.drop k) (-1) 0
    rw [List.take_append_drop] at h2
    unfold right at h ⊢
    rw [h2, Bool.and_eq_true] at h
    exact h.1
  have e := List.take_succ_eq_append_getElem hk
  have e2 : expL v z (l.take (k + 1)) = (l[k].1.toNat, (expL v z (l.take k)).2 ++ (v.take l[k].1.toNat).drop (expL v z (l.take k)).1 ++ List.replicate l[k].2.toNat z) := by
    rw [e, expL_snoc]; rfl
  have g1 := expL_len v z _ hn ht
  have g2 := expL_len v z _ hn ht0
  have g3 : cntF 0 (l.take k) ≤ 4096 ∧ ((expL v z (l.take k)).1 : Int) ≤ l[k].1 := by
    unfold right at ht
    rw [e, rightI_append, Bool.and_eq_true] at ht
    have h3 := ht.2
    rw [rightI, Bool.and_eq_true, decide_eq_true_eq] at h3
    refine ⟨by omega, ?_⟩
    rw [expL_fst]
    cases hl : (l.take k).getLast? with
    | none => simp; omega
    | some u =>
      have := rightI_all n _ (-1) 0 ht0 u (List.mem_of_getLast? hl)
      rw [hl] at h3; simp at h3 ⊢; omega
  exact ⟨by omega, h1.2.1, h1.2.2.1, h1.2.2.2, g3.2, by omega, e2⟩
theorem expand_len (v : List α) (z : α) (l : List Sp) {n : Int} (hn : n = v.length) (h : right n l = true) : ((expand v l z).length : Int) = n + cntF 0 l := by
  obtain ⟨h1, h2⟩ := expL_len v z l hn h
  rw [expand, List.length_append, List.length_drop]
  omega
end
end Go.Proofs.Ytaenincbmlcjiaa.LayPure
