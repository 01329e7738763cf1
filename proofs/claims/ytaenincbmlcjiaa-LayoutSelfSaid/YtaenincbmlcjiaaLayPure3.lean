/- which inserts lead from some places to all of them. -/
import Derived.Test.YtaenincbmlcjiaaLayPure
namespace Go.Proofs.Ytaenincbmlcjiaa.LayPure3
open Go.Proofs.Ytaenincbmlcjiaa.SpanPure Go.Proofs.Ytaenincbmlcjiaa.SpanPure2 Go.Proofs.Ytaenincbmlcjiaa.LayPure

/-- one place more. -/
def lackS (x : List Int) (s : Nat × List Sp) (p : Int) : Nat × List Sp :=
  if x[s.1]? = some p then (s.1 + 1, s.2)
  else match s.2.getLast? with
    | some u => if u.1 = (s.1 : Int) then (s.1, s.2.dropLast ++ [(u.1, u.2 + 1)]) else (s.1, s.2 ++ [((s.1 : Int), 1)])
    | none => (s.1, s.2 ++ [((s.1 : Int), 1)])
def lackL (x : List Int) (all : List Int) : Nat × List Sp := all.foldl (lackS x) (0, [])
def lacks (x all : List Int) : List Sp := (lackL x all).2
theorem lackL_snoc (x all : List Int) (p : Int) : lackL x (all ++ [p]) = lackS x (lackL x all) p := by simp [lackL]
/-- a value at a place: the last one whose place it is. -/
def look {α : Type} (x : List Int) (v : List α) (z : α) (p : Int) : α := (x.zip v).foldl (fun a s => if s.1 = p then s.2 else a) z
theorem look_not {α : Type} (x : List Int) : ∀ (v : List α) (z : α) (p : Int), p ∉ x → look x v z p = z := by
  induction x with
  | nil => intro v z p _; rfl
  | cons y t ih =>
    intro v z p h
    cases v with
    | nil => rfl
    | cons u v =>
      have h1 : ¬ y = p := fun e => h (by rw [e]; exact List.mem_cons_self)
      show look t v (if y = p then u else z) p = z
      rw [if_neg h1]
      exact ih v z p fun e => h (List.mem_cons_of_mem _ e)
theorem look_at {α : Type} (x : List Int) : ∀ (v : List α) (z : α) (j : Nat) (h : j < x.length) (h' : j < v.length), Rise x → look x v z x[j] = v[j] := by
  induction x with
  | nil => intro v z j h; simp at h
  | cons y t ih =>
    intro v z j h h' hr
    have hr' := List.pairwise_cons.1 hr
    cases v with
    | nil => simp at h'
    | cons u v =>
      cases j with
      | zero =>
        show look t v (if y = y then u else z) y = u
        rw [if_pos rfl]
        exact look_not t v u y fun e => by have := hr'.1 y e; omega
      | succ j =>
        exact ih v (if y = t[j]'(by simpa using h) then u else z) j (by simpa using h) (by simpa using h') hr'.2
theorem right_snoc (n : Int) (o : List Sp) (s : Sp) : right n (o ++ [s]) = (right n o && decide (o.getLast?.elim (-1) (·.1) < s.1 ∧ s.1 ≤ n ∧ 1 ≤ s.2 ∧ s.2 ≤ 4096 ∧ cntF 0 o + s.2 ≤ 4096)) := by
  unfold right
  rw [rightI_append]
  simp [rightI]
theorem rightI_mono {n m : Int} (h : n ≤ m) (l : List Sp) : ∀ last c, rightI n last c l = true → rightI m last c l = true := by
  induction l with
  | nil => intro _ _ _; rfl
  | cons s t ih =>
    intro last c hr
    rw [rightI, Bool.and_eq_true, decide_eq_true_eq] at hr ⊢
    exact ⟨by omega, ih _ _ hr.2⟩
/-- the state behind some places. -/
structure Lk (x all : List Int) (at_ : Nat) (out : List Sp) : Prop where
  le : at_ ≤ x.length
  ri : right at_ out = true
  cnt : cntF 0 out = (all.length : Int) - at_
  lo : ∀ j, (h : j < x.length) → j < at_ → x[j] ∈ all
  hi : ∀ j, (h : j < x.length) → at_ ≤ j → x[j] ∉ all
  ex : ∀ {α : Type} (v : List α) (z : α), v.length = x.length → (expL v z out).1 ≤ at_ ∧ (expL v z out).2 ++ (v.take at_).drop (expL v z out).1 = all.map (look x v z)
theorem Lk.nil (x : List Int) : Lk x [] 0 [] where
  le := Nat.zero_le _
  ri := rfl
  cnt := rfl
  lo := fun j _ h => absurd h (by omega)
  hi := fun j _ _ => by simp
  ex := fun v z _ => ⟨Nat.le_refl _, by simp [expL]⟩
theorem Lk.step {x all rest : List Int} {p : Int} {at_ : Nat} {out : List Sp} (h : Lk x all at_ out) (hx : Rise x) (hw : Rise (all ++ p :: rest)) (hs : ∀ y ∈ x, y ∈ all ++ p :: rest) (hl : all.length + 1 ≤ 4096) :
    Lk x (all ++ [p]) (lackS x (at_, out) p).1 (lackS x (at_, out) p).2 := by
  have hw1 := List.pairwise_append.1 hw
  have hp : p ∉ all := fun hp => by have := hw1.2.2 p hp p List.mem_cons_self; omega
  have hr : ∀ y ∈ p :: rest, p ≤ y := fun y hy => by
    rcases List.mem_cons.1 hy with rfl | hy
    · exact Int.le_refl _
    · have := (List.pairwise_cons.1 hw1.2.1).1 y hy; omega
  by_cases hit : x[at_]? = some p
  · have hat : at_ < x.length := (List.getElem?_eq_some_iff.1 hit).1
    have hxp : x[at_] = p := (List.getElem?_eq_some_iff.1 hit).2
    have e : lackS x (at_, out) p = (at_ + 1, out) := by simp only [lackS]; rw [if_pos hit]
    rw [e]
    show Lk x (all ++ [p]) (at_ + 1) out
    refine ⟨hat, rightI_mono (by omega) out _ _ h.ri, ?_, ?_, ?_, ?_⟩
    · rw [h.cnt, List.length_append, List.length_singleton]; omega
    · intro j hj hlt
      rcases Nat.lt_or_ge j at_ with h1 | h1
      · exact List.mem_append_left _ (h.lo j hj h1)
      · obtain rfl : j = at_ := by omega
        rw [hxp]; simp
    · intro j hj hge hm
      rcases List.mem_append.1 hm with hm | hm
      · exact h.hi j hj (by omega) hm
      · have h1 := List.mem_singleton.1 hm
        have h2 := List.pairwise_iff_getElem.1 hx at_ j hat hj (by omega)
        omega
    · intro α v z hv
      obtain ⟨h1, h2⟩ := h.ex v z hv
      have h3 : at_ < v.length := by omega
      refine ⟨by omega, ?_⟩
      rw [List.take_succ_eq_append_getElem h3, List.drop_append_of_le_length (by rw [List.length_take]; omega), ← List.append_assoc, h2, List.map_append]
      congr 1
      show [v[at_]] = [look x v z p]
      rw [← hxp, look_at x v z at_ hat h3 hx]
  · have hpx : p ∉ x := fun hm => by
      obtain ⟨j, hj, hjp⟩ := List.getElem_of_mem hm
      have h1 : at_ ≤ j := by
        rcases Nat.lt_or_ge j at_ with h1 | h1
        · exact absurd (hjp ▸ h.lo j hj h1) hp
        · exact h1
      rcases Nat.lt_or_ge at_ j with h2 | h2
      · have h3 := List.pairwise_iff_getElem.1 hx at_ j (by omega) hj h2
        have h4 := hs x[at_] (List.getElem_mem _)
        rcases List.mem_append.1 h4 with h4 | h4
        · exact h.hi at_ (by omega) (Nat.le_refl _) h4
        · have := hr _ h4; omega
      · obtain rfl : j = at_ := by omega
        exact hit (by rw [List.getElem?_eq_getElem hj, hjp])
    have hlo : ∀ j, (hj : j < x.length) → j < at_ → x[j] ∈ all ++ [p] := fun j hj hlt => List.mem_append_left _ (h.lo j hj hlt)
    have hhi : ∀ j, (hj : j < x.length) → at_ ≤ j → x[j] ∉ all ++ [p] := fun j hj hge hm => by
      rcases List.mem_append.1 hm with hm | hm
      · exact h.hi j hj hge hm
      · exact hpx (List.mem_singleton.1 hm ▸ List.getElem_mem _)
    have hcnt := h.cnt
    have hnew : (out.getLast?.elim (-1) (·.1) < (at_ : Int)) → Lk x (all ++ [p]) at_ (out ++ [((at_ : Int), 1)]) := fun hlast => by
      refine ⟨h.le, ?_, ?_, hlo, hhi, ?_⟩
      · rw [right_snoc, h.ri, Bool.true_and, decide_eq_true_eq]
        exact ⟨hlast, by omega, by omega, by omega, by simp only; omega⟩
      · rw [cntF_append, List.length_append, List.length_singleton]
        simp only [cntF]; omega
      · intro α v z hv
        obtain ⟨h1, h2⟩ := h.ex v z hv
        rw [expL_snoc, List.map_append, ← h2]
        simp only [expS, Int.toNat_natCast]
        refine ⟨Nat.le_refl _, ?_⟩
        have e3 : (v.take at_).drop at_ = [] := List.drop_of_length_le (by rw [List.length_take]; omega)
        rw [e3, List.append_nil]
        show _ = _ ++ [look x v z p]
        rw [look_not x v z p hpx]
        rfl
    cases hg : out.getLast? with
    | none =>
      have e : lackS x (at_, out) p = (at_, out ++ [((at_ : Int), 1)]) := by simp only [lackS]; rw [if_neg hit, hg]
      rw [e]
      exact hnew (by rw [hg]; show (-1 : Int) < _; omega)
    | some u =>
      obtain ⟨o, rfl⟩ : ∃ o, out = o ++ [u] := by
        obtain ⟨o, ho⟩ := List.getLast?_eq_some_iff.1 hg
        exact ⟨o, ho⟩
      have hri := h.ri
      rw [right_snoc, Bool.and_eq_true, decide_eq_true_eq] at hri
      by_cases hu : u.1 = (at_ : Int)
      · have e : lackS x (at_, o ++ [u]) p = (at_, o ++ [(u.1, u.2 + 1)]) := by simp only [lackS]; rw [if_neg hit, hg]; simp [hu]
        rw [e]
        show Lk x (all ++ [p]) at_ (o ++ [(u.1, u.2 + 1)])
        rw [cntF_append] at hcnt
        simp only [cntF] at hcnt
        refine ⟨h.le, ?_, ?_, hlo, hhi, ?_⟩
        · rw [right_snoc, hri.1, Bool.true_and, decide_eq_true_eq]
          have hc0 := right_cnt hri.1
          exact ⟨hri.2.1, hri.2.2.1, by simp only; omega, by simp only; omega, by simp only; omega⟩
        · rw [cntF_append, List.length_append, List.length_singleton]
          simp only [cntF]; omega
        · intro α v z hv
          obtain ⟨h1, h2⟩ := h.ex v z hv
          rw [expL_snoc] at h1 h2 ⊢
          have hu1 : u.1.toNat = at_ := by omega
          simp only [expS, hu1] at h1 h2 ⊢
          refine ⟨Nat.le_refl _, ?_⟩
          have e3 : (v.take at_).drop at_ = [] := List.drop_of_length_le (by rw [List.length_take]; omega)
          rw [e3, List.append_nil] at h2 ⊢
          rw [List.map_append, ← h2, show (u.2 + 1).toNat = u.2.toNat + 1 by omega, List.replicate_succ', ← List.append_assoc]
          congr 1
          show [z] = [look x v z p]
          rw [look_not x v z p hpx]
      · have e : lackS x (at_, o ++ [u]) p = (at_, (o ++ [u]) ++ [((at_ : Int), 1)]) := by simp only [lackS]; rw [if_neg hit, hg]; simp [hu]
        rw [e]
        exact hnew (by rw [hg]; show u.1 < _; omega)
/-- behind all of them. -/
theorem lk_all {x all : List Int} (hx : Rise x) (hw : Rise all) (hs : ∀ y ∈ x, y ∈ all) (hl : all.length ≤ 4096) : ∀ k, k ≤ all.length → Lk x (all.take k) (lackL x (all.take k)).1 (lackL x (all.take k)).2 := by
  intro k
  induction k with
  | zero => intro _; exact Lk.nil x
  | succ k ih =>
    intro hk
    have h1 := ih (by omega)
    have e : all.take k ++ all[k] :: all.drop (k + 1) = all := by rw [← List.drop_eq_getElem_cons, List.take_append_drop]
    rw [List.take_succ_eq_append_getElem hk, lackL_snoc]
    exact h1.step (rest := all.drop (k + 1)) hx (by rw [e]; exact hw) (by rw [e]; exact hs) (by rw [List.length_take]; omega)
theorem lacks_spec {x all : List Int} (hx : Rise x) (hw : Rise all) (hs : ∀ y ∈ x, y ∈ all) (hl : all.length ≤ 4096) :
    right x.length (lacks x all) = true ∧ cntF 0 (lacks x all) = (all.length : Int) - x.length ∧ (∀ {α : Type} (v : List α) (z : α), v.length = x.length → expand v (lacks x all) z = all.map (look x v z)) := by
  have h := lk_all hx hw hs hl all.length (Nat.le_refl _)
  rw [List.take_length] at h
  have hat : (lackL x all).1 = x.length := by
    rcases Nat.lt_or_ge (lackL x all).1 x.length with h1 | h1
    · exact absurd (hs _ (List.getElem_mem h1)) (h.hi _ h1 (Nat.le_refl _))
    · have := h.le; omega
  have h1 := h.ri
  have h2 := h.cnt
  rw [hat] at h1 h2
  refine ⟨h1, h2, fun v z hv => ?_⟩
  have h3 := (h.ex v z hv).2
  rw [hat, ← hv, List.take_length] at h3
  exact h3
end Go.Proofs.Ytaenincbmlcjiaa.LayPure3
