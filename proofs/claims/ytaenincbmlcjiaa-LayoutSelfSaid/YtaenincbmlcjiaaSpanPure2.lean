/- the union of places: sorted, each once. No program in sight. -/
import Derived.Test.YtaenincbmlcjiaaSpanPure
import Derived.Lib.SlicesCompact
namespace Go.Proofs.Ytaenincbmlcjiaa.SpanPure2
open Go.Proofs.Ytaenincbmlcjiaa.SpanPure

/-- two rising lists with the same members are one. -/
theorem rise_ext : ∀ {l m : List Int}, Rise l → Rise m → (∀ x, x ∈ l ↔ x ∈ m) → l = m
  | [], [], _, _, _ => rfl
  | [], y :: m, _, _, h => by have := (h y).2 List.mem_cons_self; cases this
  | x :: l, [], _, _, h => by have := (h x).1 List.mem_cons_self; cases this
  | x :: l, y :: m, h1, h2, h => by
    have a1 := List.pairwise_cons.1 h1
    have a2 := List.pairwise_cons.1 h2
    have hxy : x = y := by
      rcases List.mem_cons.1 ((h x).1 List.mem_cons_self) with e | e
      · exact e
      · rcases List.mem_cons.1 ((h y).2 List.mem_cons_self) with e' | e'
        · exact e'.symm
        · have b1 := a2.1 x e; have b2 := a1.1 y e'; omega
    subst hxy
    rw [rise_ext a1.2 a2.2 fun z => ?_]
    constructor
    · intro hz
      rcases List.mem_cons.1 ((h z).1 (List.mem_cons_of_mem _ hz)) with e | e
      · have := a1.1 z hz; omega
      · exact e
    · intro hz
      rcases List.mem_cons.1 ((h z).2 (List.mem_cons_of_mem _ hz)) with e | e
      · have := a2.1 z hz; omega
      · exact e
theorem rise_nodup {l : List Int} (h : Rise l) : l.Nodup := List.Pairwise.imp (fun h => Int.ne_of_lt h) h

/-- what is sorted, each once. -/
theorem compact_go (d : Array Int) (hs : ∀ i j, i ≤ j → j < d.size → d[i]! ≤ d[j]!) : ∀ m, m ≤ d.size →
    Rise (Lib.compactUpTo d m) ∧ (∀ x, x ∈ Lib.compactUpTo d m ↔ ∃ j, j < m ∧ d[j]! = x)
  | 0, _ => ⟨List.Pairwise.nil, by simp [Lib.compactUpTo]⟩
  | m + 1, hm => by
    obtain ⟨i1, i2⟩ := compact_go d hs m (by omega)
    rw [Lib.compactUpTo_succ]
    by_cases hk : Lib.keeps d m = true
    · rw [if_pos hk]
      have hk' : m = 0 ∨ d[m]! ≠ d[m - 1]! := by simpa [Lib.keeps] using hk
      refine ⟨List.pairwise_append.2 ⟨i1, List.pairwise_singleton _ _, fun x hx y hy => ?_⟩, fun x => ?_⟩
      · rw [List.mem_singleton.1 hy]
        obtain ⟨j, hj, rfl⟩ := (i2 x).1 hx
        rcases hk' with h0 | h0
        · omega
        · have h1 := hs j (m - 1) (by omega) (by omega)
          have h2 := hs (m - 1) m (by omega) (by omega)
          omega
      · rw [List.mem_append, i2, List.mem_singleton]
        constructor
        · rintro (⟨j, hj, rfl⟩ | rfl)
          · exact ⟨j, by omega, rfl⟩
          · exact ⟨m, by omega, rfl⟩
        · rintro ⟨j, hj, rfl⟩
          rcases Nat.lt_or_ge j m with h | h
          · exact .inl ⟨j, h, rfl⟩
          · obtain rfl : j = m := by omega
            exact .inr rfl
    · rw [if_neg hk, List.append_nil]
      have hk' : 0 < m ∧ d[m]! = d[m - 1]! := by
        have : ¬ (m = 0 ∨ d[m]! ≠ d[m - 1]!) := by simpa [Lib.keeps] using hk
        refine ⟨by omega, ?_⟩
        rcases Classical.em (d[m]! = d[m - 1]!) with h | h
        · exact h
        · exact absurd (.inr h) this
      refine ⟨i1, fun x => ?_⟩
      rw [i2]
      constructor
      · rintro ⟨j, hj, rfl⟩; exact ⟨j, by omega, rfl⟩
      · rintro ⟨j, hj, rfl⟩
        rcases Nat.lt_or_ge j m with h | h
        · exact ⟨j, h, rfl⟩
        · obtain rfl : j = m := by omega
          exact ⟨j - 1, by omega, hk'.2.symm⟩
/-- the program's way to the union. -/
def uni (p q : List Int) : List Int := Lib.compact ((p ++ q).mergeSort fun x y => decide (x ≤ y))
theorem uni_spec (p q : List Int) : Rise (uni p q) ∧ ∀ x, x ∈ uni p q ↔ x ∈ p ∨ x ∈ q := by
  obtain ⟨zs, hz⟩ : ∃ zs, zs = (p ++ q).mergeSort fun x y => decide (x ≤ y) := ⟨_, rfl⟩
  have hp : zs.Perm (p ++ q) := hz ▸ List.mergeSort_perm _ _
  have hs : zs.Pairwise (fun x y => x ≤ y) := by
    rw [hz]
    have := List.pairwise_mergeSort (le := fun x y : Int => decide (x ≤ y)) (by intro a b c; simp; omega) (by intro a b; simp; omega) (p ++ q)
    exact this.imp fun h => by simpa using h
  have hsort : ∀ i j, i ≤ j → j < zs.toArray.size → zs.toArray[i]! ≤ zs.toArray[j]! := by
    intro i j hij hj
    have hj' : j < zs.length := by simpa using hj
    rw [getElem!_pos zs.toArray i (by simp; omega), getElem!_pos zs.toArray j hj]
    rcases Nat.lt_or_ge i j with h | h
    · exact List.pairwise_iff_getElem.1 hs i j (by omega) hj' h
    · obtain rfl : i = j := by omega
      exact Int.le_refl _
  have := compact_go zs.toArray hsort zs.length (by simp)
  unfold uni Lib.compact
  rw [← hz]
  refine ⟨this.1, fun x => ?_⟩
  rw [this.2]
  rw [← List.mem_append, ← hp.mem_iff, List.mem_iff_getElem]
  constructor
  · rintro ⟨j, hj, he⟩
    rw [getElem!_pos zs.toArray j (by simpa using hj)] at he
    exact ⟨j, hj, by simpa using he⟩
  · rintro ⟨j, hj, he⟩
    refine ⟨j, hj, ?_⟩
    rw [getElem!_pos zs.toArray j (by simpa using hj)]
    simpa using he
theorem uni_len (p q : List Int) : (uni p q).length ≤ p.length + q.length := by
  unfold uni Lib.compact Lib.compactUpTo
  rw [List.length_map]
  refine Nat.le_trans (List.length_filter_le _ _) ?_
  rw [List.length_range, List.length_mergeSort, List.length_append]
  exact Nat.le_refl _
theorem uni_comm (p q : List Int) : uni p q = uni q p := rise_ext (uni_spec p q).1 (uni_spec q p).1 fun x => by rw [(uni_spec p q).2, (uni_spec q p).2]; exact Or.comm
theorem uni_in {p q : List Int} (hp : ∀ x ∈ p, -1048576 ≤ x ∧ x ≤ 1048576) (hq : ∀ x ∈ q, -1048576 ≤ x ∧ x ≤ 1048576) : ∀ x ∈ uni p q, -1048576 ≤ x ∧ x ≤ 1048576 := fun x hx => by
  rcases ((uni_spec p q).2 x).1 hx with h | h
  · exact hp x h
  · exact hq x h
theorem uni_rising {p q : List Int} (hp : ∀ x ∈ p, -1048576 ≤ x ∧ x ≤ 1048576) (hq : ∀ x ∈ q, -1048576 ≤ x ∧ x ≤ 1048576) : rising (uni p q) = true := risingF_of (uni_spec p q).1 (uni_in hp hq) (by simp)
theorem compact_le (zs : List Int) : (Lib.compact zs).length ≤ zs.length := by
  unfold Lib.compact Lib.compactUpTo
  rw [List.length_map]
  refine Nat.le_trans (List.length_filter_le _ _) ?_
  rw [List.length_range]
  exact Nat.le_refl _
end Go.Proofs.Ytaenincbmlcjiaa.SpanPure2
