/- span's walks: rows of numbers sorted, each once; equal; in one another. -/
import Derived.Test.YtaenincbmlcjiaaShelf
import Derived.Test.YtaenincbmlcjiaaSpanPure2
import Derived.Test.YtaenincbmlcjiaaSpanD
import Derived.Lib.AppendZerosOnto
namespace Go.Proofs.Ytaenincbmlcjiaa.SpanE
open Go.RowKit Go.Proofs.YtaenincbmlcjiaaW.PrintWords
open Go.Proofs.Ytaenincbmlcjiaa.Base Go.Proofs.Ytaenincbmlcjiaa.SpanPure Go.Proofs.Ytaenincbmlcjiaa.SpanPure2 Go.Proofs.Ytaenincbmlcjiaa.SpanBase Go.Proofs.Ytaenincbmlcjiaa.SpanA Go.Proofs.Ytaenincbmlcjiaa.SpanB Go.Proofs.Ytaenincbmlcjiaa.SpanC Go.Proofs.Ytaenincbmlcjiaa.SpanD

/-- a row of the call's own that is turned as a whole. -/
theorem put_own {e : Nat} {w : World} {base g n c q : Nat} {xs ys : List Int} {os : Array Obj} (ho : OwI e .i64 w base (.slice (some ⟨g, 0, none⟩) n c) xs) (hl : ys.length = xs.length) :
    OwI e .i64 (Sort.grow (Sort.putRow (Value.int .i64) (Sort.ahead w q) g 0 ys.toArray) os) base (.slice (some ⟨g, 0, none⟩) n c) ys ∧ Ch (fun k => k = g) w (Sort.grow (Sort.putRow (Value.int .i64) (Sort.ahead w q) g 0 ys.toArray) os) := by
  have hlt := ho.lt_ g rfl
  have hheap : ∀ k, k < w.heap.size → (Sort.grow (Sort.putRow (Value.int .i64) (Sort.ahead w q) g 0 ys.toArray) os).heap[k]? = if k = g then (w.heap[k]?).map (Sort.onCells (Sort.putCells (Value.int .i64) 0 ys.toArray)) else w.heap[k]? := by
    intro k hk
    rw [Sort.heap_grow_old _ _ (by simpa using hk)]
    simp only [Sort.putRow, Sort.mapBlock, Array.getElem?_modify, Sort.heap_ahead]
    by_cases h : g = k
    · rw [if_pos h, if_pos h.symm]
    · rw [if_neg h, if_neg (fun h' => h h'.symm)]
  have hn : xs.length = n := ho.len
  refine ⟨⟨by simp [nums], ?_⟩, ⟨rfl, rfl, rfl, by simp, fun k hk hs => by rw [hheap k hk, if_neg hs]⟩⟩
  rcases ho.2 with ⟨he, _⟩ | ⟨g', cap, cur, he, hb, hg, hnc, hcm, hsz, htk⟩
  · cases he
  · injection he with he1 he2 he3
    injection he1 with he1
    injection he1 with he1
    subst he1 he3
    refine .inr ⟨g, c, Sort.putCells (Value.int .i64) 0 ys.toArray cur, by rw [hl, hn], hb, ?_, by omega, hcm, ?_, ?_⟩
    · rw [hheap g hlt, if_pos rfl, hg]; rfl
    · simp [Sort.putCells, hsz]
    · apply List.ext_getElem?
      intro i
      rw [List.getElem?_take]
      by_cases hi : i < ys.length * 1
      · rw [if_pos hi]
        have hic : i < cur.size := by omega
        simp only [Sort.putCells, Array.getElem?_toList, Array.getElem?_mapIdx, Array.getElem?_eq_getElem hic, Option.map_some]
        rw [if_pos ⟨Nat.zero_le _, by simp; omega⟩, Nat.sub_zero, getElem!_pos ys.toArray i (by simp; omega)]
        simp [nums, show i < ys.length by omega]
      · rw [if_neg hi, List.getElem?_eq_none (by simp [nums]; omega)]
theorem own_holds {e : Nat} {w : World} {base g n c : Nat} {xs : List Int} (ho : OwI e .i64 w base (.slice (some ⟨g, 0, none⟩) n c) xs) : Sort.Holds (Value.int .i64) w g 0 xs.toArray := by
  intro j hj
  have hj' : j < xs.length := by simpa using hj
  obtain ⟨h1, h2⟩ := OwI.at_ ho j hj'
  rw [Nat.zero_add, getElem!_pos xs.toArray j hj]
  exact ⟨by simpa using h1, h2⟩
/-- the first ones of a row. -/
theorem OwI_cut {e : Nat} {k : IntKind} {w : World} {base g n c m : Nat} {xs : List Int} (ho : OwI e k w base (.slice (some ⟨g, 0, none⟩) n c) xs) (hm : m ≤ n) : OwI e k w base (.slice (some ⟨g, 0, none⟩) m c) (xs.take m) := by
  have hn : xs.length = n := ho.len
  rcases ho.2 with ⟨he, _⟩ | ⟨g', cap, cur, he, hb, hg, hnc, hcm, hsz, htk⟩
  · cases he
  · injection he with he1 he2 he3
    injection he1 with he1
    injection he1 with he1
    subst he1 he3
    have hml : (xs.take m).length = m := by rw [List.length_take]; omega
    refine ⟨by simp [nums], .inr ⟨g, c, cur, by rw [hml], hb, hg, by omega, hcm, hsz, ?_⟩⟩
    have : nums k (xs.take m) = (nums k xs).take m := by simp [nums]
    rw [this, ← htk, List.take_take]
    congr 1
    omega

theorem sort_calls (v : Value) (xs : List Int) (base : Nat) (w : World) (ho : OwI 3 .i64 w base v xs) (hm : xs.length ≤ 1000000000) :
    Calls Try.prog 51 #[v] w fun e w' => e = .returned (.tuple #[]) ∧ OwI 3 .i64 w' base v (xs.mergeSort fun x y => decide (x ≤ y)) ∧ Ch (fun k => v.ownBlock = some k) w w' := by
  rcases Nat.eq_zero_or_pos xs.length with h0 | h0
  · obtain rfl := List.length_eq_zero_iff.1 h0
    obtain ⟨A, c, rfl, -, -⟩ := ho.reads
    refine (Try.slices_Sort_int_none A c w).mono ?_
    rintro e w' ⟨rfl, rfl⟩
    exact ⟨rfl, by simpa using ho, Ch.refl _ _⟩
  · obtain ⟨g, c, rfl, hb, hlt, hc⟩ := ho.form h0
    refine (Try.slices_Sort_int g 0 c xs w (own_holds ho) hlt (by omega)).mono ?_
    rintro e w' ⟨rfl, q, os, rfl⟩
    obtain ⟨h1, h2⟩ := put_own (q := q) (os := os) (ys := xs.mergeSort fun x y => decide (x ≤ y)) ho (List.length_mergeSort _)
    exact ⟨rfl, h1, h2.mono fun k _ h => by rw [h]; rfl⟩

theorem compact_calls (v : Value) (xs : List Int) (base : Nat) (w : World) (ho : OwI 3 .i64 w base v xs) (hm : xs.length ≤ 1000000000) :
    Calls Try.prog 52 #[v] w fun e w' => ∃ v', e = .returned v' ∧ v'.ownBlock = v.ownBlock ∧ OwI 3 .i64 w' base v' (Lib.compact xs) ∧ Ch (fun k => v.ownBlock = some k) w w' := by
  rcases Nat.eq_zero_or_pos xs.length with h0 | h0
  · obtain rfl := List.length_eq_zero_iff.1 h0
    obtain ⟨A, c, rfl, -, -⟩ := ho.reads
    refine (Try.slices_Compact_int_empty A c w).mono ?_
    rintro e w' ⟨rfl, rfl⟩
    exact ⟨_, rfl, rfl, ho, Ch.refl _ _⟩
  · obtain ⟨g, c, rfl, hb, hlt, hc⟩ := ho.form h0
    refine (Try.slices_Compact_int g 0 c xs w (own_holds ho) (by omega) hc).mono ?_
    rintro e w' ⟨rfl, q, rfl⟩
    have hle := compact_le xs
    obtain ⟨h1, h2⟩ := put_own (q := q) (os := #[]) (ys := Lib.compact xs ++ List.replicate (xs.length - (Lib.compact xs).length) 0) ho (by simp; omega)
    rw [Sort.grow_empty] at h1 h2
    refine ⟨_, rfl, rfl, ?_, h2.mono fun k _ h => by rw [h]; rfl⟩
    have := OwI_cut h1 (m := (Lib.compact xs).length) hle
    rwa [List.take_left' rfl] at this

theorem equal_calls (v1 v2 : Value) (xs ys : List Int) (b1 b2 : Nat) (w : World) (h1 : OwI 3 .i64 w b1 v1 xs) (h2 : OwI 3 .i64 w b2 v2 ys) (hm : xs.length ≤ 1000000000) (hm2 : ys.length ≤ 1000000000) :
    Calls Try.prog 49 #[v1, v2] w fun e w' => e = .returned (.bool (decide (xs = ys))) ∧ Drawn0 w w' := by
  by_cases hl : xs.length = ys.length
  · rcases Nat.eq_zero_or_pos xs.length with h0 | h0
    · obtain rfl := List.length_eq_zero_iff.1 h0
      obtain rfl := List.length_eq_zero_iff.1 (hl.symm.trans h0)
      obtain ⟨A, c, rfl, -, -⟩ := h1.reads
      obtain ⟨A2, c2, rfl, -, -⟩ := h2.reads
      refine (Try.slices_Equal_int_empty A A2 c 0 c2 w (by decide)).mono ?_
      rintro e w' ⟨rfl, rfl⟩
      exact ⟨rfl, Drawn0.refl _⟩
    · obtain ⟨g, c, rfl, -, -, -⟩ := h1.form h0
      obtain ⟨g2, c2, rfl, -, -, -⟩ := h2.form (by omega)
      refine (Try.slices_Equal_int g 0 xs.length c g2 0 ys.length c2 xs ys w (Nat.le_refl _) (Nat.le_refl _) (by omega) (by omega) (fun j hj => ?_) (fun j hj => ?_)).mono ?_
      · rw [Nat.zero_add, List.getD_eq_getElem?_getD, List.getElem?_eq_getElem hj]; exact (OwI.at_ h1 j hj).1
      · rw [Nat.zero_add, List.getD_eq_getElem?_getD, List.getElem?_eq_getElem hj]; exact (OwI.at_ h2 j hj).1
      · rintro e w' ⟨rfl, q, rfl⟩
        refine ⟨?_, ⟨q, rfl⟩⟩
        rw [List.take_length, List.take_length]
        congr 2
        rw [Bool.eq_iff_iff, beq_iff_eq, decide_eq_true_iff]
  · obtain ⟨A, c, rfl, -, -⟩ := h1.reads
    obtain ⟨A2, c2, rfl, -, -⟩ := h2.reads
    refine (Try.slices_Equal_int_lens A A2 xs.length c ys.length c2 w hl).mono ?_
    rintro e w' ⟨rfl, rfl⟩
    refine ⟨?_, Drawn0.refl _⟩
    rw [decide_eq_false]
    rintro rfl
    exact hl rfl

theorem search_calls (v : Value) (xs : List Int) (x : Int) (base : Nat) (w : World) (h1 : OwI 3 .i64 w base v xs) (hs : Rise xs) (hm : xs.length ≤ 1000000000) :
    Calls Try.prog 55 #[v, .int .i64 x] w fun e w' => (∃ n : Int, e = .returned (.tuple #[.int .i64 n, .bool (decide (x ∈ xs))])) ∧ Drawn0 w w' := by
  rcases Nat.eq_zero_or_pos xs.length with h0 | h0
  · obtain rfl := List.length_eq_zero_iff.1 h0
    obtain ⟨A, c, rfl, -, -⟩ := h1.reads
    refine (Try.slices_BinarySearch_int_empty A c x w).mono ?_
    rintro e w' ⟨rfl, hw⟩
    exact ⟨⟨_, rfl⟩, by rw [hw]; exact Drawn0.refl _⟩
  · obtain ⟨g, c, rfl, -, -, -⟩ := h1.form h0
    refine (Try.slices_BinarySearch_int g 0 xs.length c xs x w (Nat.le_refl _) (by omega) (fun j hj => ?_) (by rw [List.take_length]; exact hs.imp fun h => Int.le_of_lt h)).mono ?_
    · rw [Nat.zero_add, List.getD_eq_getElem?_getD, List.getElem?_eq_getElem hj]; exact (OwI.at_ h1 j hj).1
    · rintro e w' ⟨rfl, q, rfl⟩
      have hc : (xs.take xs.length).contains x = decide (x ∈ xs) := by rw [List.take_length]; simp
      exact ⟨⟨_, by rw [hc]⟩, ⟨q, rfl⟩⟩
end Go.Proofs.Ytaenincbmlcjiaa.SpanE
