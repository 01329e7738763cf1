/- rows of numbers as lists: put, read again. -/
import Derived.Test.YtlbkdmggafkghaaDoorTimesB
namespace Go.Proofs.YtlbkdmggafkghaaDoor.TimesL
open Go.RowKit Go.Proofs.YtlbkdmggafkghaaDoorW.PrintWords
open Go.Proofs.YtlbkdmggafkghaaDoor.Bits Go.Proofs.YtlbkdmggafkghaaDoor.Base Go.Proofs.YtlbkdmggafkghaaDoor.VarPure Go.Proofs.YtlbkdmggafkghaaDoor.TimesPure Go.Proofs.YtlbkdmggafkghaaDoor.VarbitA Go.Proofs.YtlbkdmggafkghaaDoor.VarbitB Go.Proofs.YtlbkdmggafkghaaDoor.VarbitD Go.Proofs.YtlbkdmggafkghaaDoor.StreamA Go.Proofs.YtlbkdmggafkghaaDoor.StreamR Go.Proofs.YtlbkdmggafkghaaDoor.VarKit Go.Proofs.YtlbkdmggafkghaaDoor.TimesA Go.Proofs.YtlbkdmggafkghaaDoor.TimesB

def Nums (l : List Nat) : Prop := ∀ v ∈ l, v < 18446744073709551616
theorem Nums.nil : Nums [] := fun _ h => by cases h
theorem Nums.snoc {l : List Nat} {v : Nat} (h : Nums l) (hv : v < 18446744073709551616) : Nums (l ++ [v]) := fun u hu => by
  rcases List.mem_append.1 hu with h1 | h1
  · exact h u h1
  · rw [List.mem_singleton.1 h1]; exact hv
theorem lastOf_lt {l : List Nat} (h : Nums l) : lastOf l < 18446744073709551616 := by
  unfold lastOf
  cases hl : l.getLast? with
  | none => decide
  | some v => exact h v (List.mem_of_getLast? hl)
theorem stepOf_lt (l : List Nat) : stepOf l < 18446744073709551616 := by
  unfold stepOf; split
  · decide
  · exact sub64_lt _ _
/-- the bits of a number behind others are a group's. -/
theorem told_parse (sg : Bool) (l : List Nat) (v : Nat) (t : List Bool) (hl : Nums l) (hv : v < 18446744073709551616) :
    ∃ k x, parse (toldL sg l v ++ t) = some (k, x, t) ∧ readT sg (lastOf l) (stepOf l) l.length k x = some (v, stepTo (lastOf l) l.length v) ∧ (toldL sg l v).length = front k + behind k := by
  unfold toldL told
  by_cases h0 : l.length = 0
  · rw [if_pos h0]
    cases sg with
    | true =>
      have hir := i64_range v hv
      have hval := encS_val (i64 v) hir.1 hir.2
      refine ⟨_, _, parse_encS _ t, ?_, encS_length _⟩
      rw [readT, if_pos h0, if_pos rfl, okS, hval, stepTo, if_pos h0, u64_i64 v hv]
      simp
    | false =>
      have hval := encU_val v hv
      refine ⟨_, _, parse_encU _ t, ?_, encU_length _⟩
      rw [readT, if_pos h0, if_neg (by decide), okU, hval, stepTo, if_pos h0]
      simp
  · rw [if_neg h0]
    have hd := sub64_lt (sub64 v (lastOf l)) (stepOf l)
    have hir := i64_range _ hd
    have hval := encS_val (i64 (sub64 (sub64 v (lastOf l)) (stepOf l))) hir.1 hir.2
    refine ⟨_, _, parse_encS _ t, ?_, encS_length _⟩
    rw [readT, if_neg h0, okS, hval, stepTo, if_neg h0, u64_i64 _ hd, add_sub _ _ (sub64_lt _ _) (stepOf_lt l), add_sub _ _ hv (lastOf_lt hl)]
    simp
/-- what is read of bits has just these bits. -/
theorem read_told {sg : Bool} {l : List Nat} {q x t : List Bool} {k v st : Nat} (hl : Nums l) (hp : parse q = some (k, x, t)) (hr : readT sg (lastOf l) (stepOf l) l.length k x = some (v, st)) :
    q = toldL sg l v ++ t ∧ st = stepTo (lastOf l) l.length v := by
  obtain ⟨hk, hq, hx⟩ := parse_some hp
  have hvx : val x < 2 ^ behind k := by rw [← hx]; exact val_lt x
  have hsr := sgd_range (val x) k hk hvx
  have hen : ones k ++ x = enc k (val x) := by rw [enc, ← hx, nb_val]
  have hiu := i64_u64 _ hsr.1 hsr.2
  rw [← List.append_assoc, hen] at hq
  unfold readT at hr
  unfold toldL told stepTo
  by_cases h0 : l.length = 0
  · rw [if_pos h0] at hr
    rw [if_pos h0, if_pos h0]
    cases sg with
    | true =>
      simp only [if_true] at hr
      split at hr
      · rename_i ho
        injection hr with hr
        injection hr with h1 h2
        subst h1 h2
        simp only [if_true]
        rw [hiu, encS_sgd hk hx (of_decide_eq_true ho)]
        exact ⟨hq, trivial⟩
      · cases hr
    | false =>
      simp only [Bool.false_eq_true, if_false] at hr
      split at hr
      · rename_i ho
        injection hr with hr
        injection hr with h1 h2
        subst h1 h2
        simp only [Bool.false_eq_true, if_false]
        rw [encU, show gU (val x) = k from of_decide_eq_true ho]
        exact ⟨hq, trivial⟩
      · cases hr
  · rw [if_neg h0] at hr
    rw [if_neg h0, if_neg h0]
    split at hr
    · rename_i ho
      injection hr with hr
      injection hr with h1 h2
      subst h1 h2
      rw [sub_add _ _ (add64_lt _ _) (lastOf_lt hl), sub_add _ _ (u64_lt _) (stepOf_lt l), hiu, encS_sgd hk hx (of_decide_eq_true ho)]
      exact ⟨hq, rfl⟩
    · cases hr
theorem told_le (sg : Bool) (l : List Nat) (v : Nat) : (toldL sg l v).length ≤ 72 := by
  have hS : ∀ z, (encS z).length ≤ 72 := fun z => by
    rw [encS_length, front]
    have := gS_lt z
    have := behind_le (g := gS z)
    split <;> omega
  have hU : ∀ z, (encU z).length ≤ 72 := fun z => by
    rw [encU_length, front]
    have := gU_lt z
    have := behind_le (g := gU z)
    split <;> omega
  unfold toldL told
  split
  · split
    · exact hS _
    · exact hU _
  · exact hS _
theorem allL_le (sg : Bool) : ∀ (t l : List Nat), (allL sg l t).length ≤ 72 * t.length
  | [], _ => Nat.zero_le _
  | v :: t, l => by
    have h1 := allL_le sg t (l ++ [v])
    have h2 := told_le sg l v
    simp only [allL, List.length_append, List.length_cons]
    omega
theorem allL_drop (sg : Bool) (L : List Nat) (k : Nat) (h : k < L.length) : allL sg (L.take k) (L.drop k) = toldL sg (L.take k) L[k] ++ allL sg (L.take (k + 1)) (L.drop (k + 1)) := by
  rw [List.drop_eq_getElem_cons h, allL, List.take_succ_eq_append_getElem h]
theorem allL_take (sg : Bool) (L : List Nat) (k : Nat) (h : k < L.length) : allL sg [] (L.take (k + 1)) = allL sg [] (L.take k) ++ toldL sg (L.take k) L[k] := by
  rw [List.take_succ_eq_append_getElem h, allL_snoc, List.nil_append]

/-! ### rows of int64 -/
def RowS (w : World) (g : Nat) (l : List Nat) : Prop := TrS w g (lastOf l) (stepOf l) l.length ∧ Nums l
theorem RowS.ch {S : Nat → Prop} {w w' : World} {g : Nat} {l : List Nat} (h : RowS w g l) (hc : Ch S w w') (hs : ¬ S g) : RowS w' g l := ⟨h.1.ch hc hs, h.2⟩
theorem RowS.below {w w' : World} {g : Nat} {l : List Nat} (h : RowS w g l) (hb : Below w.heap.size w w') : RowS w' g l := ⟨h.1.below hb, h.2⟩
theorem RowS.lt {w : World} {g : Nat} {l : List Nat} (h : RowS w g l) : g < w.heap.size := h.1.lt
theorem newS_row (w : World) :
    Calls Tryd.prog 32 #[] w fun e w' => ∃ g, e = .returned (.pointer (some ⟨g, 0, none⟩)) ∧ RowS w' g [] ∧ w.heap.size ≤ g ∧ Below w.heap.size w w' :=
  (newS_calls w).mono fun _ _ ⟨h1, h2, h3⟩ => ⟨_, h1, ⟨h2, Nums.nil⟩, Nat.le_refl _, h3⟩
theorem putS_list (g gx : Nat) (S : Nat → Prop) (b : List Bool) (l : List Nat) (v : Nat) (w : World) (hT : Tab w) (hG : ¬ S 0) (hx : RowS w gx l) (hw : Wr w g S b) (hgx : ¬ S gx)
    (hm : b.length ≤ 10000000000) (hv : v < 18446744073709551616) (hn : l.length < 1000000) :
    Calls Tryd.prog 39 #[.pointer (some ⟨gx, 0, none⟩), .pointer (some ⟨g, 0, none⟩), .int .i64 (i64 v)] w fun e w' => e = .returned (.tuple #[]) ∧
      ∃ S', Wr w' g S' (b ++ toldL true l v) ∧ (∀ k, S' k → S k ∨ w.heap.size ≤ k) ∧ RowS w' gx (l ++ [v]) ∧ Ch (fun k => S k ∨ k = gx) w w' := by
  refine (putS_row g gx S b (lastOf l) (stepOf l) l.length v w hT hG hx.1 hw hgx hm hv hn).mono ?_
  rintro e w' ⟨rfl, S', h1, h2, h3, h4⟩
  refine ⟨rfl, S', h1, h2, ⟨?_, hx.2.snoc hv⟩, h4⟩
  rw [lastOf_snoc, stepOf_snoc, List.length_append, List.length_singleton]
  exact h3
theorem getS_list (g gx a : Nat) (S : Nat → Prop) (l : List Nat) (v : Nat) (t : List Bool) (w : World) (hT : Tab w) (hG : ¬ S 0) (hx : RowS w gx l) (hr : Rr w g S a (toldL true l v ++ t) false) (hgx : ¬ S gx) (hn : l.length < 1000000) (hv : v < 18446744073709551616) :
    Calls Tryd.prog 34 #[.pointer (some ⟨gx, 0, none⟩), .pointer (some ⟨g, 0, none⟩)] w fun e w' => e = .returned (.tuple #[.int .i64 (i64 v), .int .i64 0]) ∧ RowS w' gx (l ++ [v]) ∧ (∃ a', Rr w' g S a' t false) ∧ Ch (fun k => S k ∨ k = gx) w w' := by
  obtain ⟨k, x, hp, hrd, -⟩ := told_parse true l v t hx.2 hv
  refine (getS_row g gx a S _ (lastOf l) (stepOf l) l.length w hT hG hx.1 hr hgx hn).mono ?_
  rintro e w' ⟨hc, ⟨hp2, -⟩ | ⟨k2, x2, t2, hp2, hr2, hcase⟩⟩
  · rw [hp] at hp2; cases hp2
  · rw [hp] at hp2
    injection hp2 with hp2
    injection hp2 with ha hb
    injection hb with hb hd
    subst ha hb hd
    rcases hcase with ⟨h1, -⟩ | ⟨v2, st2, h1, he, h3, -, -⟩
    · rw [hrd] at h1; cases h1
    · rw [hrd] at h1
      injection h1 with h1
      injection h1 with h1 h2
      subst h1 h2
      refine ⟨he, ⟨?_, hx.2.snoc hv⟩, ⟨_, hr2⟩, hc⟩
      rw [lastOf_snoc, stepOf_snoc, List.length_append, List.length_singleton]
      exact h3

/-! ### rows of uint64 -/
def RowU (w : World) (g : Nat) (l : List Nat) : Prop := TrU w g (lastOf l) (stepOf l) l.length ∧ Nums l
theorem RowU.ch {S : Nat → Prop} {w w' : World} {g : Nat} {l : List Nat} (h : RowU w g l) (hc : Ch S w w') (hs : ¬ S g) : RowU w' g l := ⟨h.1.ch hc hs, h.2⟩
theorem RowU.below {w w' : World} {g : Nat} {l : List Nat} (h : RowU w g l) (hb : Below w.heap.size w w') : RowU w' g l := ⟨h.1.below hb, h.2⟩
theorem RowU.lt {w : World} {g : Nat} {l : List Nat} (h : RowU w g l) : g < w.heap.size := h.1.lt
theorem newU_row (w : World) :
    Calls Tryd.prog 33 #[] w fun e w' => ∃ g, e = .returned (.pointer (some ⟨g, 0, none⟩)) ∧ RowU w' g [] ∧ w.heap.size ≤ g ∧ Below w.heap.size w w' :=
  (newU_calls w).mono fun _ _ ⟨h1, h2, h3⟩ => ⟨_, h1, ⟨h2, Nums.nil⟩, Nat.le_refl _, h3⟩
theorem putU_list (g gx : Nat) (S : Nat → Prop) (b : List Bool) (l : List Nat) (v : Nat) (w : World) (hT : Tab w) (hG : ¬ S 0) (hx : RowU w gx l) (hw : Wr w g S b) (hgx : ¬ S gx)
    (hm : b.length ≤ 10000000000) (hv : v < 18446744073709551616) (hn : l.length < 1000000) :
    Calls Tryd.prog 42 #[.pointer (some ⟨gx, 0, none⟩), .pointer (some ⟨g, 0, none⟩), .int .u64 v] w fun e w' => e = .returned (.tuple #[]) ∧
      ∃ S', Wr w' g S' (b ++ toldL false l v) ∧ (∀ k, S' k → S k ∨ w.heap.size ≤ k) ∧ RowU w' gx (l ++ [v]) ∧ Ch (fun k => S k ∨ k = gx) w w' := by
  refine (putU_row g gx S b (lastOf l) (stepOf l) l.length v w hT hG hx.1 hw hgx hm hv hn).mono ?_
  rintro e w' ⟨rfl, S', h1, h2, h3, h4⟩
  refine ⟨rfl, S', h1, h2, ⟨?_, hx.2.snoc hv⟩, h4⟩
  rw [lastOf_snoc, stepOf_snoc, List.length_append, List.length_singleton]
  exact h3
theorem getU_list (g gx a : Nat) (S : Nat → Prop) (l : List Nat) (v : Nat) (t : List Bool) (w : World) (hT : Tab w) (hG : ¬ S 0) (hx : RowU w gx l) (hr : Rr w g S a (toldL false l v ++ t) false) (hgx : ¬ S gx) (hn : l.length < 1000000) (hv : v < 18446744073709551616) :
    Calls Tryd.prog 35 #[.pointer (some ⟨gx, 0, none⟩), .pointer (some ⟨g, 0, none⟩)] w fun e w' => e = .returned (.tuple #[.int .u64 v, .int .i64 0]) ∧ RowU w' gx (l ++ [v]) ∧ (∃ a', Rr w' g S a' t false) ∧ Ch (fun k => S k ∨ k = gx) w w' := by
  obtain ⟨k, x, hp, hrd, -⟩ := told_parse false l v t hx.2 hv
  refine (getU_row g gx a S _ (lastOf l) (stepOf l) l.length w hT hG hx.1 hr hgx hn).mono ?_
  rintro e w' ⟨hc, ⟨hp2, -⟩ | ⟨k2, x2, t2, hp2, hr2, hcase⟩⟩
  · rw [hp] at hp2; cases hp2
  · rw [hp] at hp2
    injection hp2 with hp2
    injection hp2 with ha hb
    injection hb with hb hd
    subst ha hb hd
    rcases hcase with ⟨h1, -⟩ | ⟨v2, st2, h1, he, h3, -, -⟩
    · rw [hrd] at h1; cases h1
    · rw [hrd] at h1
      injection h1 with h1
      injection h1 with h1 h2
      subst h1 h2
      refine ⟨he, ⟨?_, hx.2.snoc hv⟩, ⟨_, hr2⟩, hc⟩
      rw [lastOf_snoc, stepOf_snoc, List.length_append, List.length_singleton]
      exact h3
end Go.Proofs.YtlbkdmggafkghaaDoor.TimesL
