/- law 13: a writer and a row that a law has made. -/
import Derived.Test.YtlbkdmggafkghaaDoorLaw13A
namespace Go.Proofs.YtlbkdmggafkghaaDoor.Law13B
open Go.RowKit Go.Proofs.YtlbkdmggafkghaaDoorW.PrintWords
open Go.Proofs.YtlbkdmggafkghaaDoor.Bits Go.Proofs.YtlbkdmggafkghaaDoor.Base Go.Proofs.YtlbkdmggafkghaaDoor.VarPure Go.Proofs.YtlbkdmggafkghaaDoor.TimesPure Go.Proofs.YtlbkdmggafkghaaDoor.VarbitA Go.Proofs.YtlbkdmggafkghaaDoor.VarbitD Go.Proofs.YtlbkdmggafkghaaDoor.StreamA Go.Proofs.YtlbkdmggafkghaaDoor.StreamR Go.Proofs.YtlbkdmggafkghaaDoor.VarKit Go.Proofs.YtlbkdmggafkghaaDoor.Ref01 Go.Proofs.YtlbkdmggafkghaaDoor.TimesA Go.Proofs.YtlbkdmggafkghaaDoor.TimesB Go.Proofs.YtlbkdmggafkghaaDoor.TimesL Go.Proofs.YtlbkdmggafkghaaDoor.Law13A

/-- a writer with bits and a row of int64 with numbers, of a law's own; O: other blocks. -/
def StS (O : Nat → Prop) (w0 w : World) (g gx : Nat) (b : List Bool) (l : List Nat) : Prop :=
  ∃ S : Nat → Prop, Wr w g S b ∧ RowS w gx l ∧ (∀ k, S k → w0.heap.size ≤ k) ∧ ¬ S gx ∧ w0.heap.size ≤ gx ∧ Below w0.heap.size w0 w ∧ ∀ k, O k → ¬ S k ∧ k ≠ gx ∧ k < w.heap.size
theorem putS_st {O : Nat → Prop} {w0 w : World} {g gx : Nat} {b : List Bool} {l : List Nat} (hT : Tab w0) (h : StS O w0 w g gx b l) (v : Nat) (hm : b.length ≤ 10000000000) (hv : v < 18446744073709551616) (hn : l.length < 1000000) :
    Calls Tryd.prog 39 #[.pointer (some ⟨gx, 0, none⟩), .pointer (some ⟨g, 0, none⟩), .int .i64 (i64 v)] w fun e w' => e = .returned (.tuple #[]) ∧ StS O w0 w' g gx (b ++ toldL true l v) (l ++ [v]) ∧ ∀ k, O k → w'.heap[k]? = w.heap[k]? := by
  obtain ⟨S, hw, hx, hS, hxs, hgx, hb, hO⟩ := h
  refine (putS_list g gx S b l v w (hT.below hb) (not_old hT fun k hk => hS k hk) hx hw hxs hm hv hn).mono ?_
  rintro e w' ⟨rfl, S', hw', hs', hx', hc'⟩
  refine ⟨rfl, ⟨S', hw', hx', ?_, ?_, hgx, two_new hb hb.size hS hgx hc', ?_⟩, ?_⟩
  · intro j hj
    rcases hs' j hj with h | h
    · exact hS j h
    · exact Nat.le_trans hb.size h
  · intro h
    rcases hs' _ h with h | h
    · exact hxs h
    · have := hx.lt; omega
  · intro k hk
    obtain ⟨h1, h2, h3⟩ := hO k hk
    refine ⟨fun h => ?_, h2, Nat.lt_of_lt_of_le h3 hc'.size⟩
    rcases hs' _ h with h | h
    · exact h1 h
    · omega
  · intro k hk
    obtain ⟨h1, h2, h3⟩ := hO k hk
    exact hc'.block k h3 (by rintro (h | h); exact h1 h; exact h2 h)
theorem stS_of {O : Nat → Prop} {w0 w : World} {g gx : Nat} {S : Nat → Prop} {b : List Bool} {l : List Nat} (hw : Wr w g S b) (hx : RowS w gx l) (hS : ∀ k, S k → w0.heap.size ≤ k) (hxs : ¬ S gx) (hgx : w0.heap.size ≤ gx) (hb : Below w0.heap.size w0 w)
    (hO : ∀ k, O k → ¬ S k ∧ k ≠ gx ∧ k < w.heap.size) : StS O w0 w g gx b l := ⟨S, hw, hx, hS, hxs, hgx, hb, hO⟩
theorem stS_below {O : Nat → Prop} {w0 w w' : World} {g gx : Nat} {b : List Bool} {l : List Nat} (h : StS O w0 w g gx b l) (hb : Below w.heap.size w w') : StS O w0 w' g gx b l := by
  obtain ⟨S, hw, hx, hS, hxs, hgx, hb0, hO⟩ := h
  exact ⟨S, hw.below hb, hx.below hb, hS, hxs, hgx, below_then hb0 hb0.size hb, fun k hk => ⟨(hO k hk).1, (hO k hk).2.1, Nat.lt_of_lt_of_le (hO k hk).2.2 hb.size⟩⟩
theorem stS_add {O : Nat → Prop} {w0 w w' : World} {g gx gc : Nat} {b : List Bool} {l : List Nat} (h : StS O w0 w g gx b l) (hb : Below w.heap.size w w') (hg : w.heap.size ≤ gc) (hlt : gc < w'.heap.size) : StS (fun j => O j ∨ j = gc) w0 w' g gx b l := by
  obtain ⟨S, hw, hx, hS, hxs, hgx, hb0, hO⟩ := stS_below h hb
  refine ⟨S, hw, hx, hS, hxs, hgx, hb0, ?_⟩
  obtain ⟨S2, hw2, hx2, -, -, -, -, -⟩ := h
  rintro k (hk | rfl)
  · exact hO k hk
  · refine ⟨fun hs => ?_, ?_, hlt⟩
    · obtain ⟨v, h1, _, _, h2⟩ := hw
      obtain ⟨v2, h3, h4, _, _⟩ := hw2
      have h5 := hb.block g (blk_lt h3)
      rw [h1, h3] at h5
      injection h5 with h5
      have h6 : v = v2 := by
        injection h5 with h5
        have := congrArg (fun a : Array Value => a[0]?) h5
        simpa using this
      subst h6
      rcases (h2 k).1 hs with rfl | hs
      · have := blk_lt h3; omega
      · have := h4.lt_ k hs; omega
    · rintro rfl
      have := hx2.lt; omega
theorem stS_weak {O O' : Nat → Prop} {w0 w : World} {g gx : Nat} {b : List Bool} {l : List Nat} (h : StS O w0 w g gx b l) (hO : ∀ k, O' k → O k) : StS O' w0 w g gx b l := by
  obtain ⟨S, hw, hx, hS, hxs, hgx, hb0, h1⟩ := h
  exact ⟨S, hw, hx, hS, hxs, hgx, hb0, fun k hk => h1 k (hO k hk)⟩

/-- a writer with bits and a row of uint64 with numbers, of a law's own; O: other blocks. -/
def StU (O : Nat → Prop) (w0 w : World) (g gx : Nat) (b : List Bool) (l : List Nat) : Prop :=
  ∃ S : Nat → Prop, Wr w g S b ∧ RowU w gx l ∧ (∀ k, S k → w0.heap.size ≤ k) ∧ ¬ S gx ∧ w0.heap.size ≤ gx ∧ Below w0.heap.size w0 w ∧ ∀ k, O k → ¬ S k ∧ k ≠ gx ∧ k < w.heap.size
theorem putU_st {O : Nat → Prop} {w0 w : World} {g gx : Nat} {b : List Bool} {l : List Nat} (hT : Tab w0) (h : StU O w0 w g gx b l) (v : Nat) (hm : b.length ≤ 10000000000) (hv : v < 18446744073709551616) (hn : l.length < 1000000) :
    Calls Tryd.prog 42 #[.pointer (some ⟨gx, 0, none⟩), .pointer (some ⟨g, 0, none⟩), .int .u64 v] w fun e w' => e = .returned (.tuple #[]) ∧ StU O w0 w' g gx (b ++ toldL false l v) (l ++ [v]) ∧ ∀ k, O k → w'.heap[k]? = w.heap[k]? := by
  obtain ⟨S, hw, hx, hS, hxs, hgx, hb, hO⟩ := h
  refine (putU_list g gx S b l v w (hT.below hb) (not_old hT fun k hk => hS k hk) hx hw hxs hm hv hn).mono ?_
  rintro e w' ⟨rfl, S', hw', hs', hx', hc'⟩
  refine ⟨rfl, ⟨S', hw', hx', ?_, ?_, hgx, two_new hb hb.size hS hgx hc', ?_⟩, ?_⟩
  · intro j hj
    rcases hs' j hj with h | h
    · exact hS j h
    · exact Nat.le_trans hb.size h
  · intro h
    rcases hs' _ h with h | h
    · exact hxs h
    · have := hx.lt; omega
  · intro k hk
    obtain ⟨h1, h2, h3⟩ := hO k hk
    refine ⟨fun h => ?_, h2, Nat.lt_of_lt_of_le h3 hc'.size⟩
    rcases hs' _ h with h | h
    · exact h1 h
    · omega
  · intro k hk
    obtain ⟨h1, h2, h3⟩ := hO k hk
    exact hc'.block k h3 (by rintro (h | h); exact h1 h; exact h2 h)
theorem stU_of {O : Nat → Prop} {w0 w : World} {g gx : Nat} {S : Nat → Prop} {b : List Bool} {l : List Nat} (hw : Wr w g S b) (hx : RowU w gx l) (hS : ∀ k, S k → w0.heap.size ≤ k) (hxs : ¬ S gx) (hgx : w0.heap.size ≤ gx) (hb : Below w0.heap.size w0 w)
    (hO : ∀ k, O k → ¬ S k ∧ k ≠ gx ∧ k < w.heap.size) : StU O w0 w g gx b l := ⟨S, hw, hx, hS, hxs, hgx, hb, hO⟩
theorem stU_below {O : Nat → Prop} {w0 w w' : World} {g gx : Nat} {b : List Bool} {l : List Nat} (h : StU O w0 w g gx b l) (hb : Below w.heap.size w w') : StU O w0 w' g gx b l := by
  obtain ⟨S, hw, hx, hS, hxs, hgx, hb0, hO⟩ := h
  exact ⟨S, hw.below hb, hx.below hb, hS, hxs, hgx, below_then hb0 hb0.size hb, fun k hk => ⟨(hO k hk).1, (hO k hk).2.1, Nat.lt_of_lt_of_le (hO k hk).2.2 hb.size⟩⟩
theorem stU_add {O : Nat → Prop} {w0 w w' : World} {g gx gc : Nat} {b : List Bool} {l : List Nat} (h : StU O w0 w g gx b l) (hb : Below w.heap.size w w') (hg : w.heap.size ≤ gc) (hlt : gc < w'.heap.size) : StU (fun j => O j ∨ j = gc) w0 w' g gx b l := by
  obtain ⟨S, hw, hx, hS, hxs, hgx, hb0, hO⟩ := stU_below h hb
  refine ⟨S, hw, hx, hS, hxs, hgx, hb0, ?_⟩
  obtain ⟨S2, hw2, hx2, -, -, -, -, -⟩ := h
  rintro k (hk | rfl)
  · exact hO k hk
  · refine ⟨fun hs => ?_, ?_, hlt⟩
    · obtain ⟨v, h1, _, _, h2⟩ := hw
      obtain ⟨v2, h3, h4, _, _⟩ := hw2
      have h5 := hb.block g (blk_lt h3)
      rw [h1, h3] at h5
      injection h5 with h5
      have h6 : v = v2 := by
        injection h5 with h5
        have := congrArg (fun a : Array Value => a[0]?) h5
        simpa using this
      subst h6
      rcases (h2 k).1 hs with rfl | hs
      · have := blk_lt h3; omega
      · have := h4.lt_ k hs; omega
    · rintro rfl
      have := hx2.lt; omega
theorem stU_weak {O O' : Nat → Prop} {w0 w : World} {g gx : Nat} {b : List Bool} {l : List Nat} (h : StU O w0 w g gx b l) (hO : ∀ k, O' k → O k) : StU O' w0 w g gx b l := by
  obtain ⟨S, hw, hx, hS, hxs, hgx, hb0, h1⟩ := h
  exact ⟨S, hw, hx, hS, hxs, hgx, hb0, fun k hk => h1 k (hO k hk)⟩
end Go.Proofs.YtlbkdmggafkghaaDoor.Law13B
