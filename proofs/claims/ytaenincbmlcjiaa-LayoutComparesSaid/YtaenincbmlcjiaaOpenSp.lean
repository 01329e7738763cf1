/- a law's argument that is a slice of pairs of numbers. -/
import Derived.Test.YtaenincbmlcjiaaSpanBase
import Derived.Deep.Slices
import Derived.Deep.Fields
import Derived.ChangeSame
namespace Go.Proofs.Ytaenincbmlcjiaa.OpenSp
open Go.RowKit Go.ChangeShapes Go.WideShapes Go.Deep
open Go.Proofs.Ytaenincbmlcjiaa.SpanPure Go.Proofs.Ytaenincbmlcjiaa.SpanBase

/-- a slice of spans that came in. -/
structure IsSps (w : World) (A : Option Addr) (len cap : Nat) (l : List Sp) : Prop where
  rd : RdSp w A l
  leq : l.length = len
  cle : len ≤ cap
  nil : A = none → cap = 0
  max : cap ≤ maxLen
  in64 : In64 l
theorem list_of {α : Type} {Q : Nat → α → Prop} (n : Nat) (h : ∀ i, i < n → ∃ p, Q i p) : ∃ l : List α, l.length = n ∧ ∀ (i : Nat) (hi : i < l.length), Q i l[i] := by
  induction n with
  | zero => exact ⟨[], rfl, fun i hi => absurd hi (by simp)⟩
  | succ n ih =>
    obtain ⟨l, h1, h2⟩ := ih fun i hi => h i (by omega)
    obtain ⟨p, hp⟩ := h n (by omega)
    refine ⟨l ++ [p], by simp [h1], fun i hi => ?_⟩
    rcases Nat.lt_or_ge i l.length with hl | hl
    · rw [List.getElem_append_left hl]; exact h2 i hl
    · have : i = l.length := by simp at hi; omega
      subst this
      rw [List.getElem_append_right (Nat.le_refl _)]
      simp only [Nat.sub_self, List.getElem_cons_zero]
      rw [h1]
      exact hp
theorem rd_of {w : World} {a : Addr} {l : List Sp} (h : ∀ (k : Nat) (hk : k < l.length), w.cell? (a.add (k * 2)) = some (.int .i64 l[k].1) ∧ w.cell? (a.add (k * 2 + 1)) = some (.int .i64 l[k].2)) : RdSp w (some a) l := by
  intro _
  refine ⟨a, rfl, fun j u hj => ?_⟩
  have hlt := (List.getElem?_eq_some_iff.1 hj).1
  rw [spc_length] at hlt
  have hk : j / 2 < l.length := by omega
  obtain ⟨g1, g2⟩ := spc_get l (j / 2) hk
  obtain ⟨c1, c2⟩ := h (j / 2) hk
  rcases Nat.mod_two_eq_zero_or_one j with hm | hm
  · have : j / 2 * 2 = j := by omega
    rw [this] at g1 c1
    rw [g1] at hj
    rw [c1, hj]
  · have : j / 2 * 2 + 1 = j := by omega
    rw [this] at g2 c2
    rw [g2] at hj
    rw [c2, hj]
section
variable {H : Type} {enc : TypeId × Value → H} {P : Program} {w : World} {base : Nat} {spare : Nat → Bool} {held : Bool}
theorem wf_i64 {n : Int} (h : (Lit.int .i64 n).wf = true) : -9223372036854775808 ≤ n ∧ n ≤ 9223372036854775807 := by
  simp [Lit.wf, IntKind.min, IntKind.max, IntKind.bits, IntKind.signed] at h
  omega
theorem open_pairs {t e : TypeId} {f0 f1 : Field} {fuel : Nat} {cs : List Value} {x : DataW H × List MemPlace} (ht : P.underlying t = some (.slice e)) (he : P.underlying e = some (.struct #[f0, f1]))
    (h0 : P.underlying f0.type = some (.int .i64)) (h1 : P.underlying f1.type = some (.int .i64)) (hone : oneCellFields P #[f0, f1] = true) (hC : P.cellsOf e = 2) (h : DataW.trod enc P w base spare held fuel t cs = some x) :
    ∃ (A : Option Addr) (len cap : Nat) (l : List Sp), cs = [.slice A len cap] ∧ IsSps w A len cap l := by
  rcases open_slice ht h with ⟨rfl, -⟩ | ⟨a, len, cap, m, n, D, Pl, rfl, hb, hl, hm, hmm, -, hi⟩
  · exact ⟨none, 0, 0, [], rfl, ⟨RdSp.nil _ _, rfl, Nat.le_refl _, fun _ => rfl, by decide, fun _ h => by cases h⟩⟩
  · obtain ⟨l, hll, hlc⟩ := list_of (Q := fun i (p : Sp) => w.cell? (a.add (i * 2)) = some (.int .i64 p.1) ∧ w.cell? (a.add (i * 2 + 1)) = some (.int .i64 p.2) ∧ (Lit.int .i64 p.1).wf = true ∧ (Lit.int .i64 p.2).wf = true) len fun i hil => by
      have him : i < m := by rw [hmm]; split <;> omega
      obtain ⟨cs', hc, ht'⟩ := hi i him
      rw [hC] at hc
      obtain ⟨ys, n', hn', hy, hlen, hyl, hf⟩ := DataW.trod_struct he ht'
      obtain ⟨_, hcl, hat⟩ := World.cells?_some hc
      obtain ⟨o0, k0⟩ := hone_of hone 0 f0 rfl
      obtain ⟨o1, k1⟩ := hone_of hone 1 f1 rfl
      have hone0 : (cs'.drop 0).take 1 = [cs'[0]'(by omega)] := by rw [List.drop_eq_getElem_cons (by omega)]; rfl
      have hone1 : (cs'.drop 1).take 1 = [cs'[1]'(by omega)] := by rw [List.drop_eq_getElem_cons (by omega)]; rfl
      have g0 := hf 0 f0 rfl
      have g1 := hf 1 f1 rfl
      rw [o0, k0, hone0] at g0
      rw [o1, k1, hone1] at g1
      rw [List.getElem?_eq_getElem (by rw [hyl]; simp)] at g0 g1
      obtain ⟨n0, e0, -, w0⟩ := DataW.trod_int h0 g0
      obtain ⟨n1, e1, -, w1⟩ := DataW.trod_int h1 g1
      refine ⟨(n0, n1), ?_, ?_, w0, w1⟩
      · have := hat 0 (by decide)
        rw [Go.Deep.add_add, Nat.add_zero] at this
        rw [this, List.getElem?_eq_getElem (by omega)]
        injection e0 with e0
        rw [e0]
      · have := hat 1 (by decide)
        rw [Go.Deep.add_add] at this
        rw [this, List.getElem?_eq_getElem (by omega)]
        injection e1 with e1
        rw [e1]
    refine ⟨some a, len, cap, l, rfl, ⟨rd_of fun k hk => ⟨(hlc k hk).1, (hlc k hk).2.1⟩, hll, hl, (fun h => by cases h), hm, fun s hs => ?_⟩⟩
    obtain ⟨k, hk, rfl⟩ := List.mem_iff_getElem.1 hs
    have h2 := hlc k hk
    have h3 := wf_i64 h2.2.2.1
    have h4 := wf_i64 h2.2.2.2
    exact ⟨h3.1, h3.2, h4.1, h4.2⟩
end
end Go.Proofs.Ytaenincbmlcjiaa.OpenSp
