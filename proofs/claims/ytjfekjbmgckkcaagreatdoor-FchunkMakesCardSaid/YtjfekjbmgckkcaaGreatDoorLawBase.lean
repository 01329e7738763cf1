/- what a law's arguments are to its walk. -/
import Derived.Test.YtjfekjbmgckkcaaGreatDoorBase
import Derived.Test.YtjfekjbmgckkcaaGreatDoorProg
import Derived.ProofKit
import Derived.LaidMore
import Derived.Lib.LaidTab
namespace Go.Proofs.YtjfekjbmgckkcaaGreatDoor.LawBase
open Go.RowKit Go.Proofs.YtjfekjbmgckkcaaGreatDoorW.PrintWords Go.Proofs.YtjfekjbmgckkcaaGreatDoor.Bits Go.Proofs.YtjfekjbmgckkcaaGreatDoor.Base

/-- a slice of whole numbers that came in: nil, or a row of cap cells. -/
def IsRow (k : IntKind) (w : World) (a : Option Addr) (len cap : Nat) (zs : List Int) : Prop :=
  (a = none ∧ len = 0 ∧ cap = 0 ∧ zs = []) ∨
  ∃ x, a = some x ∧ len ≤ cap ∧ cap ≤ maxLen ∧ zs.length = cap ∧ (∀ i, i < zs.length → w.cell? (x.add i) = some (.int k (zs.getD i 0))) ∧ ∀ n ∈ zs, (Lit.int k n).wf = true

theorem IsRow.reads {k : IntKind} {w : World} {a : Option Addr} {len cap : Nat} {zs : List Int} (h : IsRow k w a len cap zs) :
    RdI k w a (zs.take len) ∧ (zs.take len).length = len ∧ len ≤ cap ∧ (a = none → cap = 0) ∧ (∀ n ∈ zs.take len, (Lit.int k n).wf = true) := by
  rcases h with ⟨rfl, rfl, rfl, rfl⟩ | ⟨x, rfl, h1, h2, h3, h4, h5⟩
  · exact ⟨RdI.nil _ _ _, rfl, Nat.le_refl _, fun _ => rfl, by simp⟩
  · have hl : (zs.take len).length = len := by rw [List.length_take]; omega
    refine ⟨⟨rfl, by unfold maxLen at h2; omega, fun _ => ⟨x, rfl, fun j hj => ?_⟩⟩, hl, h1, (by intro h; cases h), fun n hn => h5 n (List.mem_of_mem_take hn)⟩
    rw [h4 j (by omega)]
    rw [hl] at hj
    simp [List.getD_eq_getElem?_getD, hj]
theorem wf_u8 {n : Int} (h : (Lit.int .u8 n).wf = true) : 0 ≤ n ∧ n ≤ 255 := by
  simp [Lit.wf, IntKind.min, IntKind.max, IntKind.bits, IntKind.signed] at h
  omega
theorem IsRow.bytes {w : World} {a : Option Addr} {len cap : Nat} {zs : List Int} (h : IsRow .u8 w a len cap zs) :
    ∃ l : List UInt8, l.length = len ∧ RdB w a l ∧ len ≤ cap ∧ (a = none → cap = 0) := by
  obtain ⟨h1, h2, h3, h4, h5⟩ := h.reads
  obtain ⟨l, hl⟩ := ints_of (zs.take len) fun x hx => wf_u8 (h5 x hx)
  rw [hl] at h1 h2
  rw [ints_length] at h2
  exact ⟨l, h2, h1, h3, h4⟩
end Go.Proofs.YtjfekjbmgckkcaaGreatDoor.LawBase
