/- the reference of layer 4: the number at the beginning of a text of bits. -/
import Derived.Test.YtjfekjbmgckkcaaDoorRef04
import Derived.Deep.RegionHeld3
namespace Go.Proofs.YtjfekjbmgckkcaaDoor.Ref04
open Go.RowKit Go.Proofs.YtjfekjbmgckkcaaDoorW.PrintWords
open Go.Proofs.YtjfekjbmgckkcaaDoor.Bits Go.Proofs.YtjfekjbmgckkcaaDoor.Base Go.Proofs.YtjfekjbmgckkcaaDoor.VarPure Go.Proofs.YtjfekjbmgckkcaaDoor.Ref01

theorem lead_spec (l : List Bool) : (∀ j, j < lead 8 l → ∃ h : j < l.length, l[j] = true) ∧ lead 8 l ≤ l.length ∧ (lead 8 l < 8 → lead 8 l < l.length → ∃ h : lead 8 l < l.length, l[lead 8 l] = false) := by
  have hh : ∀ (n : Nat) (y : List Bool), l = List.replicate n true ++ y → (∀ j, j < n → ∃ h : j < l.length, l[j] = true) ∧ n ≤ l.length := by
    intro n y hy
    have hl : l.length = n + y.length := by rw [hy, List.length_append, List.length_replicate]
    refine ⟨fun j hj => ⟨by omega, ?_⟩, by omega⟩
    have : l[j]? = some true := by rw [hy, List.getElem?_append_left (by simpa using hj), List.getElem?_replicate, if_pos hj]
    exact (List.getElem?_eq_some_iff.1 this).2
  rcases lead_split 8 l with ⟨h1, h2⟩ | ⟨y, hy⟩
  · obtain ⟨h3, h4⟩ := hh _ [] (by rw [List.append_nil]; exact h1)
    refine ⟨h3, h4, fun _ h5 => ?_⟩
    have := congrArg List.length h1
    rw [List.length_replicate] at this
    omega
  · obtain ⟨h3, h4⟩ := hh _ _ hy
    refine ⟨h3, h4, fun h5 h6 => ⟨h6, ?_⟩⟩
    obtain ⟨K, hK⟩ : ∃ K, K = lead 8 l := ⟨_, rfl⟩
    simp only [← hK] at hy h5 ⊢
    have : l[K]? = some false := by
      rw [hy, List.getElem?_append_right (by simp), List.length_replicate, if_pos h5, Nat.sub_self]
      rfl
    exact (List.getElem?_eq_some_iff.1 this).2

theorem cut_str {P : Program} (t : TypeId) (ht : P.underlying t = some .string) (s : ByteArray) (i j : Int) (h0 : 0 ≤ i) (h1 : i ≤ j) (h2 : j ≤ s.size) (w : World) :
    (Instr.slice t (.string s) (some (.int .i64 i)) (some (.int .i64 j)) none).run P w = .ok (.string (s.extract i.toNat j.toNat)) w := by
  exact run_slice_string w t s .i64 .i64 i j ht h0 h1 h2

end Go.Proofs.YtjfekjbmgckkcaaDoor.Ref04
