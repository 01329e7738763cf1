/- what is read from bits: an error's number, a value, how many bits it has, what is left; in one form for all readers. -/
import Derived.Test.YtjfekjbmgckkcaaGreatDoorVarbitD
namespace Go.Proofs.YtjfekjbmgckkcaaGreatDoor.ReadP
open Go.RowKit Go.Proofs.YtjfekjbmgckkcaaGreatDoorW.PrintWords
open Go.Proofs.YtjfekjbmgckkcaaGreatDoor.Bits Go.Proofs.YtjfekjbmgckkcaaGreatDoor.Base Go.Proofs.YtjfekjbmgckkcaaGreatDoor.VarPure Go.Proofs.YtjfekjbmgckkcaaGreatDoor.VarbitA Go.Proofs.YtjfekjbmgckkcaaGreatDoor.VarbitD Go.Proofs.YtjfekjbmgckkcaaGreatDoor.StreamR

structure PR (α : Type) where
  err : Nat
  val : α
  used : Nat
  rest : List Bool
/-- what a reading hands back. -/
def RP {α : Type} (F : α → Value → World → Prop) (r : PR α) (g a : Nat) (S : Nat → Prop) (w : World) (e : Ending) (w' : World) : Prop :=
  Ch S w w' ∧ (∃ v, e = .returned (.tuple #[v, .int .i64 r.err]) ∧ F r.val v w') ∧
    ((r.err ≠ 0 ∧ ∃ a' q' sh, Rr w' g S a' q' sh) ∨ (r.err = 0 ∧ Rr w' g S (a + r.used) r.rest false))
def pU (q : List Bool) : PR Nat := match parse q with
  | none => ⟨16, 0, 0, []⟩
  | some (k, x, t) => if okU k x then ⟨0, Bits.val x, front k + behind k, t⟩ else ⟨10, 0, 0, []⟩
def pS (q : List Bool) : PR Int := match parse q with
  | none => ⟨16, 0, 0, []⟩
  | some (k, x, t) => if okS k x then ⟨0, sgd (Bits.val x) (behind k), front k + behind k, t⟩ else ⟨10, 0, 0, []⟩
def IsU (n : Nat) (v : Value) (_ : World) : Prop := v = .int .u64 n
def IsS (n : Int) (v : Value) (_ : World) : Prop := v = .int .i64 n
theorem getU_reads (g a : Nat) (S : Nat → Prop) (q : List Bool) (w : World) (hT : Tab w) (hG : ¬ S 1) (h : Rr w g S a q false) :
    Calls Tryz.prog 160 #[.pointer (some ⟨g, 0, none⟩)] w (RP IsU (pU q) g a S w) := by
  refine (getU_calls g a S q w hT hG h).mono ?_
  rintro e w' ⟨hc, ⟨hp, rfl, a', hr⟩ | ⟨k, x, t, hp, rfl, hr⟩⟩
  · have e : pU q = ⟨16, 0, 0, []⟩ := by unfold pU; rw [hp]
    rw [e]
    exact ⟨hc, ⟨_, rfl, rfl⟩, .inl ⟨by decide, _, _, _, hr⟩⟩
  · cases hk : okU k x with
    | true =>
      have e : pU q = ⟨0, Bits.val x, front k + behind k, t⟩ := by unfold pU; rw [hp]; exact if_pos hk
      rw [e]
      rw [Nat.add_assoc] at hr
      exact ⟨hc, ⟨.int .u64 (Bits.val x : Nat), by simp only [hk]; rfl, rfl⟩, .inr ⟨rfl, hr⟩⟩
    | false =>
      have e : pU q = ⟨10, 0, 0, []⟩ := by unfold pU; rw [hp]; exact if_neg (by simp [hk])
      rw [e]
      exact ⟨hc, ⟨.int .u64 0, by simp only [hk]; rfl, rfl⟩, .inl ⟨by decide, _, _, _, hr⟩⟩
theorem getS_reads (g a : Nat) (S : Nat → Prop) (q : List Bool) (w : World) (hT : Tab w) (hG : ¬ S 1) (h : Rr w g S a q false) :
    Calls Tryz.prog 158 #[.pointer (some ⟨g, 0, none⟩)] w (RP IsS (pS q) g a S w) := by
  refine (getS_calls g a S q w hT hG h).mono ?_
  rintro e w' ⟨hc, ⟨hp, rfl, a', hr⟩ | ⟨k, x, t, hp, rfl, hr⟩⟩
  · have e : pS q = ⟨16, 0, 0, []⟩ := by unfold pS; rw [hp]
    rw [e]
    exact ⟨hc, ⟨_, rfl, rfl⟩, .inl ⟨by decide, _, _, _, hr⟩⟩
  · cases hk : okS k x with
    | true =>
      have e : pS q = ⟨0, sgd (Bits.val x) (behind k), front k + behind k, t⟩ := by unfold pS; rw [hp]; exact if_pos hk
      rw [e]
      rw [Nat.add_assoc] at hr
      exact ⟨hc, ⟨.int .i64 (sgd (Bits.val x) (behind k)), by simp only [hk]; rfl, rfl⟩, .inr ⟨rfl, hr⟩⟩
    | false =>
      have e : pS q = ⟨10, 0, 0, []⟩ := by unfold pS; rw [hp]; exact if_neg (by simp [hk])
      rw [e]
      exact ⟨hc, ⟨.int .i64 0, by simp only [hk]; rfl, rfl⟩, .inl ⟨by decide, _, _, _, hr⟩⟩
end Go.Proofs.YtjfekjbmgckkcaaGreatDoor.ReadP
