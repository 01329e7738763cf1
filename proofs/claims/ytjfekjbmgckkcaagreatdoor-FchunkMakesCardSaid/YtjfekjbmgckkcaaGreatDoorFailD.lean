/- fail.Closed; the errors of a chain one by one: Depth, At. -/
import Derived.Test.YtjfekjbmgckkcaaGreatDoorFailC
import Derived.OneCell
namespace Go.Proofs.YtjfekjbmgckkcaaGreatDoor.FailD
open Go.RowKit Go.Extern.Stop Go.Stop Go.Extern Go.Proofs.YtjfekjbmgckkcaaGreatDoorW.PrintWords
open Go.Proofs.YtjfekjbmgckkcaaGreatDoor.Base Go.Proofs.YtjfekjbmgckkcaaGreatDoor.FailAs Go.Proofs.YtjfekjbmgckkcaaGreatDoor.FailB Go.Proofs.YtjfekjbmgckkcaaGreatDoor.FailC

/-! ### errors.Is -/
theorem isMethodComparable (v : Value) (w : World) : (Go.method 473 290 v "Comparable").run Tryz.prog w = .ok (280, v) w := by kernel_rfl
theorem hasUnwrapP (v : Value) (xT : TypeId) (w : World) : (Instr.typeAssert (.iface 182 v) xT 298 true).run Tryz.prog w = .ok (.tuple #[.iface 182 v, .bool true]) w := run_typeAssert_hasB Tryz.underlying298 (by kernel_rfl) v xT w
theorem methodUnwrap (v : Value) (w : World) : (Go.method 473 182 v "Unwrap").run Tryz.prog w = .ok (273, v) w := by kernel_rfl
theorem unwrap_calls (w : World) (g : Nat) (p : Pl) (u : Value) (hc : w.heap[g]? = some (.cells #[.int .i64 p.code, .string p.name, .int .i64 p.at_, u] 186 (0, 0))) :
    Calls Tryz.prog 273 #[.pointer (some ⟨g, 0, none⟩)] w fun e w' => e = .returned u ∧ w = w' := by
  have h2 : w.cell? ⟨g, 3, none⟩ = some u := by simp [World.cell?, hc]
  go_enter Tryz.func273, Tryz.ntmps273
  go_wp2
  go_ret
  exact ⟨rfl, rfl⟩
/-- what errors.is compares: is z the sentinel at a? -/
def isz (z : Value) : Bool := match z with
  | .nilIface => false
  | _ => true
theorem err_form {w : World} {l : List Pl} {v z : Value} (h : ErrC w v l z) (hz : EndZ z) : (v = .nilIface ∧ l = [] ∧ z = .nilIface) ∨ ∃ T x, v = .iface T x := by
  cases l with
  | nil =>
    rw [show v = z from h]
    rcases hz with rfl | ⟨a, rfl⟩
    · exact .inl ⟨rfl, rfl, rfl⟩
    · exact .inr ⟨_, _, rfl⟩
  | cons p t =>
    obtain ⟨g, u, h1, -⟩ := h
    exact .inr ⟨_, _, h1⟩
end Go.Proofs.YtjfekjbmgckkcaaGreatDoor.FailD
