/- fail.Closed; the errors of a chain one by one: Depth, At. -/
import Derived.Test.YtjfekjbmgckkcaaDoorFailC
import Derived.OneCell
namespace Go.Proofs.YtjfekjbmgckkcaaDoor.FailD
open Go.RowKit Go.Extern.Stop Go.Stop Go.Extern Go.Proofs.YtjfekjbmgckkcaaDoorW.PrintWords
open Go.Proofs.YtjfekjbmgckkcaaDoor.Base Go.Proofs.YtjfekjbmgckkcaaDoor.FailAs Go.Proofs.YtjfekjbmgckkcaaDoor.FailB Go.Proofs.YtjfekjbmgckkcaaDoor.FailC

/-! ### errors.Is -/
theorem isMethodComparable (v : Value) (w : World) : (Go.method 274 130 v "Comparable").run Tryd.prog w = .ok (108, v) w := by kernel_rfl
theorem hasUnwrapP (v : Value) (xT : TypeId) (w : World) : (Instr.typeAssert (.iface 87 v) xT 138 true).run Tryd.prog w = .ok (.tuple #[.iface 87 v, .bool true]) w := run_typeAssert_hasB Tryd.underlying138 (by kernel_rfl) v xT w
theorem methodUnwrap (v : Value) (w : World) : (Go.method 274 87 v "Unwrap").run Tryd.prog w = .ok (102, v) w := by kernel_rfl
theorem unwrap_calls (w : World) (g : Nat) (p : Pl) (u : Value) (hc : w.heap[g]? = some (.cells #[.int .i64 p.code, .string p.name, .int .i64 p.at_, u] 89 (0, 0))) :
    Calls Tryd.prog 102 #[.pointer (some ⟨g, 0, none⟩)] w fun e w' => e = .returned u ∧ w = w' := by
  have h2 : w.cell? ⟨g, 3, none⟩ = some u := by simp [World.cell?, hc]
  go_enter Tryd.func102, Tryd.ntmps102
  go_wp2
  go_ret
  exact ⟨rfl, rfl⟩
/-- what errors.is compares: is z the sentinel at a? -/
def isz (z : Value) : Bool := match z with
  | .nilIface => false
  | _ => true
theorem err_form {w : World} {l : List Pl} {v z : Value} (h : ErrC w v l z) (hz : EndZ z) : (v = .nilIface ∧ l = [] ∧ z = .nilIface) ∨ ∃ T x, v = .iface T x := by
  cases l with
  | nil =>
    rw [show v = z from h]
    rcases hz with rfl | ⟨a, rfl⟩
    · exact .inl ⟨rfl, rfl, rfl⟩
    · exact .inr ⟨_, _, rfl⟩
  | cons p t =>
    obtain ⟨g, u, h1, -⟩ := h
    exact .inr ⟨_, _, h1⟩
end Go.Proofs.YtjfekjbmgckkcaaDoor.FailD
