/- errors of errors.New's make, and chains: errors.As, errors.Is, Code, Wrap, Closed. -/
import Derived.Test.YtjfekjbmgckkcaaGreatDoorFailB
namespace Go.Proofs.YtjfekjbmgckkcaaGreatDoor.FailC
open Go.RowKit Go.Extern.Stop Go.Stop Go.Extern Go.Proofs.YtjfekjbmgckkcaaGreatDoorW.PrintWords
open Go.Proofs.YtjfekjbmgckkcaaGreatDoor.Base Go.Proofs.YtjfekjbmgckkcaaGreatDoor.FailAs Go.Proofs.YtjfekjbmgckkcaaGreatDoor.FailB
theorem as_closed (a : Sn0) (t : Addr) (old : Value) (w : World) (_ : GlE w) (_ : w.cell? t = some old) :
    Calls Tryz.prog 123 #[.iface 0 (.pointer (some a.1)), .iface 184 (.pointer (some t))] w fun ev w' => ev = .returned (.bool false) ∧ Below w.heap.size w w' := a.2.elim
theorem code_closed (w : World) (a : Sn0) (_ : GlE w) : Calls Tryz.prog 50 #[.iface 0 (.pointer (some a.1))] w fun e w' => e = .returned (.int .i64 10) ∧ Below w.heap.size w w' := a.2.elim
/-- fail.Code. -/
theorem code_calls {v z : Value} {l : List Pl} {w : World} (h : Err w v l z) : Calls Tryz.prog 50 #[v] w fun e w' => e = .returned (.int .i64 (codeOf l z)) ∧ Below w.heap.size w w' := by
  obtain ⟨hc, hz, hg⟩ := h
  cases l with
  | nil =>
    rw [show v = z from hc]
    rcases hz with rfl | ⟨a, rfl⟩
    · exact code_nil w
    · exact code_closed w a hg
  | cons p t =>
    obtain ⟨g, u, rfl, hb, -⟩ := hc
    exact code_hit w g p u hg hb

/-! ### Wrap -/
theorem wrap_nil (nm : ByteArray) (n : Int) (w : World) : Calls Tryz.prog 162 #[.nilIface, .string nm, .int .i64 n] w fun e w' => e = .returned .nilIface ∧ w = w' := by
  go_enter Tryz.func162, Tryz.ntmps162
  go_wp2
  go_ret
  exact ⟨rfl, rfl⟩
set_option maxHeartbeats 1600000 in
theorem wrap_iface (T : Nat) (x : Value) (z : Value) (l : List Pl) (nm : ByteArray) (n : Int) (w : World) (h : Err w (.iface T x) l z) : Calls Tryz.prog 162 #[.iface T x, .string nm, .int .i64 n] w fun e w' => ∃ v, e = .returned v ∧ Err w' v (⟨codeOf l z, nm, n⟩ :: l) z ∧ Below w.heap.size w w' := by
  have HC := Lib.hid (code_calls h)
  have HE := Lib.hid h
  clear h
  generalize hc : codeOf l z = c at *
  have HCC := Lib.hid hc
  clear hc
  go_enter Tryz.func162, Tryz.ntmps162
  go_wp2_with (go_at_call 50; refine HC.out.mono ?_; rintro e w1 ⟨rfl, hb1⟩; have HB1 := Lib.hid hb1; clear hb1)
  go_ret
  have hb2 := below_alloc HB1.out (.cells #[.int .i64 c, .string nm, .int .i64 n, .iface T x] 186)
  exact ⟨_, rfl, ⟨⟨w1.heap.size, _, rfl, heap_alloc_new w1 _, (HE.out.below hb2).ch⟩, HE.out.z, (HE.out.below hb2).gl⟩, hb2⟩
/-- fail.Wrap of an error that isn't nil. -/
theorem wrap_calls {v z : Value} {l : List Pl} {w : World} (nm : ByteArray) (n : Int) (h : Err w v l z) (hn : l ≠ [] ∨ z ≠ .nilIface) :
    Calls Tryz.prog 162 #[v, .string nm, .int .i64 n] w fun e w' => ∃ u, e = .returned u ∧ Err w' u (⟨codeOf l z, nm, n⟩ :: l) z ∧ Below w.heap.size w w' := by
  cases l with
  | nil =>
    have hv : v = z := h.ch
    rcases h.z with hz | ⟨a, hz⟩
    · rcases hn with hn | hn
      · exact absurd rfl hn
      · exact absurd hz hn
    · subst hz; subst hv
      exact wrap_iface _ _ _ _ nm n w h
  | cons p t =>
    obtain ⟨g, u, e, hb, hr⟩ := h.ch
    subst e
    exact wrap_iface _ _ _ _ nm n w h
/-- Wrap(New(code), place, n) as each layer has it. -/
def plc (c : Int) (nm : ByteArray) (n : Int) : List Pl := if c = 0 then [] else [⟨c, nm, n⟩, ⟨c, ⟨#[]⟩, 0⟩]

end Go.Proofs.YtjfekjbmgckkcaaGreatDoor.FailC
