/- fail.Closed; the errors of a chain one by one: Depth, At. -/
import Derived.Test.YtaenincbmlcjiaaDoorFailC
import Derived.OneCell
namespace Go.Proofs.YtaenincbmlcjiaaDoor.FailD
open Go.RowKit Go.Extern.Stop Go.Stop Go.Extern Go.Proofs.YtaenincbmlcjiaaDoorW.PrintWords
open Go.Proofs.YtaenincbmlcjiaaDoor.Base Go.Proofs.YtaenincbmlcjiaaDoor.FailAs Go.Proofs.YtaenincbmlcjiaaDoor.FailB Go.Proofs.YtaenincbmlcjiaaDoor.FailC

/-! ### errors.Is -/
theorem isComparable (w : World) : ((Extern.ReflectliteType.method fun t => do Rtype.noPackHeld "Comparable" t; (fun a => Value.bool a.comparable) <$> typeInfo t) #[.agg #[.pointer (some ⟨5, 110, none⟩)]]).run Tryd.prog w = .ok (.bool true) w := by kernel_rfl
theorem isMethodComparable (v : Value) (w : World) : (Go.method 242 79 v "Comparable").run Tryd.prog w = .ok (72, v) w := by kernel_rfl
theorem isComp : (Tryd.prog.info? 110).map (·.comparable) = some true := by kernel_rfl
theorem isSize : (Tryd.prog.info? 130).map (·.size) = some 1 := by kernel_rfl
theorem noIsP (v : Value) (xT : TypeId) (w : World) : (Instr.typeAssert (.iface 50 v) xT 90 true).run Tryd.prog w = .ok (.tuple #[.nilIface, .bool false]) w := run_typeAssert_lacksB Tryd.underlying90 (by kernel_rfl) (by kernel_rfl) v xT w
theorem hasUnwrapP (v : Value) (xT : TypeId) (w : World) : (Instr.typeAssert (.iface 50 v) xT 86 true).run Tryd.prog w = .ok (.tuple #[.iface 50 v, .bool true]) w := run_typeAssert_hasB Tryd.underlying86 (by kernel_rfl) v xT w
theorem methodUnwrap (v : Value) (w : World) : (Go.method 242 50 v "Unwrap").run Tryd.prog w = .ok (19, v) w := by kernel_rfl
theorem unwrap_calls (w : World) (g : Nat) (p : Pl) (u : Value) (hc : w.heap[g]? = some (.cells #[.int .i64 p.code, .string p.name, .int .i64 p.at_, u] 54 (0, 0))) :
    Calls Tryd.prog 19 #[.pointer (some ⟨g, 0, none⟩)] w fun e w' => e = .returned u ∧ w = w' := by
  have h2 : w.cell? ⟨g, 3, none⟩ = some u := by simp [World.cell?, hc]
  go_enter Tryd.func19, Tryd.ntmps19
  go_wp2
  go_ret
  exact ⟨rfl, rfl⟩
/-- what errors.is compares: is z the sentinel at a? -/
def isz (z : Value) : Bool := match z with
  | .nilIface => false
  | _ => true
theorem err_form {w : World} {l : List Pl} {v z : Value} (h : ErrC w v l z) (hz : EndZ z) : (v = .nilIface ∧ l = [] ∧ z = .nilIface) ∨ ∃ T x, v = .iface T x := by
  cases l with
  | nil =>
    rw [show v = z from h]
    rcases hz with rfl | ⟨a, rfl⟩
    · exact .inl ⟨rfl, rfl, rfl⟩
    · exact .inr ⟨_, _, rfl⟩
  | cons p t =>
    obtain ⟨g, u, h1, -⟩ := h
    exact .inr ⟨_, _, h1⟩
/-- within all of them is nothing, or the sentinel at a. -/
def EndA (z : Value) (a : Addr) : Prop := z = .nilIface ∨ z = .iface 110 (.pointer (some a))
theorem EndA.z {z : Value} {a : Addr} (h : EndA z a) : EndZ z := h.elim .inl fun h => .inr ⟨a, h⟩
set_option maxRecDepth 100000 in
set_option maxHeartbeats 4000000 in
theorem is_loop (a : Addr) (T : Nat) (x z : Value) (l : List Pl) (w : World) (h : ErrC w (.iface T x) l z) (hz : EndA z a) :
    Calls Tryd.prog 34 #[.iface T x, .iface 110 (.pointer (some a)), .bool true] w fun e w' => e = .returned (.bool (isz z)) ∧ w = w' := by
  obtain ⟨i, hi, hcmp⟩ := Option.map_eq_some_iff.1 isComp
  obtain ⟨j, hj, hjs⟩ := Option.map_eq_some_iff.1 isSize
  have nI := noIsP
  have uP := hasUnwrapP
  have mU := methodUnwrap
  have heq := run_eql_iface_ptr_same (P := Tryd.prog) w a Tryd.underlying27 Tryd.underlying110 hi hcmp hj
  have hty := fun (p : Addr) => run_eql_iface_types (P := Tryd.prog) 50 110 (.pointer (some p)) (.pointer (some a)) Tryd.underlying27 (by decide) w
  have HI := Lib.hid hi
  have HJ := Lib.hid hj
  have HZ := Lib.hid hz
  have HE := Lib.hid h
  clear hi hj hjs hcmp hz h
  go_enter Tryd.func34, Tryd.ntmps34
  go_wp2
  go_loopg [0] (l.length + 1) (fun k v wr => wr = w ∧ ∃ (t : List Pl) (T : Nat) (x : Value), k = t.length + 1 ∧ v = .iface T x ∧ Hid (ErrC w v t z))
  case atStart => exact ⟨rfl, l, T, x, rfl, rfl, HE⟩
  case round =>
    obtain ⟨rfl, t, T, x, rfl, rfl, hc⟩ := hrel
    cases t with
    | nil =>
      have hc := hc.out
      rcases HZ.out with rfl | rfl
      · cases hc
      · injection hc with h1 h2
        subst h1 h2
        have HF : Hid (isz (Value.iface 110 (.pointer (some a))) = true) := Lib.hid rfl
        clear HE hty
        go_wp2
        go_ret
        exact ⟨by rw [HF.out]; rfl, rfl⟩
    | cons p t =>
      obtain ⟨g, u, h1, hb, hr⟩ := hc.out
      injection h1 with h1 h2
      subst h1 h2
      have HU := Lib.hid (unwrap_calls _ g p u hb)
      have hty := hty ⟨g, 0, none⟩
      have HR := Lib.hid hr
      have hfm := err_form hr HZ.out.z
      clear hc hb hr HE heq
      rcases hfm with ⟨rfl, rfl, rfl⟩ | ⟨T, x, rfl⟩
      · have HF : Hid (isz Value.nilIface = false) := Lib.hid rfl
        go_wp2_with (go_at_call 19; refine HU.out.mono ?_; rintro e w' ⟨rfl, rfl⟩)
        go_ret
        exact ⟨by rw [HF.out]; rfl, rfl⟩
      · go_wp2_with (go_at_call 19; refine HU.out.mono ?_; rintro e w' ⟨rfl, rfl⟩)
        go_roundg (t.length + 1)
        case measure => simp
        case rel => exact ⟨rfl, t, T, x, rfl, rfl, HR⟩
/-- errors.Is against the sentinel at a. -/
theorem is_calls {v z : Value} {l : List Pl} {w : World} {a : Addr} (h : ErrC w v l z) (hz : EndA z a) :
    Calls Tryd.prog 25 #[v, .iface 110 (.pointer (some a))] w fun e w' => e = .returned (.bool (isz z)) ∧ w = w' := by
  rcases err_form h hz.z with ⟨rfl, rfl, rfl⟩ | ⟨T, x, rfl⟩
  · have HF : Hid (isz Value.nilIface = false) := Lib.hid rfl
    have hn := run_eql_iface_nil_left (P := Tryd.prog) w 110 (.pointer (some a)) Tryd.underlying27
    clear h hz
    go_enter Tryd.func25, Tryd.ntmps25
    go_wp2
    go_ret
    exact ⟨by rw [HF.out]; rfl, rfl⟩
  · have HL := Lib.hid (is_loop a T x z l w h hz)
    have h8 := @run_callFunc_extern Tryd.prog 33 _ Extern.ReflectliteType.typeOf Tryd.func33 (by kernel_rfl) (by kernel_rfl) (by kernel_rfl) (by kernel_rfl)
    have h32 := @run_callFunc_extern Tryd.prog 72 _ (Extern.ReflectliteType.method fun t => do Rtype.noPackHeld "Comparable" t; pure (.bool (← typeInfo t).comparable)) Tryd.func72 (by kernel_rfl) (by kernel_rfl) (by kernel_rfl) (by kernel_rfl)
    have tT := typeOfS
    have cT := isComparable
    have mR := isMethodComparable
    clear h hz
    go_enter Tryd.func25, Tryd.ntmps25
    go_wp2_with (go_at_call 34; refine HL.out.mono ?_; rintro e w' ⟨rfl, rfl⟩)
    go_ret
    exact ⟨rfl, rfl⟩
/-- the sentinel's variable. -/
def GlC (w : World) (a : Addr) : Prop := w.cell? ⟨0, 0, none⟩ = some (.iface 110 (.pointer (some a)))
theorem glc_below {w w' : World} {a : Addr} (h : GlC w a) (hb : Below w.heap.size w w') : GlC w' a := (hb.cell (p := ⟨0, 0, none⟩) (cell_lt h)).trans h
theorem closed_calls {v z : Value} {l : List Pl} {w : World} {a : Addr} (h : ErrC w v l z) (hz : EndA z a) (hg : GlC w a) :
    Calls Tryd.prog 15 #[v] w fun e w' => e = .returned (.bool (isz z)) ∧ w = w' := by
  have HI := Lib.hid (is_calls h hz)
  unfold GlC at hg
  clear h hz
  go_enter Tryd.func15, Tryd.ntmps15
  go_wp2_with (go_at_call 25; refine HI.out.mono ?_; rintro e w' ⟨rfl, rfl⟩)
  go_ret
  exact ⟨rfl, rfl⟩
end Go.Proofs.YtaenincbmlcjiaaDoor.FailD
