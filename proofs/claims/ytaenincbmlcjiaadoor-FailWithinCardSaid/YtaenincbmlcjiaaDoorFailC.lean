/- errors of errors.New's make, and chains: errors.As, errors.Is, Code, Wrap, Closed. -/
import Derived.Test.YtaenincbmlcjiaaDoorFailB
namespace Go.Proofs.YtaenincbmlcjiaaDoor.FailC
open Go.RowKit Go.Extern.Stop Go.Stop Go.Extern Go.Proofs.YtaenincbmlcjiaaDoorW.PrintWords
open Go.Proofs.YtaenincbmlcjiaaDoor.Base Go.Proofs.YtaenincbmlcjiaaDoor.FailAs Go.Proofs.YtaenincbmlcjiaaDoor.FailB

set_option maxHeartbeats 4000000 in
theorem as_closed (a t : Addr) (old : Value) (w : World) (hg : GlE w) (ht0 : w.cell? t = some old) :
    Calls Tryd.prog 21 #[.iface 110 (.pointer (some a)), .iface 58 (.pointer (some t))] w fun ev w' => ev = .returned (.bool false) ∧ Below w.heap.size w w' := by
  unfold GlE at hg
  have h6 := @run_callFunc_extern Tryd.prog 29 _ (fun args => ReflectliteValue.unpack (args.getD 0 (.tuple #[]))) Tryd.func29 (by kernel_rfl) (by kernel_rfl) (by kernel_rfl) (by kernel_rfl)
  have h7 := @run_callFunc_extern Tryd.prog 30 _ (ReflectliteValue.methodAny (ReflectliteValue.valueError "reflectlite.Value.Type" 0) (fun t _ _ _ => ReflectliteType.toType t)) Tryd.func30 (by kernel_rfl) (by kernel_rfl) (by kernel_rfl) (by kernel_rfl)
  have h8 := @run_callFunc_extern Tryd.prog 31 _ (ReflectliteValue.method (ReflectliteValue.valueError "reflectlite.Value.IsNil" 0) ReflectliteValue.isNil) Tryd.func31 (by kernel_rfl) (by kernel_rfl) (by kernel_rfl) (by kernel_rfl)
  have h27 := @run_callFunc_extern Tryd.prog 64 _ (ReflectliteType.abiMethod fun t => do pure (.int .u8 (← Rtype.kind t))) Tryd.func64 (by kernel_rfl) (by kernel_rfl) (by kernel_rfl) (by kernel_rfl)
  have h37 := @run_callFunc_extern Tryd.prog 73 _ (ReflectliteType.method ReflectliteType.elem) Tryd.func73 (by kernel_rfl) (by kernel_rfl) (by kernel_rfl) (by kernel_rfl)
  have h38 := @run_callFunc_extern Tryd.prog 74 _ (ReflectliteType.relation "Implements" ReflectliteType.implements_) Tryd.func74 (by kernel_rfl) (by kernel_rfl) (by kernel_rfl) (by kernel_rfl)
  have h10 := @run_callFunc_extern Tryd.prog 33 _ ReflectliteType.typeOf Tryd.func33 (by kernel_rfl) (by kernel_rfl) (by kernel_rfl) (by kernel_rfl)
  have h35 := @run_callFunc_extern Tryd.prog 71 _ (ReflectliteType.relation "AssignableTo" ReflectliteType.assignableTo) Tryd.func71 (by kernel_rfl) (by kernel_rfl) (by kernel_rfl) (by kernel_rfl)
  have tO := typeOfS
  have mA := methodAssignableTo
  have a25 := assignableS
  have f6 := valueOfPP
  have f7 := typePP
  have mK := methodKind
  have mE := methodElem
  have mI := methodImplements
  have k27 := kindPP
  have k25 := kindP
  have e27 := elemPP
  have i25 := implementsP
  have nA := noAsS
  have nU := noUnwrapS
  have nV := noUnwrapsS
  have n8 := isNilPP ⟨w.heap.size, 0, none⟩ t ((w.alloc (.cells #[.pointer (some t)] 58)).alloc (.cells #[.pointer (some ⟨5, 58, none⟩), .pointer (some ⟨w.heap.size, 0, none⟩), .int .u64 150] 67)) (by simp)
  have hlt : 1 < w.heap.size := cell_lt hg
  have hg2 : ((w.alloc (.cells #[.pointer (some t)] 58)).alloc (.cells #[.pointer (some ⟨5, 58, none⟩), .pointer (some ⟨w.heap.size, 0, none⟩), .int .u64 150] 67)).cell? ⟨1, 0, none⟩ = some (.iface 79 (.agg #[.pointer (some ⟨5, 27, none⟩)])) := by
    rw [World.cell?_alloc_lt _ _ ⟨1, 0, none⟩ (by simp; omega), World.cell?_alloc_lt _ _ ⟨1, 0, none⟩ hlt]; exact hg
  have htl : t.block < w.heap.size := cell_lt ht0
  have HFIN := Lib.hid (below_alloc (below_alloc (below_alloc (Below.refl w.heap.size w) (.cells #[.pointer (some t)] 58)) (.cells #[.pointer (some ⟨5, 58, none⟩), .pointer (some ⟨w.heap.size, 0, none⟩), .int .u64 150] 67)) (.cells #[.pointer (some ⟨5, 58, none⟩), .pointer (some ⟨w.heap.size, 0, none⟩), .int .u64 150] 67))
  go_enter Tryd.func21, Tryd.ntmps21
  go_wp2
  refine wp_loop_rounds 1 ?_
  rw [rounds_succ]
  go_wp2
  go_ret
  exact ⟨rfl, HFIN.out⟩
set_option maxHeartbeats 1600000 in
theorem code_closed (w : World) (a : Addr) (hg : GlE w) :
    Calls Tryd.prog 10 #[.iface 110 (.pointer (some a))] w fun e w' => e = .returned (.int .i64 10) ∧ Below w.heap.size w w' := by
  have hb := below_alloc (Below.refl w.heap.size w) (.cells #[.pointer none] 50)
  have HA := Lib.hid (as_closed a ⟨w.heap.size, 0, none⟩ (.pointer none) (w.alloc (.cells #[.pointer none] 50)) (gle_below hg hb) (by simp))
  have HB := Lib.hid hb
  clear hg hb
  go_enter Tryd.func10, Tryd.ntmps10
  go_wp2_with (fail)
  refine HA.out.mono ?_
  rintro e w1 ⟨rfl, hh⟩
  have HB1 : Hid (Below w.heap.size w w1) := Lib.hid (below_then HB.out (by simp) hh)
  clear hh HA
  go_wp2
  go_ret
  exact ⟨rfl, HB1.out⟩
/-- fail.Code. -/
theorem code_calls {v z : Value} {l : List Pl} {w : World} (h : Err w v l z) : Calls Tryd.prog 10 #[v] w fun e w' => e = .returned (.int .i64 (codeOf l z)) ∧ Below w.heap.size w w' := by
  obtain ⟨hc, hz, hg⟩ := h
  cases l with
  | nil =>
    rw [show v = z from hc]
    rcases hz with rfl | ⟨a, rfl⟩
    · exact code_nil w
    · exact code_closed w a hg
  | cons p t =>
    obtain ⟨g, u, rfl, hb, -⟩ := hc
    exact code_hit w g p u hg hb

/-! ### Wrap -/
theorem wrap_nil (nm : ByteArray) (n : Int) (w : World) : Calls Tryd.prog 9 #[.nilIface, .string nm, .int .i64 n] w fun e w' => e = .returned .nilIface ∧ w = w' := by
  go_enter Tryd.func9, Tryd.ntmps9
  go_wp2
  go_ret
  exact ⟨rfl, rfl⟩
set_option maxHeartbeats 1600000 in
theorem wrap_iface (T : Nat) (x : Value) (z : Value) (l : List Pl) (nm : ByteArray) (n : Int) (w : World) (h : Err w (.iface T x) l z) : Calls Tryd.prog 9 #[.iface T x, .string nm, .int .i64 n] w fun e w' => ∃ v, e = .returned v ∧ Err w' v (⟨codeOf l z, nm, n⟩ :: l) z ∧ Below w.heap.size w w' := by
  have HC := Lib.hid (code_calls h)
  have HE := Lib.hid h
  clear h
  generalize hc : codeOf l z = c at *
  have HCC := Lib.hid hc
  clear hc
  go_enter Tryd.func9, Tryd.ntmps9
  go_wp2_with (go_at_call 10; refine HC.out.mono ?_; rintro e w1 ⟨rfl, hb1⟩; have HB1 := Lib.hid hb1; clear hb1)
  go_ret
  have hb2 := below_alloc HB1.out (.cells #[.int .i64 c, .string nm, .int .i64 n, .iface T x] 54)
  exact ⟨_, rfl, ⟨⟨w1.heap.size, _, rfl, heap_alloc_new w1 _, (HE.out.below hb2).ch⟩, HE.out.z, (HE.out.below hb2).gl⟩, hb2⟩
/-- fail.Wrap of an error that isn't nil. -/
theorem wrap_calls {v z : Value} {l : List Pl} {w : World} (nm : ByteArray) (n : Int) (h : Err w v l z) (hn : l ≠ [] ∨ z ≠ .nilIface) :
    Calls Tryd.prog 9 #[v, .string nm, .int .i64 n] w fun e w' => ∃ u, e = .returned u ∧ Err w' u (⟨codeOf l z, nm, n⟩ :: l) z ∧ Below w.heap.size w w' := by
  cases l with
  | nil =>
    have hv : v = z := h.ch
    rcases h.z with hz | ⟨a, hz⟩
    · rcases hn with hn | hn
      · exact absurd rfl hn
      · exact absurd hz hn
    · subst hz; subst hv
      exact wrap_iface _ _ _ _ nm n w h
  | cons p t =>
    obtain ⟨g, u, e, hb, hr⟩ := h.ch
    subst e
    exact wrap_iface _ _ _ _ nm n w h
/-- Wrap(New(code), place, n) as each layer has it. -/
def plc (c : Int) (nm : ByteArray) (n : Int) : List Pl := if c = 0 then [] else [⟨c, nm, n⟩, ⟨c, ⟨#[]⟩, 0⟩]

end Go.Proofs.YtaenincbmlcjiaaDoor.FailC
