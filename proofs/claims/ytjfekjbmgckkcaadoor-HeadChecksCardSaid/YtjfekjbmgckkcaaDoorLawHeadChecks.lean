/- HeadChecks: for every input of which the row speaks the law returns true and its arguments read as before. -/
import Derived.Test.YtjfekjbmgckkcaaDoorRows
import Derived.WalkKit
import Derived.ProofKit
import Derived.OpenShut
import Derived.ShutString
import Derived.ChangeOld
import Derived.Below
import Derived.LaidMore
import Derived.Stop.Joined
import Derived.SevenTiedAt
import Derived.Test.YtjfekjbmgckkcaaDoorTie
import Derived.Test.YtjfekjbmgckkcaaDoorCards
import Derived.Test.YtjfekjbmgckkcaaDoorPartHeadChecksA
import Derived.Test.YtjfekjbmgckkcaaDoorPartHeadChecksF
namespace Go.Proofs.YtjfekjbmgckkcaaDoor.LawHeadChecks
open Go.Proofs.YtjfekjbmgckkcaaDoor Go.Proofs.YtjfekjbmgckkcaaDoor.LawBase Go.Proofs.YtjfekjbmgckkcaaDoor.Rep Go.ChangeShapes Go.WideShapes Go.ChangeAt Go.RowKit
open Go.ChangeMaps (open_string shut_string)
set_option linter.unusedVariables false

abbrev laidAll : List (String × DataW Unit) := [("errors.errorType", Rows.laid_errors_errorType), ("tidepole/varbit.behinds", Rows.laid_tidepole_varbit_behinds)]

theorem own : ownKnob Tryd.prog.godebug = none := by kernel_rfl
theorem laidOut : laidOutB Tryd.prog = true := by kernel_rfl

theorem door_met (os : Os) (args : Array Value) : laidMetH Tryd.prog laidAll ((World.doorLaid Tryd.prog 21 os).forCall (fun _ _ => 0) ⟨#[], args, []⟩).memory :=
  laidMetH_of_parts3 (fuel := 8) (laidMet_of_run' 8 (by kernel_rfl) (by kernel_rfl)) (by kernel_rfl) (by kernel_rfl)

set_option maxRecDepth 100000 in
theorem lifted (os : Os) (started : os.Started) (H : Type) (enc : TypeId × Value → H) :
    ReturnsInHanded {} Tryd.checked os 4 .any (fun w args => (Rows.headChecksSpec.pre enc Tryd.prog Tryd.f4 [] false w args ∧ laidMetH Tryd.prog laidAll w) ∧ sizedMet enc Tryd.prog Tryd.f4 (OpenSpec.ofChange Rows.headChecksSpec) false w args)
      (Rows.headChecksSpec.post enc Tryd.prog Tryd.f4 false true false false) := by
  refine returnsInHanded_of_change_and (C := Tryd.checked) (X := fun w _ => laidMetH Tryd.prog laidAll w) (fun _ _ _ hh h => h.of_heap hh) own started (by kernel_rfl) Tryd.func4
    (ChangeSpec.witness_shaped (enc := enc) (C := Tryd.checked) (os := os) (X := fun w _ => laidMetH Tryd.prog laidAll w) false (World.doorLaid Tryd.prog 21 os) #[.agg #[.int .i64 0, .int .i64 0, .int .i64 0, .int .u64 0, .slice none 0 0, .slice none 0 0], .agg #[.int .i64 0, .int .i64 0, .int .i64 0, .int .u64 0, .slice none 0 0, .slice none 0 0]] 8 rfl (World.shaped_of_RefB (by kernel_rfl) (by kernel_rfl)) (by kernel_rfl) (by kernel_rfl) (by kernel_rfl) (door_met os _)) ?_
  intro W base args ds gs before hval0 hW _ _ hL _
  have hval : ∀ (j : Nat) t v, Tryd.f4.params[j]? = some t → args[j]? = some v → Value.okWide Tryd.prog W .any base t v := hval0
  have hW' := hW
  obtain ⟨p, q, hA0, hV, rfl, hfz, hnd⟩ := hW
  have hA : DataW.TrodAll enc Tryd.prog W 0 (fun _ => true) true Tryd.f4.params.toList args.toList ds p := hA0
  rw [Tryd.params4] at hA hval
  obtain ⟨v0, vs0, d0, ds0, p0, q0, hargs, rfl, rfl, h0, r0⟩ := trodAll_cons hA
  obtain ⟨v1, vs1, d1, ds1, p1, q1, rfl, rfl, rfl, h1, r1⟩ := trodAll_cons r0
  obtain ⟨rfl, rfl, rfl⟩ := trodAll_nil r1
  obtain rfl : args = #[v0, v1] := by cases args; simp_all
  obtain ⟨rfl, rfl⟩ := trodVars_none hV
  have hv0 := hval 0 34 v0 rfl rfl
  have k0 := h0
  have lt0 : ∀ x ∈ p0, x.block < W.heap.size := by obtain ⟨m, hm⟩ := k0; exact DataW.trod_lt m _ _ _ hm
  obtain ⟨x0, e0, w0⟩ := Rep.arg_struct (r := (Rep.pair (Rep.int .i64) (Rep.pair (Rep.int .i64) (Rep.pair (Rep.int .i64) (Rep.pair (Rep.int .u64) (Rep.pair (Rep.slice (Rep.pair (Rep.int .i64) (Rep.int .i64))) (Rep.slice (Rep.pair (Rep.int .i64) (Rep.int .i64))))))))) (Rep.opens_struct Tryd.underlying34 (.cons rfl (Rep.opens_int Tryd.underlying3 (by kernel_rfl)) (.cons rfl (Rep.opens_int Tryd.underlying3 (by kernel_rfl)) (.cons rfl (Rep.opens_int Tryd.underlying3 (by kernel_rfl)) (.cons rfl (Rep.opens_int Tryd.underlying31 (by kernel_rfl)) (.cons rfl (Rep.opens_slice Tryd.underlying32 (by kernel_rfl) (by decide) (Rep.opens_struct Tryd.underlying57 (.cons rfl (Rep.opens_int Tryd.underlying3 (by kernel_rfl)) (.one rfl (Rep.opens_int Tryd.underlying3 (by kernel_rfl)))) (by kernel_rfl))) (.one rfl (Rep.opens_slice Tryd.underlying32 (by kernel_rfl) (by decide) (Rep.opens_struct Tryd.underlying57 (.cons rfl (Rep.opens_int Tryd.underlying3 (by kernel_rfl)) (.one rfl (Rep.opens_int Tryd.underlying3 (by kernel_rfl)))) (by kernel_rfl))))))))) (by kernel_rfl)) Tryd.underlying34 hv0 k0
  subst e0
  have hv1 := hval 1 34 v1 rfl rfl
  have k1 := h1
  have lt1 : ∀ x ∈ p1, x.block < W.heap.size := by obtain ⟨m, hm⟩ := k1; exact DataW.trod_lt m _ _ _ hm
  obtain ⟨x1, e1, w1⟩ := Rep.arg_struct (r := (Rep.pair (Rep.int .i64) (Rep.pair (Rep.int .i64) (Rep.pair (Rep.int .i64) (Rep.pair (Rep.int .u64) (Rep.pair (Rep.slice (Rep.pair (Rep.int .i64) (Rep.int .i64))) (Rep.slice (Rep.pair (Rep.int .i64) (Rep.int .i64))))))))) (Rep.opens_struct Tryd.underlying34 (.cons rfl (Rep.opens_int Tryd.underlying3 (by kernel_rfl)) (.cons rfl (Rep.opens_int Tryd.underlying3 (by kernel_rfl)) (.cons rfl (Rep.opens_int Tryd.underlying3 (by kernel_rfl)) (.cons rfl (Rep.opens_int Tryd.underlying31 (by kernel_rfl)) (.cons rfl (Rep.opens_slice Tryd.underlying32 (by kernel_rfl) (by decide) (Rep.opens_struct Tryd.underlying57 (.cons rfl (Rep.opens_int Tryd.underlying3 (by kernel_rfl)) (.one rfl (Rep.opens_int Tryd.underlying3 (by kernel_rfl)))) (by kernel_rfl))) (.one rfl (Rep.opens_slice Tryd.underlying32 (by kernel_rfl) (by decide) (Rep.opens_struct Tryd.underlying57 (.cons rfl (Rep.opens_int Tryd.underlying3 (by kernel_rfl)) (.one rfl (Rep.opens_int Tryd.underlying3 (by kernel_rfl)))) (by kernel_rfl))))))))) (by kernel_rfl)) Tryd.underlying34 hv1 k1
  subst e1
  clear hA0 hval0
  refine (Go.Proofs.YtjfekjbmgckkcaaDoor.HeadChecks.walk x0 x1 W w0 w1 hL).mono fun e W' ⟨he, bel⟩ => ?_
  subst he
  exact ⟨_, rfl, _, _, _, [], _, [], hW', trodAll_mk1 (shut_bool Tryd.underlying4 _), (trodAll_cons_mk (Below.trod laidOut (by kernel_rfl) (of_decide_eq_true (by kernel_rfl)) k0 bel lt0) (trodAll_cons_mk (Below.trod laidOut (by kernel_rfl) (of_decide_eq_true (by kernel_rfl)) k1 bel lt1) trodAll_mk0)), rfl, bel.frame _, fun h => by cases h⟩

theorem over : Rows.headChecksRow.holds Tryd.pinned (OpenSpec.ofChange Rows.headChecksSpec) :=
  OpenClaim.holds_of_wide 4 Tryd.f4 rfl rfl rfl rfl rfl rfl rfl ⟨rfl, rfl, rfl, rfl, rfl⟩ rfl rfl rfl rfl rfl (by kernel_rfl) Tryd.func4 (by kernel_rfl)
    (of_decide_eq_true (by kernel_rfl)) (by unfold Func.isWrapper; first | (rw [if_pos (by decide +kernel)]; kernel_rfl) | (rw [if_neg (by decide +kernel)]; exact ⟨rfl, rfl⟩))
    (fun os started H enc _ => lifted os started H enc)

/-- ████ THE STATEMENT ████ -/
theorem proved : Rows.HeadChecksCardSaid :=
  Claim7.holds_tied_plain_at .later [] [.handle, .data] true (true, "357d747bce091ce9f02f61397795437c740310d137191a20cde20936ff7ad05c") true
    over (fun _ h => by cases h) (by kernel_rfl) (fun _ h => by cases h) headChecks_row_tie rfl ⟨rfl, rfl⟩ (by kernel_rfl) rfl
    (fun f fn hf hfn => by
      obtain rfl : f = 4 := Option.some.inj ((show Tryd.prog.funcNamed "tidepole/tidepolelaw14.HeadChecks" = some 4 by kernel_rfl).symm.trans hf) |>.symm
      obtain rfl : fn = Tryd.f4 := (Option.some.inj (Tryd.func4.symm.trans hfn)).symm
      exact ⟨by kernel_rfl, fun j t ht => by
        rw [Tryd.params4] at ht
        have hm : t ∈ Tryd.f4.params.toList := by rw [Tryd.params4]; exact Array.mem_toList_iff.2 (Array.mem_of_getElem? ht)
        have hall : (Tryd.f4.params.toList.all fun u => !Tryd.prog.wantsStandIn u) = true := by kernel_rfl
        exact (show Tryd.prog.wantsStandIn t = false by simpa using List.all_eq_true.1 hall t hm)⟩)
    (by kernel_rfl)
#print axioms proved
end Go.Proofs.YtjfekjbmgckkcaaDoor.LawHeadChecks
