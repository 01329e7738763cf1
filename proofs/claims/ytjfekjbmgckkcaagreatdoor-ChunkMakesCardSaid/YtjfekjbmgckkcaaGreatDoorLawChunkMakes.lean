/- ChunkMakes: for every input of which the row speaks the law returns true and its arguments read as before. -/
import Derived.Test.YtjfekjbmgckkcaaGreatDoorJoinedChunkMakes
import Derived.Test.YtjfekjbmgckkcaaGreatDoorRows
import Derived.WalkKit
import Derived.ProofKit
import Derived.OpenShut
import Derived.ShutString
import Derived.ChangeOld
import Derived.Below
import Derived.LaidMore
import Derived.Stop.Joined
import Derived.SevenTiedAt
import Derived.Test.YtjfekjbmgckkcaaGreatDoorTie
import Derived.Test.YtjfekjbmgckkcaaGreatDoorCards
import Derived.Test.YtjfekjbmgckkcaaGreatDoorPartChunkMakesA
import Derived.Test.YtjfekjbmgckkcaaGreatDoorPartChunkMakesC
namespace Go.Proofs.YtjfekjbmgckkcaaGreatDoor.LawChunkMakes
open Go.Proofs.YtjfekjbmgckkcaaGreatDoor Go.Proofs.YtjfekjbmgckkcaaGreatDoor.Rep Go.ChangeShapes Go.WideShapes Go.ChangeAt Go.RowKit
open Go.ChangeMaps (open_string shut_string)
set_option linter.unusedVariables false

abbrev laidAll : List (String × DataW Unit) := [("math/bits.deBruijn64tab", Rows.laid_math_bits_deBruijn64tab), ("errors.errorType", Rows.laid_errors_errorType), ("tidepole/varbit.behinds", Rows.laid_tidepole_varbit_behinds)]

theorem own : ownKnob Tryz.prog.godebug = none := by kernel_rfl
theorem laidOut : laidOutB Tryz.prog = true := by kernel_rfl

theorem door_met (os : Os) (args : Array Value) : laidMetH Tryz.prog laidAll ((World.doorLaid Tryz.prog 26 os).forCall (fun _ _ => 0) ⟨#[], args, []⟩).memory :=
  laidMetH_of_parts3 (fuel := 8) (laidMet_of_run' 8 (by kernel_rfl) (by kernel_rfl)) (by kernel_rfl) (by kernel_rfl)

set_option maxRecDepth 100000 in
theorem lifted (os : Os) (started : os.Started) (H : Type) (enc : TypeId × Value → H) :
    ReturnsInHanded {} Tryz.checked os 9 .any (fun w args => (Rows.chunkMakesSpec.pre enc Tryz.prog Tryz.f9 [] false w args ∧ laidMetH Tryz.prog laidAll w) ∧ sizedMet enc Tryz.prog Tryz.f9 (OpenSpec.ofChange Rows.chunkMakesSpec) false w args)
      (Rows.chunkMakesSpec.post enc Tryz.prog Tryz.f9 false true false false) := by
  refine returnsInHanded_of_change_and (C := Tryz.checked) (X := fun w _ => laidMetH Tryz.prog laidAll w) (fun _ _ _ hh h => h.of_heap hh) own started (by kernel_rfl) Tryz.func9
    (ChangeSpec.witness_shaped (enc := enc) (C := Tryz.checked) (os := os) (X := fun w _ => laidMetH Tryz.prog laidAll w) false (World.doorLaid Tryz.prog 26 os) #[.agg #[.int .i64 0, .int .i64 0, .int .i64 0, .int .u64 0, .slice none 0 0, .slice none 0 0]] 8 rfl (World.shaped_of_RefB (by kernel_rfl) (by kernel_rfl)) (by kernel_rfl) (by kernel_rfl) (by kernel_rfl) (door_met os _)) ?_
  intro W base args ds gs before hval0 hW _ _ hL _
  have hval : ∀ (j : Nat) t v, Tryz.f9.params[j]? = some t → args[j]? = some v → Value.okWide Tryz.prog W .any base t v := hval0
  have hW' := hW
  obtain ⟨p, q, hA0, hV, rfl, hfz, hnd⟩ := hW
  have hA : DataW.TrodAll enc Tryz.prog W 0 (fun _ => true) true Tryz.f9.params.toList args.toList ds p := hA0
  rw [Tryz.params9] at hA hval
  obtain ⟨v0, vs0, d0, ds0, p0, q0, hargs, rfl, rfl, h0, r0⟩ := trodAll_cons hA
  obtain ⟨rfl, rfl, rfl⟩ := trodAll_nil r0
  obtain rfl : args = #[v0] := by cases args; simp_all
  obtain ⟨rfl, rfl⟩ := trodVars_none hV
  have hv0 := hval 0 25 v0 rfl rfl
  have k0 := h0
  have lt0 : ∀ x ∈ p0, x.block < W.heap.size := by obtain ⟨m, hm⟩ := k0; exact DataW.trod_lt m _ _ _ hm
  obtain ⟨x0, e0, w0⟩ := Rep.arg_struct (r := (Rep.pair (Rep.int .i64) (Rep.pair (Rep.int .i64) (Rep.pair (Rep.int .i64) (Rep.pair (Rep.int .u64) (Rep.pair (Rep.slice (Rep.pair (Rep.int .i64) (Rep.int .i64))) (Rep.slice (Rep.pair (Rep.int .i64) (Rep.int .i64))))))))) (Rep.opens_struct Tryz.underlying25 (.cons rfl (Rep.opens_int Tryz.underlying3 (by kernel_rfl)) (.cons rfl (Rep.opens_int Tryz.underlying3 (by kernel_rfl)) (.cons rfl (Rep.opens_int Tryz.underlying3 (by kernel_rfl)) (.cons rfl (Rep.opens_int Tryz.underlying22 (by kernel_rfl)) (.cons rfl (Rep.opens_slice Tryz.underlying23 (by kernel_rfl) (by decide) (Rep.opens_struct Tryz.underlying119 (.cons rfl (Rep.opens_int Tryz.underlying3 (by kernel_rfl)) (.one rfl (Rep.opens_int Tryz.underlying3 (by kernel_rfl)))) (by kernel_rfl))) (.one rfl (Rep.opens_slice Tryz.underlying23 (by kernel_rfl) (by decide) (Rep.opens_struct Tryz.underlying119 (.cons rfl (Rep.opens_int Tryz.underlying3 (by kernel_rfl)) (.one rfl (Rep.opens_int Tryz.underlying3 (by kernel_rfl)))) (by kernel_rfl))))))))) (by kernel_rfl)) Tryz.underlying25 hv0 k0
  subst e0
  clear hA0 hval0
  refine (ChunkMakes.walk x0 W w0 hL).mono fun e W' ⟨he, bel⟩ => ?_
  subst he
  exact ⟨_, rfl, _, _, _, [], _, [], hW', trodAll_mk1 (shut_bool Tryz.underlying4 _), (trodAll_cons_mk (Below.trod laidOut (by kernel_rfl) (of_decide_eq_true (by kernel_rfl)) k0 bel lt0) trodAll_mk0), rfl, bel.frame _, fun h => by cases h⟩

theorem over : Rows.chunkMakesRow.holds Tryz.pinned (OpenSpec.ofChange Rows.chunkMakesSpec) :=
  OpenClaim.holds_of_wide 9 Tryz.f9 rfl rfl rfl rfl rfl rfl rfl ⟨rfl, rfl, rfl, rfl, rfl⟩ rfl rfl rfl rfl rfl JoinedChunkMakes.called Tryz.func9 JoinedChunkMakes.closed
    (of_decide_eq_true (by kernel_rfl)) (by unfold Func.isWrapper; first | (rw [if_pos (by decide +kernel)]; kernel_rfl) | (rw [if_neg (by decide +kernel)]; exact ⟨rfl, rfl⟩))
    (fun os started H enc _ => lifted os started H enc)

/-- ████ THE STATEMENT ████ -/
theorem proved : Rows.ChunkMakesCardSaid :=
  Claim7.holds_tied_plain_at .later [] [.data, .handle, .data] true (true, "ae2e4e061ae03ab1b506768de77db57aa79183feede3bc8ac522da64c9935844") true
    over (fun _ h => by cases h) (by kernel_rfl) (fun _ h => by cases h) chunkMakes_row_tie rfl ⟨rfl, rfl⟩ (by kernel_rfl) rfl
    (fun f fn hf hfn => by
      obtain rfl : f = 9 := Option.some.inj ((show Tryz.prog.funcNamed "tidepole/tidepolelaw15.ChunkMakes" = some 9 by kernel_rfl).symm.trans hf) |>.symm
      obtain rfl : fn = Tryz.f9 := (Option.some.inj (Tryz.func9.symm.trans hfn)).symm
      exact ⟨by kernel_rfl, fun j t ht => by
        rw [Tryz.params9] at ht
        have hm : t ∈ Tryz.f9.params.toList := by rw [Tryz.params9]; exact Array.mem_toList_iff.2 (Array.mem_of_getElem? ht)
        have hall : (Tryz.f9.params.toList.all fun u => !Tryz.prog.wantsStandIn u) = true := by kernel_rfl
        exact (show Tryz.prog.wantsStandIn t = false by simpa using List.all_eq_true.1 hall t hm)⟩)
    (by kernel_rfl)
#print axioms proved
end Go.Proofs.YtjfekjbmgckkcaaGreatDoor.LawChunkMakes
