/- errors as fail makes them: chains in memory; New, Code, Wrap. -/
import Derived.Test.YtjfekjbmgckkcaaGreatDoorFailAs
import Derived.WalkSpells
import Derived.Deep.LoopGhost
import Derived.Deep.QuietTactic
import Derived.BigQuiet
import Derived.RegionTactic
namespace Go.Proofs.YtjfekjbmgckkcaaGreatDoor.FailB
open Go.RowKit Go.Extern.Stop Go.Stop Go.Extern Go.Proofs.YtjfekjbmgckkcaaGreatDoorW.PrintWords
open Go.Proofs.YtjfekjbmgckkcaaGreatDoor.Base Go.Proofs.YtjfekjbmgckkcaaGreatDoor.FailAs

/-- an error's code, its place, the number there. -/
structure Pl where
  code : Int
  name : ByteArray
  at_ : Int
/-- a chain of *fail.Errors, the outer ones first; z is within all of them. -/
def ErrC (w : World) : Value → List Pl → Value → Prop
  | v, [], z => v = z
  | v, p :: t, z => ∃ g v', v = .iface 182 (.pointer (some ⟨g, 0, none⟩)) ∧ w.heap[g]? = some (.cells #[.int .i64 p.code, .string p.name, .int .i64 p.at_, v'] 186 (0, 0)) ∧ ErrC w v' t z
theorem ErrC.below {w w' : World} (h : Below w.heap.size w w') : ∀ {l : List Pl} {v z : Value}, ErrC w v l z → ErrC w' v l z
  | [], _, _, e => e
  | _ :: _, _, _, ⟨g, v', e1, e2, e3⟩ => ⟨g, v', e1, (h.block g (blk_lt e2)).trans e2, e3.below h⟩
theorem ErrC.append {w : World} : ∀ {l m : List Pl} {v z y : Value}, ErrC w v l z → ErrC w z m y → ErrC w v (l ++ m) y
  | [], _, _, _, _, e, h => by rw [show _ = _ from e]; exact h
  | _ :: _, _, _, _, _, ⟨g, v', e1, e2, e3⟩, h => ⟨g, v', e1, e2, e3.append h⟩
/-- where none lies. -/
def Sn0 : Type := {_a : Addr // False}
/-- what lies within all *fail.Errors: nothing, or an error of errors.New's make. -/
def EndZ (z : Value) : Prop := z = .nilIface ∨ ∃ a : Sn0, z = .iface 0 (.pointer (some a.1))
/-- an error. -/
structure Err (w : World) (v : Value) (l : List Pl) (z : Value) : Prop where
  ch : ErrC w v l z
  z : EndZ z
  gl : GlE w
theorem gle_below {w w' : World} (h : GlE w) (hb : Below w.heap.size w w') : GlE w' := (hb.cell (p := ⟨0, 0, none⟩) (cell_lt h)).trans h
theorem Err.below {w w' : World} {v z : Value} {l : List Pl} (h : Err w v l z) (hb : Below w.heap.size w w') : Err w' v l z := ⟨h.ch.below hb, h.z, gle_below h.gl hb⟩
theorem Err.nil {w : World} (h : GlE w) : Err w .nilIface [] .nilIface := ⟨rfl, .inl rfl, h⟩
/-- the code of an error. -/
def codeOf (l : List Pl) (z : Value) : Int := match l with
  | p :: _ => p.code
  | [] => match z with
    | .nilIface => 0
    | _ => 10

theorem new_zero (w : World) : Calls Tryz.prog 163 #[.int .i64 0] w fun e w' => e = .returned .nilIface ∧ w = w' := by
  go_enter Tryz.func163, Tryz.ntmps163
  go_wp2
  go_ret
  exact ⟨rfl, rfl⟩
theorem new_code (c : Int) (w : World) (hg : GlE w) (hc : c ≠ 0) : Calls Tryz.prog 163 #[.int .i64 c] w fun e w' => ∃ v, e = .returned v ∧ Err w' v [⟨c, ⟨#[]⟩, 0⟩] .nilIface ∧ Below w.heap.size w w' := by
  have e1 : (c == 0) = false := by simpa using hc
  have HG := Lib.hid hg
  have HC := Lib.hid (below_alloc (Below.refl w.heap.size w) (.cells #[.int .i64 c, .string ⟨#[]⟩, .int .i64 0, .nilIface] 186))
  clear hc hg
  go_enter Tryz.func163, Tryz.ntmps163
  go_wp2
  go_ret
  exact ⟨_, rfl, ⟨⟨w.heap.size, .nilIface, rfl, heap_alloc_new w _, rfl⟩, .inl rfl, gle_below HG.out HC.out⟩, HC.out⟩

set_option maxHeartbeats 1600000 in
theorem code_nil (w : World) : Calls Tryz.prog 50 #[.nilIface] w fun e w' => e = .returned (.int .i64 0) ∧ Below w.heap.size w w' := by
  have HB := Lib.hid (below_alloc (Below.refl w.heap.size w) (.cells #[.pointer none] 182))
  go_enter Tryz.func50, Tryz.ntmps50
  go_wp2
  go_ret
  exact ⟨rfl, HB.out⟩
set_option maxHeartbeats 1600000 in
theorem code_hit (w : World) (g : Nat) (p : Pl) (u : Value) (hg : GlE w) (hc : w.heap[g]? = some (.cells #[.int .i64 p.code, .string p.name, .int .i64 p.at_, u] 186 (0, 0))) :
    Calls Tryz.prog 50 #[.iface 182 (.pointer (some ⟨g, 0, none⟩))] w fun e w' => e = .returned (.int .i64 p.code) ∧ Below w.heap.size w w' := by
  have hb := below_alloc (Below.refl w.heap.size w) (.cells #[.pointer none] 182)
  have HA := Lib.hid (as_hit ⟨g, 0, none⟩ ⟨w.heap.size, 0, none⟩ (.pointer none) (w.alloc (.cells #[.pointer none] 182)) (gle_below hg hb) (by simp) (by simp))
  have HC := Lib.hid hc
  have HB := Lib.hid hb
  have hgl := blk_lt hc
  clear hg hc hb
  go_enter Tryz.func50, Tryz.ntmps50
  go_wp2_with (fail)
  refine HA.out.mono ?_
  rintro e w1 ⟨rfl, hh⟩
  have h1 := hh.at_
  have hblk : w1.heap[g]? = some (.cells #[.int .i64 p.code, .string p.name, .int .i64 p.at_, u] 186 (0, 0)) := hh.ch.blk ((HB.out.block g hgl).trans HC.out) (by show ¬ g = w.heap.size; omega)
  have h2 : w1.cell? ⟨g, 0, none⟩ = some (.int .i64 p.code) := by simp [World.cell?, hblk]
  have HB1 : Hid (Below w.heap.size w w1) := Lib.hid (HB.out.trans (hh.ch.below_of (by simp) (fun k hk => by rw [hk]; exact Nat.le_refl _)))
  clear hh hblk HA
  go_wp2
  go_ret
  exact ⟨rfl, HB1.out⟩
end Go.Proofs.YtjfekjbmgckkcaaGreatDoor.FailB
