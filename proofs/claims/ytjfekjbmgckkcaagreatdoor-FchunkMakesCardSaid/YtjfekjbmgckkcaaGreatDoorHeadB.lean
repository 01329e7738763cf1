/- head.Check. -/
import Derived.Test.YtjfekjbmgckkcaaGreatDoorHeadA
namespace Go.Proofs.YtjfekjbmgckkcaaGreatDoor.HeadB
open Go.RowKit Go.Proofs.YtjfekjbmgckkcaaGreatDoorW.PrintWords
open Go.Proofs.YtjfekjbmgckkcaaGreatDoor.Base Go.Proofs.YtjfekjbmgckkcaaGreatDoor.SpanPure Go.Proofs.YtjfekjbmgckkcaaGreatDoor.SpanBase Go.Proofs.YtjfekjbmgckkcaaGreatDoor.FailAs Go.Proofs.YtjfekjbmgckkcaaGreatDoor.FailB Go.Proofs.YtjfekjbmgckkcaaGreatDoor.FailC Go.Proofs.YtjfekjbmgckkcaaGreatDoor.ThrPure Go.Proofs.YtjfekjbmgckkcaaGreatDoor.HeadA

/-- what all histograms of a chunk have alike. -/
structure Hd where
  vr : Int
  hint : Int
  schema : Int
  zero : Nat
  pos : List Sp
  neg : List Sp
  deriving DecidableEq
/-- a list of spans that is read. -/
structure Spl (w : World) (A : Option Addr) (c : Nat) (l : List Sp) : Prop where
  rd : RdSp w A l
  len : l.length ≤ 1000000
  cap : l.length ≤ c
  nil : A = none → c = 0
theorem Spl.below {w W : World} {A : Option Addr} {c : Nat} {l : List Sp} (h : Spl w A c l) (hb : Below w.heap.size w W) : Spl W A c l := ⟨h.rd.below hb, h.len, h.cap, h.nil⟩
/-- where a head's lists lie. -/
structure Lc where
  A : Option Addr
  c : Nat
  B : Option Addr
  d : Nat
/-- a head's cells. -/
def hcs (h : Hd) (p : Lc) : List Value := [.int .i64 h.vr, .int .i64 h.hint, .int .i64 h.schema, .int .u64 h.zero, .slice p.A h.pos.length p.c, .slice p.B h.neg.length p.d]
structure HdIn (w : World) (h : Hd) (p : Lc) : Prop where
  pos : Spl w p.A p.c h.pos
  neg : Spl w p.B p.d h.neg
  z : h.zero < 18446744073709551616
theorem HdIn.below {w W : World} {h : Hd} {p : Lc} (x : HdIn w h p) (hb : Below w.heap.size w W) : HdIn W h p := ⟨x.pos.below hb, x.neg.below hb, x.z⟩
def pVariant : ByteArray := ⟨#[118, 97, 114, 105, 97, 110, 116]⟩
def pHint : ByteArray := ⟨#[104, 105, 110, 116]⟩
def pSchema : ByteArray := ⟨#[115, 99, 104, 101, 109, 97]⟩
def pZero : ByteArray := ⟨#[122, 101, 114, 111]⟩
def pPos : ByteArray := ⟨#[112, 111, 115]⟩
def pNeg : ByteArray := ⟨#[110, 101, 103]⟩
def pFlags : ByteArray := ⟨#[102, 108, 97, 103, 115]⟩
/-- what is wrong with a head: a code (0: nothing), a place. -/
def headErr (h : Hd) : Nat × ByteArray :=
  if h.vr ≠ 0 ∧ h.vr ≠ 1 then (25, pVariant)
  else if h.hint < 0 ∨ 3 < h.hint then (26, pHint)
  else if shapeE h.schema ≠ 0 then (21, pSchema)
  else if thrOk h.zero = false then (11, pZero)
  else if sidesE h.pos ≠ 0 then (sidesE h.pos, pPos)
  else (sidesE h.neg, pNeg)
/-- an error at a place, or none. -/
def ErrAt (c : Nat) (nm : ByteArray) (n : Int) (w : World) (e : Ending) (w' : World) : Prop := ∃ v, e = .returned v ∧ Err w' v (plc c nm n) .nilIface ∧ Below w.heap.size w w'

set_option maxRecDepth 100000 in
set_option maxHeartbeats 3200000 in
theorem check_calls (h : Hd) (p : Lc) (w : World) (hh : HdIn w h p) (hg : GlE w) :
    Calls Tryz.prog 70 #[.agg (hcs h p).toArray] w (ErrAt (headErr h).1 (headErr h).2 0 w) := by
  obtain ⟨vr, hint, schema, zt, pos, neg⟩ := h
  obtain ⟨A, c, B, d⟩ := p
  obtain ⟨hp, hn, hz⟩ := hh
  simp only at hp hn hz
  show Calls Tryz.prog 70 #[.agg #[.int .i64 vr, .int .i64 hint, .int .i64 schema, .int .u64 zt, .slice A pos.length c, .slice B neg.length d]] w _
  have hb0 := below_alloc (Below.refl w.heap.size w) (.cells #[.int .i64 vr, .int .i64 hint, .int .i64 schema, .int .u64 zt, .slice A pos.length c, .slice B neg.length d] 25)
  have HB0 := Lib.hid hb0
  have HAT := Lib.hid (fun c nm W (h : Below w.heap.size w W) => at_calls c nm 0 W (gle_below hg h))
  have HSH := Lib.hid (fun W => shape_calls schema W)
  have HTH := Lib.hid (fun W => ThrA.thr_calls zt W)
  have HSP := Lib.hid (fun W (h : Below w.heap.size w W) => sides_calls A c pos W (hp.below h).rd (by have := hp.len; omega))
  have HSN := Lib.hid (fun W (h : Below w.heap.size w W) => sides_calls B d neg W (hn.below h).rd (by have := hn.len; omega))
  clear hp hn hg
  by_cases h1 : vr ≠ 0 ∧ vr ≠ 1
  · have HE : Hid (headErr ⟨vr, hint, schema, zt, pos, neg⟩ = (25, pVariant)) := Lib.hid (if_pos h1)
    have v1 : (vr != 0) = true := by simpa using h1.1
    have v2 : (vr != 1) = true := by simpa using h1.2
    clear h1 hb0
    go_enter Tryz.func70, Tryz.ntmps70
    go_wp2_with (fail)
    refine (HAT.out 25 pVariant _ HB0.out).mono ?_
    rintro e w9 ⟨v9, rfl, he9, hb9⟩
    have E9 := Lib.hid he9
    have B9 := Lib.hid (HB0.out.trans (hb9.mono (by simp)))
    clear he9 hb9
    go_wp2
    go_ret
    rw [HE.out]
    exact ⟨_, rfl, E9.out, B9.out⟩
  have hv : ((vr != 0) = false ∨ (vr != 0) = true ∧ (vr != 1) = false) := by
    by_cases h0 : vr = 0
    · exact .inl (by simp [h0])
    · exact .inr ⟨by simpa using h0, by simp; omega⟩
  by_cases h2 : hint < 0 ∨ 3 < hint
  · have HE : Hid (headErr ⟨vr, hint, schema, zt, pos, neg⟩ = (26, pHint)) := Lib.hid (by unfold headErr; rw [if_neg h1, if_pos h2])
    have hd : (decide (hint < 0) = true ∨ decide (hint < 0) = false ∧ decide (hint > 3) = true ∧ decide (3 < hint) = true) := by
      simp only [decide_eq_true_eq, decide_eq_false_iff_not]; omega
    clear h1 h2 hb0
    rcases hv with v1 | ⟨v1, v2⟩
    all_goals rcases hd with d1 | ⟨d1, d2, d3⟩
    all_goals (
      go_enter Tryz.func70, Tryz.ntmps70
      go_wp2_with (fail)
      refine (HAT.out 26 pHint _ HB0.out).mono ?_
      rintro e w9 ⟨v9, rfl, he9, hb9⟩
      have E9 := Lib.hid he9
      have B9 := Lib.hid (HB0.out.trans (hb9.mono (by simp)))
      clear he9 hb9
      go_wp2
      go_ret
      rw [HE.out]
      exact ⟨_, rfl, E9.out, B9.out⟩)
  have d1 : decide (hint < 0) = false := decide_eq_false (by omega)
  have d2 : decide (hint > 3) = false := decide_eq_false (by omega)
  have d3 : decide (3 < hint) = false := decide_eq_false (by omega)
  by_cases h3 : shapeE schema ≠ 0
  · have HE : Hid (headErr ⟨vr, hint, schema, zt, pos, neg⟩ = (21, pSchema)) := Lib.hid (by unfold headErr; rw [if_neg h1, if_neg h2, if_pos h3])
    obtain ⟨k, hk⟩ : ∃ k, k = shapeE schema := ⟨_, rfl⟩
    rw [← hk] at h3 HSH
    have s1 : ((k : Int) != 0) = true := by simp; omega
    clear h1 h2 hb0 h3 hk
    rcases hv with v1 | ⟨v1, v2⟩
    all_goals (
      go_enter Tryz.func70, Tryz.ntmps70
      go_wp2_with (go_at_call 142; refine (HSH.out _).mono ?_; rintro e w' ⟨rfl, rfl⟩)
      refine (HAT.out 21 pSchema _ HB0.out).mono ?_
      rintro e w9 ⟨v9, rfl, he9, hb9⟩
      have E9 := Lib.hid he9
      have B9 := Lib.hid (HB0.out.trans (hb9.mono (by simp)))
      clear he9 hb9
      go_wp2
      go_ret
      rw [HE.out]
      exact ⟨_, rfl, E9.out, B9.out⟩)
  have h3 := Decidable.not_not.1 h3
  rw [h3] at HSH
  cases h4 : thrOk zt with
  | false =>
    have HE : Hid (headErr ⟨vr, hint, schema, zt, pos, neg⟩ = (11, pZero)) := Lib.hid (by unfold headErr; rw [if_neg h1, if_neg h2, if_neg (by simpa using h3), if_pos h4])
    rw [h4] at HTH
    clear h1 h2 hb0 h3 h4
    rcases hv with v1 | ⟨v1, v2⟩
    all_goals (
      go_enter Tryz.func70, Tryz.ntmps70
      go_wp2_with (first
        | (go_at_call 142; refine (HSH.out _).mono ?_; rintro e w' ⟨rfl, rfl⟩)
        | (go_at_call 143; refine (HTH.out _).mono ?_; rintro e w' ⟨rfl, rfl⟩))
      refine (HAT.out 11 pZero _ HB0.out).mono ?_
      rintro e w9 ⟨v9, rfl, he9, hb9⟩
      have E9 := Lib.hid he9
      have B9 := Lib.hid (HB0.out.trans (hb9.mono (by simp)))
      clear he9 hb9
      go_wp2
      go_ret
      rw [HE.out]
      exact ⟨_, rfl, E9.out, B9.out⟩)
  | true =>
    rw [h4] at HTH
    have HCL : Hid (∀ W, Below (w.alloc (.cells #[.int .i64 vr, .int .i64 hint, .int .i64 schema, .int .u64 zt, .slice A pos.length c, .slice B neg.length d] 25)).heap.size (w.alloc (.cells #[.int .i64 vr, .int .i64 hint, .int .i64 schema, .int .u64 zt, .slice A pos.length c, .slice B neg.length d] 25)) W → W.cell? ⟨w.heap.size, 5, none⟩ = some (.slice B neg.length d)) := Lib.hid fun W h => (h.cell (p := ⟨w.heap.size, 5, none⟩) (by simp)).trans (by simp)
    by_cases h5 : sidesE pos ≠ 0
    · have HE : Hid (headErr ⟨vr, hint, schema, zt, pos, neg⟩ = (sidesE pos, pPos)) := Lib.hid (by unfold headErr; rw [if_neg h1, if_neg h2, if_neg (by simpa using h3), if_neg (by simp [h4]), if_pos h5])
      obtain ⟨k, hk⟩ : ∃ k, k = sidesE pos := ⟨_, rfl⟩
      rw [← hk] at h5 HSP HE
      have s1 : ((k : Int) != 0) = true := by simp; omega
      clear h1 h2 hb0 h3 h4 h5 hk
      rcases hv with v1 | ⟨v1, v2⟩
      all_goals (
        go_enter Tryz.func70, Tryz.ntmps70
        go_wp2_with (first
          | (go_at_call 142; refine (HSH.out _).mono ?_; rintro e w' ⟨rfl, rfl⟩)
          | (go_at_call 143; refine (HTH.out _).mono ?_; rintro e w' ⟨rfl, rfl⟩))
        refine (HSP.out _ HB0.out).mono ?_
        rintro e w2 ⟨rfl, hb2⟩
        have B2 := Lib.hid (below_then HB0.out (by simp) hb2)
        clear hb2
        go_wp2_with (fail)
        refine (HAT.out k pPos _ B2.out).mono ?_
        rintro e w9 ⟨v9, rfl, he9, hb9⟩
        have E9 := Lib.hid he9
        have B9 := Lib.hid (below_then B2.out B2.out.size hb9)
        clear he9 hb9
        go_wp2
        go_ret
        rw [HE.out]
        exact ⟨_, rfl, E9.out, B9.out⟩)
    · have HE : Hid (headErr ⟨vr, hint, schema, zt, pos, neg⟩ = (sidesE neg, pNeg)) := Lib.hid (by unfold headErr; rw [if_neg h1, if_neg h2, if_neg (by simpa using h3), if_neg (by simp [h4]), if_neg (by simpa using h5)])
      have h5 := Decidable.not_not.1 h5
      rw [h5] at HSP
      obtain ⟨k, hk⟩ : ∃ k, k = sidesE neg := ⟨_, rfl⟩
      rw [← hk] at HSN HE
      clear h1 h2 hb0 h3 h4 h5 hk
      rcases hv with v1 | ⟨v1, v2⟩
      all_goals (
        go_enter Tryz.func70, Tryz.ntmps70
        go_wp2_with (first
          | (go_at_call 142; refine (HSH.out _).mono ?_; rintro e w' ⟨rfl, rfl⟩)
          | (go_at_call 143; refine (HTH.out _).mono ?_; rintro e w' ⟨rfl, rfl⟩))
        refine (HSP.out _ HB0.out).mono ?_
        rintro e w2 ⟨rfl, hb2⟩
        have B2 := Lib.hid (below_then HB0.out (by simp) hb2)
        have k5 := HCL.out w2 hb2
        clear hb2
        go_wp2_with (fail)
        refine (HSN.out _ B2.out).mono ?_
        rintro e w3 ⟨rfl, hb3⟩
        have B3 := Lib.hid (below_then B2.out B2.out.size hb3)
        clear hb3 k5
        go_wp2_with (fail)
        refine (HAT.out k pNeg _ B3.out).mono ?_
        rintro e w9 ⟨v9, rfl, he9, hb9⟩
        have E9 := Lib.hid he9
        have B9 := Lib.hid (below_then B3.out B3.out.size hb9)
        clear he9 hb9
        go_wp2
        go_ret
        rw [HE.out]
        exact ⟨_, rfl, E9.out, B9.out⟩)
end Go.Proofs.YtjfekjbmgckkcaaGreatDoor.HeadB
