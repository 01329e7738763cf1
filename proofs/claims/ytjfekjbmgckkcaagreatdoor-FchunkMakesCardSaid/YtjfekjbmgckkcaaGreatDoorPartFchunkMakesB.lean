/- what FchunkMakes stands on, part 2: FcC, FcD, FcE, FcF, FcG, FcH, FcI, Law18C, Ref14B, Ref01B, HdArg, Law18D, HeadLaid, Law18L, FchunkMakes. -/
import Derived.Test.YtjfekjbmgckkcaaGreatDoorPartFchunkMakesA
import Derived.Deep.QuietTactic
import Derived.BigQuiet
import Derived.Deep.RegionHeld3
import Derived.Deep.AppendLies
import Derived.Deep.RegionLaw
import Derived.Test.YtjfekjbmgckkcaaGreatDoorRef12
import Derived.Test.YtjfekjbmgckkcaaGreatDoorRef01
import Derived.Test.YtjfekjbmgckkcaaGreatDoorLaw14A
import Derived.Test.YtjfekjbmgckkcaaGreatDoorLawBase
import Derived.Test.YtjfekjbmgckkcaaGreatDoorRep
import Derived.Deep.RegionHeldLaw
import Derived.Test.YtjfekjbmgckkcaaGreatDoorFailE
import Derived.Test.YtjfekjbmgckkcaaGreatDoorVarbitA
import Derived.Test.YtjfekjbmgckkcaaGreatDoorRows
import Derived.LaidMore
import Derived.Lib.LaidTab
import Derived.Stop.LaidErr
import Derived.Test.YtjfekjbmgckkcaaGreatDoorRef14A

/- fchunk's walks: why a sample can't be appended. -/
namespace Go.Proofs.YtjfekjbmgckkcaaGreatDoor.FcC
open Go.RowKit Go.Proofs.YtjfekjbmgckkcaaGreatDoorW.PrintWords
open Go.Proofs.YtjfekjbmgckkcaaGreatDoor.Bits Go.Proofs.YtjfekjbmgckkcaaGreatDoor.Base Go.Proofs.YtjfekjbmgckkcaaGreatDoor.VarPure Go.Proofs.YtjfekjbmgckkcaaGreatDoor.StreamA Go.Proofs.YtjfekjbmgckkcaaGreatDoor.TimesPure Go.Proofs.YtjfekjbmgckkcaaGreatDoor.TimesA Go.Proofs.YtjfekjbmgckkcaaGreatDoor.Ref12 Go.Proofs.YtjfekjbmgckkcaaGreatDoor.Ref13 Go.Proofs.YtjfekjbmgckkcaaGreatDoor.SpanPure Go.Proofs.YtjfekjbmgckkcaaGreatDoor.SpanBase Go.Proofs.YtjfekjbmgckkcaaGreatDoor.HeadA Go.Proofs.YtjfekjbmgckkcaaGreatDoor.HeadB Go.Proofs.YtjfekjbmgckkcaaGreatDoor.HeadE Go.Proofs.YtjfekjbmgckkcaaGreatDoor.HeadPure Go.Proofs.YtjfekjbmgckkcaaGreatDoor.XorPure Go.Proofs.YtjfekjbmgckkcaaGreatDoor.XorB Go.Proofs.YtjfekjbmgckkcaaGreatDoor.FcPure Go.Proofs.YtjfekjbmgckkcaaGreatDoor.FcObj Go.Proofs.YtjfekjbmgckkcaaGreatDoor.FcA Go.Proofs.YtjfekjbmgckkcaaGreatDoor.FcB Go.Proofs.YtjfekjbmgckkcaaGreatDoor.Cat

theorem sides_chk {l : List Sp} (h : sidesE l = 0) : chk l = 0 := by
  unfold sidesE at h
  split at h
  · rename_i h1; omega
  · rename_i h1; omega
theorem okq_chk {q : Hd} (h : (headErr q).1 = 0) : chk q.pos = 0 ∧ chk q.neg = 0 := by
  obtain ⟨-, -, -, -, -, -, h7, h8⟩ := err_zero h
  exact ⟨sides_chk h7, sides_chk h8⟩
set_option maxRecDepth 100000 in
set_option maxHeartbeats 6400000 in
theorem wrong_calls (g : Nat) (S : Nat → Prop) (q : Hd) (l : List FS) (x : FkL) (s : FS) (p : Lh) (w : World) (hF : Fk w g S q l x) (hs : FhIn w s.h p) (hn : l.length < 1000) :
    Calls Tryz.prog 107 #[.pointer (some ⟨g, 0, none⟩), .agg (scs s p).toArray] w fun e w' => e = .returned (.tuple #[.int .i64 (wrongF q l s).1, .string (wrongF q l s).2]) ∧ Below w.heap.size w w' := by
  obtain ⟨hq1, hq2⟩ := okq_chk hF.okq
  have hWF : wrongF q l s = if errF s.h ≠ 0 then (errF s.h, pHist) else if s.h.schema ≠ q.schema then (21, pSchema) else if s.h.zero ≠ q.zero then (11, pZero) else if places s.h.pos ≠ places q.pos then (23, pPos) else if places s.h.neg ≠ places q.neg then (23, pNeg) else if 0 < l.length ∧ s.t ≤ lastT l then (24, pTime) else (0, ⟨#[]⟩) := rfl
  have hobj := hF.obj
  have hhd := hF.hd
  have hlt := lastS_t q l
  obtain ⟨r, hr⟩ : ∃ r, r = wrongF q l s := ⟨_, rfl⟩
  rw [← hr] at hWF ⊢
  clear hr
  obtain ⟨t, hh⟩ := s
  simp only at hs hWF
  have HCK0 := Lib.hid (fun W (hb : Below w.heap.size w W) => FhistB.check_calls hh p W (hs.below hb))
  have HEZ := Lib.hid (fun h => (errF_zero h : -4 ≤ hh.schema ∧ hh.schema ≤ 8 ∧ hh.zero < inf ∧ hh.zc < inf ∧ hh.cnt < inf ∧ sideF hh.pos hh.pc = 0 ∧ sideF hh.neg hh.nc = 0))
  obtain ⟨k, hk⟩ : ∃ k, k = errF hh := ⟨_, rfl⟩
  rw [← hk] at HCK0 hWF HEZ
  clear hk
  obtain ⟨sc, z, zc, cn, su, pos, neg, pc, nc⟩ := hh
  obtain ⟨A, c, B, d, C, cc, D, dd⟩ := p
  obtain ⟨vr, hint, qs, qz, qp, qn⟩ := q
  obtain ⟨⟨qA, qc, qB, qd⟩, gw, gt, Sw, va, vc, cols, lr, TT⟩ := x
  obtain ⟨hsp, hsn, -, -, -⟩ := hs
  obtain ⟨hqp, hqn, -⟩ := hhd
  simp only at hsp hsn hqp hqn hq1 hq2 hWF HEZ
  simp only [fcs] at HCK0
  obtain ⟨n, hnn⟩ : ∃ n, n = l.length := ⟨_, rfl⟩
  obtain ⟨lt, hltt⟩ : ∃ lt, lt = lastT l := ⟨_, rfl⟩
  rw [← hnn] at hn hWF
  rw [← hltt] at hWF hlt
  have hG : ∀ W : World, W.heap[g]? = w.heap[g]? → (W.cell? ⟨g, 0, none⟩ = some (.int .i64 vr) ∧ W.cell? ⟨g, 1, none⟩ = some (.int .i64 hint) ∧ W.cell? ⟨g, 2, none⟩ = some (.int .i64 qs) ∧ W.cell? ⟨g, 3, none⟩ = some (.int .u64 qz) ∧ W.cell? ⟨g, 4, none⟩ = some (.slice qA qp.length qc) ∧ W.cell? ⟨g, 5, none⟩ = some (.slice qB qn.length qd) ∧ W.cell? ⟨g, 7, none⟩ = some (.int .i64 n) ∧ W.cell? ⟨g, 10, none⟩ = some (.int .i64 lt)) := fun W h => by
    have h2 := h.trans hobj
    refine ⟨obj_cell h2 rfl, obj_cell h2 rfl, obj_cell h2 rfl, obj_cell h2 rfl, obj_cell h2 rfl, obj_cell h2 rfl, ?_, ?_⟩
    · rw [hnn]; exact obj_cell h2 rfl
    · rw [← hlt]; exact obj_cell h2 rfl
  have hgl := blk_lt hobj
  show Calls Tryz.prog 107 #[.pointer (some ⟨g, 0, none⟩), .agg #[.int .i64 t, .int .i64 sc, .int .u64 z, .int .u64 zc, .int .u64 cn, .int .u64 su, .slice A pos.length c, .slice B neg.length d, .slice C pc.length cc, .slice D nc.length dd]] w _
  obtain ⟨W0, hW0, hbk, hal⟩ : ∃ W0 : World, W0 = w.alloc (.cells #[.int .i64 t, .int .i64 sc, .int .u64 z, .int .u64 zc, .int .u64 cn, .int .u64 su, .slice A pos.length c, .slice B neg.length d, .slice C pc.length cc, .slice D nc.length dd] 74) ∧ W0.heap[w.heap.size]? = some (.cells #[.int .i64 t, .int .i64 sc, .int .u64 z, .int .u64 zc, .int .u64 cn, .int .u64 su, .slice A pos.length c, .slice B neg.length d, .slice C pc.length cc, .slice D nc.length dd] 74 (0, 0)) ∧ Below w.heap.size w W0 := ⟨_, rfl, blk_last w _, below_alloc (Below.refl _ _) _⟩
  have HCEL : Hid (∀ W : World, Below W0.heap.size W0 W → ((W.cell? ⟨w.heap.size, 0, none⟩ = some (.int .i64 t) ∧ W.cell? ⟨w.heap.size, 1, none⟩ = some (.int .i64 sc) ∧ W.cell? ⟨w.heap.size, 2, none⟩ = some (.int .u64 z) ∧ W.cell? ⟨w.heap.size, 3, none⟩ = some (.int .u64 zc) ∧ W.cell? ⟨w.heap.size, 4, none⟩ = some (.int .u64 cn) ∧ W.cell? ⟨w.heap.size, 5, none⟩ = some (.int .u64 su) ∧ W.cell? ⟨w.heap.size, 6, none⟩ = some (.slice A pos.length c) ∧ W.cell? ⟨w.heap.size, 7, none⟩ = some (.slice B neg.length d) ∧ W.cell? ⟨w.heap.size, 8, none⟩ = some (.slice C pc.length cc) ∧ W.cell? ⟨w.heap.size, 9, none⟩ = some (.slice D nc.length dd)) ∧ (W.cell? ⟨g, 0, none⟩ = some (.int .i64 vr) ∧ W.cell? ⟨g, 1, none⟩ = some (.int .i64 hint) ∧ W.cell? ⟨g, 2, none⟩ = some (.int .i64 qs) ∧ W.cell? ⟨g, 3, none⟩ = some (.int .u64 qz) ∧ W.cell? ⟨g, 4, none⟩ = some (.slice qA qp.length qc) ∧ W.cell? ⟨g, 5, none⟩ = some (.slice qB qn.length qd) ∧ W.cell? ⟨g, 7, none⟩ = some (.int .i64 n) ∧ W.cell? ⟨g, 10, none⟩ = some (.int .i64 lt)))) := Lib.hid (fun W h => by
    have hb := (Ch.of_below (S := fun _ => False) h).blk hbk (fun x => x)
    exact ⟨⟨obj_cell hb rfl, obj_cell hb rfl, obj_cell hb rfl, obj_cell hb rfl, obj_cell hb rfl, obj_cell hb rfl, obj_cell hb rfl, obj_cell hb rfl, obj_cell hb rfl, obj_cell hb rfl⟩, hG W ((below_then hal hal.size h).block g hgl)⟩)
  have HCK := Lib.hid (HCK0.out W0 hal)
  have HEP := Lib.hid (fun W (h : Below W0.heap.size W0 W) => SpanQ.equal_calls A qA c qc pos qp W ((hsp.below hal).below h).rd ((hqp.below hal).below h).rd (by have := hsp.len; omega) (by have := hqp.len; omega) hsp.cap hqp.cap hsp.nil hqp.nil)
  have HEN := Lib.hid (fun W (h : Below W0.heap.size W0 W) => SpanQ.equal_calls B qB d qd neg qn W ((hsn.below hal).below h).rd ((hqn.below hal).below h).rd (by have := hsn.len; omega) (by have := hqn.len; omega) hsn.cap hqn.cap hsn.nil hqn.nil)
  have HW0 := Lib.hid hW0
  have HB0 := Lib.hid hal
  have HEND := Lib.hid (fun W (hb : Below W0.heap.size W0 W) => below_then hal hal.size hb)
  have HNE := Lib.hid (fun W (hb : Below W0.heap.size W0 W) => (by have h1 := blk_lt hbk; have h2 := hb.size; have h3 := hal.size; exact ⟨by omega, by omega⟩ : w.heap.size < W.heap.size ∧ g < W.heap.size))
  clear hsp hsn hqp hqn hbk hW0 hal hobj hF hG hlt hgl hnn hltt HCK0
  by_cases h0 : k ≠ 0
  · have HR := Lib.hid (hWF.trans (if_pos h0))
    have e1 : ((k : Int) != 0) = true := by simp; exact h0
    clear hWF h0 HEZ
    go_enter Tryz.func107, Tryz.ntmps107
    go_wp2_with (fail)
    rw [← HW0.out]
    refine HCK.out.mono ?_
    rintro e w1 ⟨rfl, hb1⟩
    have B1 := Lib.hid hb1
    clear hb1 HCK
    go_wp2
    go_ret2
    exact ⟨by rw [HR.out]; rfl, HEND.out _ B1.out⟩
  have h0 := Decidable.not_not.1 h0
  subst h0
  obtain ⟨-, -, -, -, -, hs1, hs2⟩ := HEZ.out rfl
  have hc1 := (sideF_zero hs1).1
  have hc2 := (sideF_zero hs2).1
  rw [if_neg (by omega)] at hWF
  clear HEZ hs1 hs2
  have HP : ∀ b : Bool, decide (places pos = places qp) = b → Hid (∀ W, Below W0.heap.size W0 W → Calls Tryz.prog 170 #[.slice A pos.length c, .slice qA qp.length qc] W fun e w' => e = .returned (.bool b) ∧ Below W.heap.size W w') := fun b hb => Lib.hid (fun W h => by
    have := HEP.out W h
    rwa [show decide (chk pos = 0 ∧ chk qp = 0 ∧ places pos = places qp) = b from by rw [← hb]; simp [hc1, hq1]] at this)
  have HN : ∀ b : Bool, decide (places neg = places qn) = b → Hid (∀ W, Below W0.heap.size W0 W → Calls Tryz.prog 170 #[.slice B neg.length d, .slice qB qn.length qd] W fun e w' => e = .returned (.bool b) ∧ Below W.heap.size W w') := fun b hb => Lib.hid (fun W h => by
    have := HEN.out W h
    rwa [show decide (chk neg = 0 ∧ chk qn = 0 ∧ places neg = places qn) = b from by rw [← hb]; simp [hc2, hq2]] at this)
  clear HEP HEN hc1 hc2 hq1 hq2
  by_cases h1 : sc ≠ qs
  · have HR := Lib.hid (hWF.trans (if_pos h1))
    have e1 : (sc != qs) = true := by simpa using h1
    clear hWF h1 HP HN
    go_enter Tryz.func107, Tryz.ntmps107
    go_wp2_with (fail)
    rw [← HW0.out]
    refine HCK.out.mono ?_
    rintro e w1 ⟨rfl, hb1⟩
    have B1 := Lib.hid hb1
    obtain ⟨⟨k0, k1, k2, k3, k4, k5, k6, k7, k8, k9⟩, ⟨g0, g1, g2, g3, g4, g5, g7, g10⟩⟩ := HCEL.out _ hb1
    obtain ⟨n1, n2⟩ := HNE.out _ hb1
    clear hb1 HCK
    go_wp2
    go_ret2
    exact ⟨by rw [HR.out]; rfl, (HEND.out _ B1.out).alloc (HEND.out _ B1.out).size _⟩
  have h1 := Decidable.not_not.1 h1
  subst h1
  rw [if_neg (by simp)] at hWF
  by_cases h2 : z ≠ qz
  · have HR := Lib.hid (hWF.trans (if_pos h2))
    have e1 : ((z : Int) != (qz : Int)) = true := by simp; omega
    clear hWF h2 HP HN
    go_enter Tryz.func107, Tryz.ntmps107
    go_wp2_with (fail)
    rw [← HW0.out]
    refine HCK.out.mono ?_
    rintro e w1 ⟨rfl, hb1⟩
    have B1 := Lib.hid hb1
    obtain ⟨⟨k0, k1, k2, k3, k4, k5, k6, k7, k8, k9⟩, ⟨g0, g1, g2, g3, g4, g5, g7, g10⟩⟩ := HCEL.out _ hb1
    obtain ⟨n1, n2⟩ := HNE.out _ hb1
    clear hb1 HCK
    go_wp2
    go_ret2
    exact ⟨by rw [HR.out]; rfl, (HEND.out _ B1.out).alloc (HEND.out _ B1.out).size _⟩
  have h2 := Decidable.not_not.1 h2
  subst h2
  rw [if_neg (by simp)] at hWF
  have e0 : ((z : Int) != (z : Int)) = false := by simp
  have e00 : (sc != sc) = false := by simp
  by_cases h3 : places pos ≠ places qp
  · have HR := Lib.hid (hWF.trans (if_pos h3))
    have HP := HP false (decide_eq_false h3)
    clear hWF h3 HN
    go_enter Tryz.func107, Tryz.ntmps107
    go_wp2_with (fail)
    rw [← HW0.out]
    refine HCK.out.mono ?_
    rintro e w1 ⟨rfl, hb1⟩
    have B1 := Lib.hid hb1
    obtain ⟨⟨k0, k1, k2, k3, k4, k5, k6, k7, k8, k9⟩, ⟨g0, g1, g2, g3, g4, g5, g7, g10⟩⟩ := HCEL.out _ hb1
    obtain ⟨n1, n2⟩ := HNE.out _ hb1
    clear hb1 HCK
    obtain ⟨W2, hW2, hbk2, hb2⟩ : ∃ W : World, W = w1.alloc (.cells #[.int .i64 vr, .int .i64 hint, .int .i64 sc, .int .u64 z, .slice qA qp.length qc, .slice qB qn.length qd] 25) ∧ W.heap[w1.heap.size]? = some (.cells #[.int .i64 vr, .int .i64 hint, .int .i64 sc, .int .u64 z, .slice qA qp.length qc, .slice qB qn.length qd] 25 (0, 0)) ∧ Below W0.heap.size W0 W := ⟨_, rfl, blk_last w1 _, B1.out.alloc B1.out.size _⟩
    have HH := Lib.hid (fun W (h : Below W2.heap.size W2 W) => (⟨below_then hb2 hb2.size h, (by have hx := (Ch.of_below (S := fun _ => False) h).blk hbk2 (fun x => x); exact ⟨obj_cell hx rfl, obj_cell hx rfl, obj_cell hx rfl, obj_cell hx rfl, obj_cell hx rfl, obj_cell hx rfl⟩)⟩ : Below W0.heap.size W0 W ∧ (W.cell? ⟨w1.heap.size, 0, none⟩ = some (.int .i64 vr) ∧ W.cell? ⟨w1.heap.size, 1, none⟩ = some (.int .i64 hint) ∧ W.cell? ⟨w1.heap.size, 2, none⟩ = some (.int .i64 sc) ∧ W.cell? ⟨w1.heap.size, 3, none⟩ = some (.int .u64 z) ∧ W.cell? ⟨w1.heap.size, 4, none⟩ = some (.slice qA qp.length qc) ∧ W.cell? ⟨w1.heap.size, 5, none⟩ = some (.slice qB qn.length qd))))
    have HW2 := Lib.hid hW2
    have B2 := Lib.hid hb2
    clear hW2 hbk2 hb2
    go_wp2_with (fail)
    rw [← HW2.out]
    clear n1 n2 k0 k1 k2 k3 k4 k5 k6 k7 k8 k9 g0 g1 g2 g3 g4 g5 g7 g10
    refine (HP.out _ B2.out).mono ?_
    rintro e w3 ⟨rfl, hb⟩
    obtain ⟨hbq, m0, m1, m2, m3, m4, m5⟩ := HH.out _ hb
    have B3 := Lib.hid hbq
    have C3 := Lib.hid hb
    obtain ⟨⟨k0, k1, k2, k3, k4, k5, k6, k7, k8, k9⟩, ⟨g0, g1, g2, g3, g4, g5, g7, g10⟩⟩ := HCEL.out _ hbq
    clear hb hbq
    go_wp2
    go_ret2
    exact ⟨by rw [HR.out]; rfl, HEND.out _ B3.out⟩
  have HP := HP true (decide_eq_true (Decidable.not_not.1 h3))
  rw [if_neg h3] at hWF
  clear h3
  by_cases h4 : places neg ≠ places qn
  · have HR := Lib.hid (hWF.trans (if_pos h4))
    have HN := HN false (decide_eq_false h4)
    clear hWF h4
    go_enter Tryz.func107, Tryz.ntmps107
    go_wp2_with (fail)
    rw [← HW0.out]
    refine HCK.out.mono ?_
    rintro e w1 ⟨rfl, hb1⟩
    have B1 := Lib.hid hb1
    obtain ⟨⟨k0, k1, k2, k3, k4, k5, k6, k7, k8, k9⟩, ⟨g0, g1, g2, g3, g4, g5, g7, g10⟩⟩ := HCEL.out _ hb1
    obtain ⟨n1, n2⟩ := HNE.out _ hb1
    clear hb1 HCK
    obtain ⟨W2, hW2, hbk2, hb2⟩ : ∃ W : World, W = w1.alloc (.cells #[.int .i64 vr, .int .i64 hint, .int .i64 sc, .int .u64 z, .slice qA qp.length qc, .slice qB qn.length qd] 25) ∧ W.heap[w1.heap.size]? = some (.cells #[.int .i64 vr, .int .i64 hint, .int .i64 sc, .int .u64 z, .slice qA qp.length qc, .slice qB qn.length qd] 25 (0, 0)) ∧ Below W0.heap.size W0 W := ⟨_, rfl, blk_last w1 _, B1.out.alloc B1.out.size _⟩
    have HH := Lib.hid (fun W (h : Below W2.heap.size W2 W) => (⟨below_then hb2 hb2.size h, (by have hx := (Ch.of_below (S := fun _ => False) h).blk hbk2 (fun x => x); exact ⟨obj_cell hx rfl, obj_cell hx rfl, obj_cell hx rfl, obj_cell hx rfl, obj_cell hx rfl, obj_cell hx rfl⟩)⟩ : Below W0.heap.size W0 W ∧ (W.cell? ⟨w1.heap.size, 0, none⟩ = some (.int .i64 vr) ∧ W.cell? ⟨w1.heap.size, 1, none⟩ = some (.int .i64 hint) ∧ W.cell? ⟨w1.heap.size, 2, none⟩ = some (.int .i64 sc) ∧ W.cell? ⟨w1.heap.size, 3, none⟩ = some (.int .u64 z) ∧ W.cell? ⟨w1.heap.size, 4, none⟩ = some (.slice qA qp.length qc) ∧ W.cell? ⟨w1.heap.size, 5, none⟩ = some (.slice qB qn.length qd))))
    have HW2 := Lib.hid hW2
    have B2 := Lib.hid hb2
    clear hW2 hbk2 hb2
    go_wp2_with (fail)
    rw [← HW2.out]
    clear n1 n2 k0 k1 k2 k3 k4 k5 k6 k7 k8 k9 g0 g1 g2 g3 g4 g5 g7 g10
    refine (HP.out _ B2.out).mono ?_
    rintro e w3 ⟨rfl, hb⟩
    obtain ⟨hbq, m0, m1, m2, m3, m4, m5⟩ := HH.out _ hb
    have B3 := Lib.hid hbq
    have C3 := Lib.hid hb
    obtain ⟨⟨k0, k1, k2, k3, k4, k5, k6, k7, k8, k9⟩, ⟨g0, g1, g2, g3, g4, g5, g7, g10⟩⟩ := HCEL.out _ hbq
    clear hb hbq
    go_wp2_with (fail)
    refine (HN.out _ B3.out).mono ?_
    rintro e w4 ⟨rfl, hb⟩
    obtain ⟨hbq, m0, m1, m2, m3, m4, m5⟩ := HH.out _ (below_then C3.out C3.out.size hb)
    have B4 := Lib.hid hbq
    obtain ⟨⟨k0, k1, k2, k3, k4, k5, k6, k7, k8, k9⟩, ⟨g0, g1, g2, g3, g4, g5, g7, g10⟩⟩ := HCEL.out _ hbq
    clear hb hbq
    go_wp2
    go_ret2
    exact ⟨by rw [HR.out]; rfl, HEND.out _ B4.out⟩
  have HN := HN true (decide_eq_true (Decidable.not_not.1 h4))
  rw [if_neg h4] at hWF
  clear h4
  rcases Nat.eq_zero_or_pos n with h5 | h5
  · have HR := Lib.hid (hWF.trans (if_neg (by omega)))
    have e1 : decide ((n : Int) > 0) = false := by simp; omega
    have e1' : decide (0 < (n : Int)) = false := by simp; omega
    have e1n : decide (0 < n) = false := by simp; omega
    have e2 : decide ((n : Int) ≥ 1024) = false := by simp; omega
    have e2' : decide (1024 ≤ (n : Int)) = false := by simp; omega
    have e2n : decide (1024 ≤ n) = false := by simp; omega
    clear hWF h5
    go_enter Tryz.func107, Tryz.ntmps107
    go_wp2_with (fail)
    rw [← HW0.out]
    refine HCK.out.mono ?_
    rintro e w1 ⟨rfl, hb1⟩
    have B1 := Lib.hid hb1
    obtain ⟨⟨k0, k1, k2, k3, k4, k5, k6, k7, k8, k9⟩, ⟨g0, g1, g2, g3, g4, g5, g7, g10⟩⟩ := HCEL.out _ hb1
    obtain ⟨n1, n2⟩ := HNE.out _ hb1
    clear hb1 HCK
    obtain ⟨W2, hW2, hbk2, hb2⟩ : ∃ W : World, W = w1.alloc (.cells #[.int .i64 vr, .int .i64 hint, .int .i64 sc, .int .u64 z, .slice qA qp.length qc, .slice qB qn.length qd] 25) ∧ W.heap[w1.heap.size]? = some (.cells #[.int .i64 vr, .int .i64 hint, .int .i64 sc, .int .u64 z, .slice qA qp.length qc, .slice qB qn.length qd] 25 (0, 0)) ∧ Below W0.heap.size W0 W := ⟨_, rfl, blk_last w1 _, B1.out.alloc B1.out.size _⟩
    have HH := Lib.hid (fun W (h : Below W2.heap.size W2 W) => (⟨below_then hb2 hb2.size h, (by have hx := (Ch.of_below (S := fun _ => False) h).blk hbk2 (fun x => x); exact ⟨obj_cell hx rfl, obj_cell hx rfl, obj_cell hx rfl, obj_cell hx rfl, obj_cell hx rfl, obj_cell hx rfl⟩)⟩ : Below W0.heap.size W0 W ∧ (W.cell? ⟨w1.heap.size, 0, none⟩ = some (.int .i64 vr) ∧ W.cell? ⟨w1.heap.size, 1, none⟩ = some (.int .i64 hint) ∧ W.cell? ⟨w1.heap.size, 2, none⟩ = some (.int .i64 sc) ∧ W.cell? ⟨w1.heap.size, 3, none⟩ = some (.int .u64 z) ∧ W.cell? ⟨w1.heap.size, 4, none⟩ = some (.slice qA qp.length qc) ∧ W.cell? ⟨w1.heap.size, 5, none⟩ = some (.slice qB qn.length qd))))
    have HW2 := Lib.hid hW2
    have B2 := Lib.hid hb2
    clear hW2 hbk2 hb2
    go_wp2_with (fail)
    rw [← HW2.out]
    clear n1 n2 k0 k1 k2 k3 k4 k5 k6 k7 k8 k9 g0 g1 g2 g3 g4 g5 g7 g10
    refine (HP.out _ B2.out).mono ?_
    rintro e w3 ⟨rfl, hb⟩
    obtain ⟨hbq, m0, m1, m2, m3, m4, m5⟩ := HH.out _ hb
    have B3 := Lib.hid hbq
    have C3 := Lib.hid hb
    obtain ⟨⟨k0, k1, k2, k3, k4, k5, k6, k7, k8, k9⟩, ⟨g0, g1, g2, g3, g4, g5, g7, g10⟩⟩ := HCEL.out _ hbq
    clear hb hbq
    go_wp2_with (fail)
    refine (HN.out _ B3.out).mono ?_
    rintro e w4 ⟨rfl, hb⟩
    obtain ⟨hbq, m0, m1, m2, m3, m4, m5⟩ := HH.out _ (below_then C3.out C3.out.size hb)
    have B4 := Lib.hid hbq
    obtain ⟨⟨k0, k1, k2, k3, k4, k5, k6, k7, k8, k9⟩, ⟨g0, g1, g2, g3, g4, g5, g7, g10⟩⟩ := HCEL.out _ hbq
    clear hb hbq
    go_wp2
    go_quiet (fail)
    go_wp2
    go_ret2
    exact ⟨by rw [HR.out]; rfl, pw_below_drewN (HEND.out _ B4.out) _⟩
  have e1 : decide ((n : Int) > 0) = true := by simp; omega
  have e1' : decide (0 < (n : Int)) = true := by simp; omega
  have e1n : decide (0 < n) = true := by simp; omega
  by_cases h6 : t ≤ lt
  · have HR := Lib.hid (hWF.trans (if_pos ⟨h5, h6⟩))
    have e3 : decide (t ≤ lt) = true := by simpa using h6
    clear hWF h5 h6
    go_enter Tryz.func107, Tryz.ntmps107
    go_wp2_with (fail)
    rw [← HW0.out]
    refine HCK.out.mono ?_
    rintro e w1 ⟨rfl, hb1⟩
    have B1 := Lib.hid hb1
    obtain ⟨⟨k0, k1, k2, k3, k4, k5, k6, k7, k8, k9⟩, ⟨g0, g1, g2, g3, g4, g5, g7, g10⟩⟩ := HCEL.out _ hb1
    obtain ⟨n1, n2⟩ := HNE.out _ hb1
    clear hb1 HCK
    obtain ⟨W2, hW2, hbk2, hb2⟩ : ∃ W : World, W = w1.alloc (.cells #[.int .i64 vr, .int .i64 hint, .int .i64 sc, .int .u64 z, .slice qA qp.length qc, .slice qB qn.length qd] 25) ∧ W.heap[w1.heap.size]? = some (.cells #[.int .i64 vr, .int .i64 hint, .int .i64 sc, .int .u64 z, .slice qA qp.length qc, .slice qB qn.length qd] 25 (0, 0)) ∧ Below W0.heap.size W0 W := ⟨_, rfl, blk_last w1 _, B1.out.alloc B1.out.size _⟩
    have HH := Lib.hid (fun W (h : Below W2.heap.size W2 W) => (⟨below_then hb2 hb2.size h, (by have hx := (Ch.of_below (S := fun _ => False) h).blk hbk2 (fun x => x); exact ⟨obj_cell hx rfl, obj_cell hx rfl, obj_cell hx rfl, obj_cell hx rfl, obj_cell hx rfl, obj_cell hx rfl⟩)⟩ : Below W0.heap.size W0 W ∧ (W.cell? ⟨w1.heap.size, 0, none⟩ = some (.int .i64 vr) ∧ W.cell? ⟨w1.heap.size, 1, none⟩ = some (.int .i64 hint) ∧ W.cell? ⟨w1.heap.size, 2, none⟩ = some (.int .i64 sc) ∧ W.cell? ⟨w1.heap.size, 3, none⟩ = some (.int .u64 z) ∧ W.cell? ⟨w1.heap.size, 4, none⟩ = some (.slice qA qp.length qc) ∧ W.cell? ⟨w1.heap.size, 5, none⟩ = some (.slice qB qn.length qd))))
    have HW2 := Lib.hid hW2
    have B2 := Lib.hid hb2
    clear hW2 hbk2 hb2
    go_wp2_with (fail)
    rw [← HW2.out]
    clear n1 n2 k0 k1 k2 k3 k4 k5 k6 k7 k8 k9 g0 g1 g2 g3 g4 g5 g7 g10
    refine (HP.out _ B2.out).mono ?_
    rintro e w3 ⟨rfl, hb⟩
    obtain ⟨hbq, m0, m1, m2, m3, m4, m5⟩ := HH.out _ hb
    have B3 := Lib.hid hbq
    have C3 := Lib.hid hb
    obtain ⟨⟨k0, k1, k2, k3, k4, k5, k6, k7, k8, k9⟩, ⟨g0, g1, g2, g3, g4, g5, g7, g10⟩⟩ := HCEL.out _ hbq
    clear hb hbq
    go_wp2_with (fail)
    refine (HN.out _ B3.out).mono ?_
    rintro e w4 ⟨rfl, hb⟩
    obtain ⟨hbq, m0, m1, m2, m3, m4, m5⟩ := HH.out _ (below_then C3.out C3.out.size hb)
    have B4 := Lib.hid hbq
    obtain ⟨⟨k0, k1, k2, k3, k4, k5, k6, k7, k8, k9⟩, ⟨g0, g1, g2, g3, g4, g5, g7, g10⟩⟩ := HCEL.out _ hbq
    clear hb hbq
    go_wp2
    go_quiet (fail)
    go_wp2
    go_ret2
    exact ⟨by rw [HR.out]; rfl, pw_below_drewN (HEND.out _ B4.out) _⟩
  have HR := Lib.hid (hWF.trans (if_neg (by omega)))
  have e3 : decide (t ≤ lt) = false := by simpa using h6
  have e2 : decide ((n : Int) ≥ 1024) = false := by simp; omega
  have e2' : decide (1024 ≤ (n : Int)) = false := by simp; omega
  have e2n : decide (1024 ≤ n) = false := by simp; omega
  clear hWF h5 h6
  go_enter Tryz.func107, Tryz.ntmps107
  go_wp2_with (fail)
  rw [← HW0.out]
  refine HCK.out.mono ?_
  rintro e w1 ⟨rfl, hb1⟩
  have B1 := Lib.hid hb1
  obtain ⟨⟨k0, k1, k2, k3, k4, k5, k6, k7, k8, k9⟩, ⟨g0, g1, g2, g3, g4, g5, g7, g10⟩⟩ := HCEL.out _ hb1
  obtain ⟨n1, n2⟩ := HNE.out _ hb1
  clear hb1 HCK
  obtain ⟨W2, hW2, hbk2, hb2⟩ : ∃ W : World, W = w1.alloc (.cells #[.int .i64 vr, .int .i64 hint, .int .i64 sc, .int .u64 z, .slice qA qp.length qc, .slice qB qn.length qd] 25) ∧ W.heap[w1.heap.size]? = some (.cells #[.int .i64 vr, .int .i64 hint, .int .i64 sc, .int .u64 z, .slice qA qp.length qc, .slice qB qn.length qd] 25 (0, 0)) ∧ Below W0.heap.size W0 W := ⟨_, rfl, blk_last w1 _, B1.out.alloc B1.out.size _⟩
  have HH := Lib.hid (fun W (h : Below W2.heap.size W2 W) => (⟨below_then hb2 hb2.size h, (by have hx := (Ch.of_below (S := fun _ => False) h).blk hbk2 (fun x => x); exact ⟨obj_cell hx rfl, obj_cell hx rfl, obj_cell hx rfl, obj_cell hx rfl, obj_cell hx rfl, obj_cell hx rfl⟩)⟩ : Below W0.heap.size W0 W ∧ (W.cell? ⟨w1.heap.size, 0, none⟩ = some (.int .i64 vr) ∧ W.cell? ⟨w1.heap.size, 1, none⟩ = some (.int .i64 hint) ∧ W.cell? ⟨w1.heap.size, 2, none⟩ = some (.int .i64 sc) ∧ W.cell? ⟨w1.heap.size, 3, none⟩ = some (.int .u64 z) ∧ W.cell? ⟨w1.heap.size, 4, none⟩ = some (.slice qA qp.length qc) ∧ W.cell? ⟨w1.heap.size, 5, none⟩ = some (.slice qB qn.length qd))))
  have HW2 := Lib.hid hW2
  have B2 := Lib.hid hb2
  clear hW2 hbk2 hb2
  go_wp2_with (fail)
  rw [← HW2.out]
  clear n1 n2 k0 k1 k2 k3 k4 k5 k6 k7 k8 k9 g0 g1 g2 g3 g4 g5 g7 g10
  refine (HP.out _ B2.out).mono ?_
  rintro e w3 ⟨rfl, hb⟩
  obtain ⟨hbq, m0, m1, m2, m3, m4, m5⟩ := HH.out _ hb
  have B3 := Lib.hid hbq
  have C3 := Lib.hid hb
  obtain ⟨⟨k0, k1, k2, k3, k4, k5, k6, k7, k8, k9⟩, ⟨g0, g1, g2, g3, g4, g5, g7, g10⟩⟩ := HCEL.out _ hbq
  clear hb hbq
  go_wp2_with (fail)
  refine (HN.out _ B3.out).mono ?_
  rintro e w4 ⟨rfl, hb⟩
  obtain ⟨hbq, m0, m1, m2, m3, m4, m5⟩ := HH.out _ (below_then C3.out C3.out.size hb)
  have B4 := Lib.hid hbq
  obtain ⟨⟨k0, k1, k2, k3, k4, k5, k6, k7, k8, k9⟩, ⟨g0, g1, g2, g3, g4, g5, g7, g10⟩⟩ := HCEL.out _ hbq
  clear hb hbq
  go_wp2
  go_quiet (fail)
  go_wp2
  go_ret2
  exact ⟨by rw [HR.out]; rfl, pw_below_drewN (HEND.out _ B4.out) _⟩

end Go.Proofs.YtjfekjbmgckkcaaGreatDoor.FcC

/- fchunk's walks: how long, how many bits; what one more would have. -/
namespace Go.Proofs.YtjfekjbmgckkcaaGreatDoor.FcD
open Go.RowKit Go.Proofs.YtjfekjbmgckkcaaGreatDoorW.PrintWords
open Go.Proofs.YtjfekjbmgckkcaaGreatDoor.Bits Go.Proofs.YtjfekjbmgckkcaaGreatDoor.Base Go.Proofs.YtjfekjbmgckkcaaGreatDoor.VarPure Go.Proofs.YtjfekjbmgckkcaaGreatDoor.VarbitA Go.Proofs.YtjfekjbmgckkcaaGreatDoor.StreamA Go.Proofs.YtjfekjbmgckkcaaGreatDoor.TimesPure Go.Proofs.YtjfekjbmgckkcaaGreatDoor.TimesA Go.Proofs.YtjfekjbmgckkcaaGreatDoor.Ref12 Go.Proofs.YtjfekjbmgckkcaaGreatDoor.Ref13 Go.Proofs.YtjfekjbmgckkcaaGreatDoor.SpanPure Go.Proofs.YtjfekjbmgckkcaaGreatDoor.SpanBase Go.Proofs.YtjfekjbmgckkcaaGreatDoor.FailAs Go.Proofs.YtjfekjbmgckkcaaGreatDoor.FailB Go.Proofs.YtjfekjbmgckkcaaGreatDoor.FailC Go.Proofs.YtjfekjbmgckkcaaGreatDoor.HeadA Go.Proofs.YtjfekjbmgckkcaaGreatDoor.HeadB Go.Proofs.YtjfekjbmgckkcaaGreatDoor.HeadE Go.Proofs.YtjfekjbmgckkcaaGreatDoor.HeadPure Go.Proofs.YtjfekjbmgckkcaaGreatDoor.XorPure Go.Proofs.YtjfekjbmgckkcaaGreatDoor.XorA Go.Proofs.YtjfekjbmgckkcaaGreatDoor.XorB Go.Proofs.YtjfekjbmgckkcaaGreatDoor.FcPure Go.Proofs.YtjfekjbmgckkcaaGreatDoor.FcObj Go.Proofs.YtjfekjbmgckkcaaGreatDoor.FcA Go.Proofs.YtjfekjbmgckkcaaGreatDoor.FcB Go.Proofs.YtjfekjbmgckkcaaGreatDoor.FcC

/-- a chunk's bits. -/
def chunkB (q : Hd) (l : List FS) : List Bool := encH q ++ bitsB l
set_option maxHeartbeats 400000 in
theorem bits_calls (g : Nat) (S : Nat → Prop) (q : Hd) (l : List FS) (x : FkL) (w : World) (hF : Fk w g S q l x) (hm : (chunkB q l).length ≤ 1000000000) :
    Calls Tryz.prog 40 #[.pointer (some ⟨g, 0, none⟩)] w fun e w' => e = .returned (.int .i64 (16 + (chunkB q l).length : Nat)) ∧ w = w' := by
  have c6 : w.cell? ⟨g, 6, none⟩ = some (.pointer (some ⟨x.gw, 0, none⟩)) := obj_cell hF.obj rfl
  have HL := Lib.hid (len_calls x.gw x.Sw _ w hF.wr)
  rw [show encH q ++ bitsB l = chunkB q l from rfl] at HL
  obtain ⟨n, hn⟩ : ∃ n, n = (chunkB q l).length := ⟨_, rfl⟩
  rw [← hn] at HL hm ⊢
  clear hF hn
  go_enter Tryz.func40, Tryz.ntmps40
  go_wp2_with (fail)
  refine HL.out.mono ?_
  rintro e w' ⟨rfl, rfl⟩
  go_wp2
  go_ret
  exact ⟨by go_num, rfl⟩
set_option maxHeartbeats 400000 in
theorem len_calls (g : Nat) (S : Nat → Prop) (q : Hd) (l : List FS) (x : FkL) (w : World) (hF : Fk w g S q l x) :
    Calls Tryz.prog 48 #[.pointer (some ⟨g, 0, none⟩)] w fun e w' => e = .returned (.int .i64 l.length) ∧ w = w' := by
  have c7 : w.cell? ⟨g, 7, none⟩ = some (.int .i64 l.length) := obj_cell hF.obj rfl
  clear hF
  go_enter Tryz.func48, Tryz.ntmps48
  go_wp2
  go_ret
  exact ⟨rfl, rfl⟩

/-- room for one more. -/
def Room (q : Hd) (l : List FS) : Prop := 16 + (chunkB q l).length + (72 + 77 * width q) ≤ 16777216 ∧ l.length < 1000
/-- what one more would have, or why it can't be there. -/
def CostPost (q : Hd) (l : List FS) (s : FS) (w : World) (e : Ending) (w' : World) : Prop :=
  Below w.heap.size w w' ∧ (((wrongF q l s).1 ≠ 0 ∧ ∃ v, e = .returned (.tuple #[.int .i64 0, v]) ∧ Err w' v (plc (wrongF q l s).1 (wrongF q l s).2 l.length) .nilIface) ∨
    ((wrongF q l s).1 = 0 ∧ e = .returned (.tuple #[.int .i64 (lastB l s).length, .nilIface])))
theorem getD_at {l : List Nat} {k : Nat} (h : k < l.length) : l.getD k 0 = l[k] := by rw [List.getD_eq_getElem?_getD, List.getElem?_eq_getElem h]; rfl
set_option maxRecDepth 100000 in
set_option maxHeartbeats 6400000 in
theorem cost_calls (g : Nat) (S : Nat → Prop) (q : Hd) (l : List FS) (x : FkL) (s : FS) (p : Lh) (w : World) (hF : Fk w g S q l x) (hs : FhIn w s.h p) (h64 : In64S s) (hR : Room q l) (hE : GlE w) (hT : Tab w) (hZ : Tz w) :
    Calls Tryz.prog 41 #[.pointer (some ⟨g, 0, none⟩), .agg (scs s p).toArray] w (CostPost q l s w) := by
  have hWR := fun W (h : Below w.heap.size w W) => FcC.wrong_calls g S q l x s p W (hF.below h) (hs.below h) hR.2
  have hobj := hF.obj
  have hgl := blk_lt hobj
  have HPO := Lib.hid (show CostPost q l s w = fun e w' => Below w.heap.size w w' ∧ (((wrongF q l s).1 ≠ 0 ∧ ∃ v, e = .returned (.tuple #[.int .i64 0, v]) ∧ Err w' v (plc (wrongF q l s).1 (wrongF q l s).2 l.length) .nilIface) ∨
    ((wrongF q l s).1 = 0 ∧ e = .returned (.tuple #[.int .i64 (lastB l s).length, .nilIface]))) from rfl)
  rw [HPO.out]
  have HWW := Lib.hid (fun h => (wrong_width (q := q) (l := l) (s := s) h))
  have HLB := Lib.hid (show (lastB l s).length = (toldL true (ts l) (u64 s.t)).length + (colsB l s (vals s.h).length).length from by unfold lastB; rw [List.length_append])
  have HCS := Lib.hid (fun k => (by rw [colsB_succ, List.length_append] : (colsB l s (k + 1)).length = (colsB l s k).length + (colB l s k).length))
  have HCL := Lib.hid (fun k => colsB_le hF.n64 h64 k)
  have hTL := toldL_le true (ts l) (u64 s.t)
  have hN := hR.1
  have HBI := Lib.hid (fun W (h : Below w.heap.size w W) => bits_calls g S q l x W (hF.below h) (by have := hR.1; omega))
  have HTC := Lib.hid (fun W (h : Below w.heap.size w W) => costS_calls x.gt (lastOf (ts l)) (stepOf (ts l)) l.length (u64 s.t) W (hT.below h) (hF.below h).tr (u64_lt _))
  rw [show told true (lastOf (ts l)) (stepOf (ts l)) l.length (u64 s.t) = toldL true (ts l) (u64 s.t) from by unfold toldL; rw [ts_length], i64_u64 s.t h64.lo h64.hi] at HTC
  have HXC := Lib.hid (fun W (h : Below w.heap.size w W) (k : Nat) (hk : k < x.cols.length) => XorB.cost_calls x.cols[k] (colX (col l k)) ((vals s.h).getD k 0) W (hZ.below h) ((hF.below h).xs k hk) (getD64 (vals64 h64.h) k))
  have HVP := Lib.hid (fun W (h : Below w.heap.size w W) (k : Nat) (hk : k < x.cols.length) => (hF.below h).vals k hk)
  have HCN := Lib.hid (hF.cl)
  have HVC := Lib.hid (hF.vc)
  have HAT := Lib.hid (fun c nm W (h : Below w.heap.size w W) => FcA.at_calls c nm (l.length : Nat) W (gle_below hE h))
  have HVA := Lib.hid (fun W (h : Below w.heap.size w W) (h1 : s.h.pc.length ≤ 4096) (h2 : s.h.nc.length ≤ 4096) => values_calls s p W (hs.below h) h1 h2)
  have HWZ := Lib.hid (fun (h : (wrongF q l s).1 = 0) => (by
    obtain ⟨h1, -, -, h4, h5, -⟩ := wrong_zero h
    obtain ⟨-, -, -, -, -, h6, h7⟩ := errF_zero h1
    have := places_len (SpanQ.right_of (sideF_zero h6).1)
    have := places_len (SpanQ.right_of (sideF_zero h7).1)
    exact ⟨by rw [← (sideF_zero h6).2.1]; omega, by rw [← (sideF_zero h7).2.1]; omega⟩ : s.h.pc.length ≤ 4096 ∧ s.h.nc.length ≤ 4096))
  obtain ⟨r, hr⟩ : ∃ r, r = wrongF q l s := ⟨_, rfl⟩
  rw [← hr] at hWR HWW HWZ ⊢
  clear hr HPO hF hs hE hT hZ hR
  obtain ⟨vs, hvs⟩ : ∃ vs, vs = vals s.h := ⟨_, rfl⟩
  rw [← hvs] at HWW HLB HXC HVA
  obtain ⟨tl, htl⟩ : ∃ tl, tl = (toldL true (ts l) (u64 s.t)).length := ⟨_, rfl⟩
  rw [← htl] at HLB HTC hTL
  obtain ⟨lb, hlb⟩ : ∃ lb, lb = (lastB l s).length := ⟨_, rfl⟩
  rw [← hlb] at HLB ⊢
  obtain ⟨cb, hcb⟩ : ∃ cb, cb = (chunkB q l).length := ⟨_, rfl⟩
  rw [← hcb] at HBI hN
  obtain ⟨n, hnn⟩ : ∃ n, n = l.length := ⟨_, rfl⟩
  obtain ⟨N, hNN⟩ : ∃ N, N = width q := ⟨_, rfl⟩
  rw [← hnn] at HAT ⊢
  rw [← hNN] at HWW hN HCN HVC
  have HCB : Hid (∀ (k : Nat), (toldX (colX (col l k)) (vs.getD k 0)).length = (colB l s k).length) := Lib.hid (fun k => by rw [hvs]; rfl)
  obtain ⟨cf, hcf⟩ : ∃ cf : Nat → Nat, cf = fun k => (colsB l s k).length := ⟨_, rfl⟩
  have HF1 : Hid (∀ k, cf (k + 1) = cf k + (colB l s k).length) := Lib.hid (fun k => by rw [hcf]; exact HCS.out k)
  have HF2 : Hid (∀ k, cf k ≤ 77 * k) := Lib.hid (fun k => by rw [hcf]; exact HCL.out k)
  have HC0 : Hid (cf 0 = 0) := Lib.hid (by rw [hcf]; rfl)
  rw [show (colsB l s vs.length).length = cf vs.length from by rw [hcf]] at HLB
  obtain ⟨⟨pA, pc', pB, pd⟩, gw, gt, Sw, va, vc, cols, lr, TT⟩ := x
  simp only at HXC HVP HCN HVC HTC hobj
  have hG : ∀ W : World, W.heap[g]? = w.heap[g]? → (W.cell? ⟨g, 6, none⟩ = some (.pointer (some ⟨gw, 0, none⟩)) ∧ W.cell? ⟨g, 7, none⟩ = some (.int .i64 n) ∧ W.cell? ⟨g, 8, none⟩ = some (.pointer (some ⟨gt, 0, none⟩)) ∧ W.cell? ⟨g, 9, none⟩ = some (.slice (some va) N vc)) := fun W h => by
    have h2 := h.trans hobj
    refine ⟨obj_cell h2 rfl, ?_, obj_cell h2 rfl, ?_⟩
    · rw [hnn]; exact obj_cell h2 rfl
    · rw [hNN]; exact obj_cell h2 rfl
  clear HCS HCL hcf hnn hNN hlb htl hvs hcb
  obtain ⟨t, sc, z, zc, cn, su, pos, neg, pc, nc⟩ := s
  obtain ⟨A, c, B, d, C, cc, D, dd⟩ := p
  simp only [scs, fcs] at hWR HVA
  show Calls Tryz.prog 41 #[.pointer (some ⟨g, 0, none⟩), .agg #[.int .i64 t, .int .i64 sc, .int .u64 z, .int .u64 zc, .int .u64 cn, .int .u64 su, .slice A pos.length c, .slice B neg.length d, .slice C pc.length cc, .slice D nc.length dd]] w _
  obtain ⟨W0, hW0, hbk, hal⟩ : ∃ W0 : World, W0 = w.alloc (.cells #[.int .i64 t, .int .i64 sc, .int .u64 z, .int .u64 zc, .int .u64 cn, .int .u64 su, .slice A pos.length c, .slice B neg.length d, .slice C pc.length cc, .slice D nc.length dd] 74) ∧ W0.heap[w.heap.size]? = some (.cells #[.int .i64 t, .int .i64 sc, .int .u64 z, .int .u64 zc, .int .u64 cn, .int .u64 su, .slice A pos.length c, .slice B neg.length d, .slice C pc.length cc, .slice D nc.length dd] 74 (0, 0)) ∧ Below w.heap.size w W0 := ⟨_, rfl, blk_last w _, below_alloc (Below.refl _ _) _⟩
  have HCEL : Hid (∀ W : World, Below W0.heap.size W0 W → ((W.cell? ⟨w.heap.size, 0, none⟩ = some (.int .i64 t) ∧ W.cell? ⟨w.heap.size, 1, none⟩ = some (.int .i64 sc) ∧ W.cell? ⟨w.heap.size, 2, none⟩ = some (.int .u64 z) ∧ W.cell? ⟨w.heap.size, 3, none⟩ = some (.int .u64 zc) ∧ W.cell? ⟨w.heap.size, 4, none⟩ = some (.int .u64 cn) ∧ W.cell? ⟨w.heap.size, 5, none⟩ = some (.int .u64 su) ∧ W.cell? ⟨w.heap.size, 6, none⟩ = some (.slice A pos.length c) ∧ W.cell? ⟨w.heap.size, 7, none⟩ = some (.slice B neg.length d) ∧ W.cell? ⟨w.heap.size, 8, none⟩ = some (.slice C pc.length cc) ∧ W.cell? ⟨w.heap.size, 9, none⟩ = some (.slice D nc.length dd)) ∧ (W.cell? ⟨g, 6, none⟩ = some (.pointer (some ⟨gw, 0, none⟩)) ∧ W.cell? ⟨g, 7, none⟩ = some (.int .i64 n) ∧ W.cell? ⟨g, 8, none⟩ = some (.pointer (some ⟨gt, 0, none⟩)) ∧ W.cell? ⟨g, 9, none⟩ = some (.slice (some va) N vc)))) := Lib.hid (fun W h => by
    have hb := (Ch.of_below (S := fun _ => False) h).blk hbk (fun x => x)
    exact ⟨⟨obj_cell hb rfl, obj_cell hb rfl, obj_cell hb rfl, obj_cell hb rfl, obj_cell hb rfl, obj_cell hb rfl, obj_cell hb rfl, obj_cell hb rfl, obj_cell hb rfl, obj_cell hb rfl⟩, hG W ((below_then hal hal.size h).block g hgl)⟩)
  have HEND := Lib.hid (fun W (hb : Below W0.heap.size W0 W) => below_then hal hal.size hb)
  have HW0 := Lib.hid hW0
  have HWR := Lib.hid (hWR W0 hal)
  clear hobj hG hgl hbk hW0 hal hWR
  go_enter Tryz.func41, Tryz.ntmps41
  go_wp2_with (fail)
  rw [← HW0.out]
  refine HWR.out.mono ?_
  rintro e w1 ⟨rfl, hb1⟩
  have B1 := Lib.hid hb1
  obtain ⟨⟨k0, k1, k2, k3, k4, k5, k6, k7, k8, k9⟩, ⟨g6, g7, g8, g9⟩⟩ := HCEL.out _ hb1
  obtain ⟨rc, rn⟩ := r
  simp only at HWW HWZ ⊢
  clear hb1 HWR
  by_cases h0 : rc ≠ 0
  · have e1 : ((rc : Int) != 0) = true := by simp; exact h0
    have H0 := Lib.hid h0
    clear h0
    go_wp2_with (fail)
    refine (HAT.out rc rn _ (HEND.out _ B1.out)).mono ?_
    rintro e w2 ⟨v2, rfl, he, hb2⟩
    have E2 := Lib.hid he
    have B2 := Lib.hid (below_then (HEND.out _ B1.out) (HEND.out _ B1.out).size hb2)
    clear he hb2
    go_wp2
    go_ret2
    exact ⟨B2.out, .inl ⟨H0.out, v2, rfl, E2.out⟩⟩
  have h0 := Decidable.not_not.1 h0
  subst h0
  have hvl := HWW.out rfl
  obtain ⟨hz1, hz2⟩ := HWZ.out rfl
  have HTC := Lib.hid (fun m => HTC.out (w1.drewN m) (pw_below_drewN (HEND.out _ B1.out) m))
  clear HWW HWZ
  go_wp2_with (fail)
  go_quiet (first | (go_at_call 108; exact q_drawn (HTC.out _)))
  have B2 := Lib.hid (pw_below_drewN B1.out nq)
  go_wp2_with (fail)
  refine (HVA.out _ (HEND.out _ B2.out) hz1 hz2).mono ?_
  rintro e w3 ⟨v, rfl, ho, hb3⟩
  obtain ⟨A3, c3, rfl, hc3, hr3⟩ := ho.reads
  rw [nats_length] at hc3 ⊢
  have B3 := Lib.hid (below_then B2.out B2.out.size hb3)
  have HR3 := Lib.hid hr3
  have HV := Lib.hid hvl
  have hN2 : N ≤ 217900 := by omega
  clear hb3 ho hr3 hc3
  clear k0 k1 k2 k3 k4 k5 k6 k7 k8 k9 g6 g7 g8 g9
  rw [hvl]
  clear hvl
  go_wp2_with (fail)
  go_loopw [8, 9, 10, 36] (fun m _ _ i wr => ∃ (k a : Nat), k ≤ N ∧ i = .int .i64 k ∧ m = .int .i64 a ∧ Hid (a = tl + cf k) ∧ Below w3.heap.size w3 wr) (fun _ _ _ i _ => N - (intOf i).toNat)
  case atStart => exact ⟨0, tl, by omega, rfl, rfl, Lib.hid (by rw [HC0.out, Nat.add_zero]), Below.refl _ _⟩
  case round =>
    obtain ⟨k, a, hk, rfl, rfl, HA, hb⟩ := hrel
    have BW := Lib.hid hb
    have B4 := Lib.hid (below_then B3.out B3.out.size hb)
    obtain ⟨⟨k0, k1, k2, k3, k4, k5, k6, k7, k8, k9⟩, ⟨g6, g7, g8, g9⟩⟩ := HCEL.out _ B4.out
    have hak : a ≤ 72 + 77 * k := by rw [HA.out]; have := HF2.out k; omega
    by_cases hlt : k < N
    · have hkc : k < cols.length := by rw [HCN.out]; exact hlt
      have hvk := HVP.out _ (HEND.out _ B4.out) k hkc
      have hxc := HXC.out _ (HEND.out _ B4.out) k hkc
      obtain ⟨ad, hA, hc⟩ := nat_at (HR3.out.below hb) k (by rw [HV.out]; exact hlt)
      subst hA
      rw [HCB.out k] at hxc
      rw [getD_at (show k < vs.length by rw [HV.out]; exact hlt)] at hxc
      have HA1 := Lib.hid (show a + (colB l ⟨t, sc, z, zc, cn, su, pos, neg, pc, nc⟩ k).length = tl + cf (k + 1) from by rw [HA.out, HF1.out k]; omega)
      have hle := HF2.out (k + 1)
      rw [HF1.out k] at hle
      obtain ⟨u, hu⟩ : ∃ u, u = vs[k]'(by rw [HV.out]; exact hlt) := ⟨_, rfl⟩
      rw [← hu] at hc hxc
      obtain ⟨y, hy⟩ : ∃ y, y = (colB l ⟨t, sc, z, zc, cn, su, pos, neg, pc, nc⟩ k).length := ⟨_, rfl⟩
      rw [← hy] at hxc HA1 hle
      obtain ⟨cl, hcl⟩ : ∃ cl, cl = cols[k] := ⟨_, rfl⟩
      rw [← hcl] at hvk hxc
      have HX := Lib.hid hxc
      have hkv : k < vc := by have := HVC.out; omega
      clear hb hxc hu hy hcl
      go_wp2_with (fail)
      refine HX.out.mono ?_
      rintro e w5 ⟨rfl, hb5⟩
      have B5 := Lib.hid (below_then BW.out BW.out.size hb5)
      clear hb5
      go_wp2
      go_roundw
      case rel => exact ⟨k + 1, a + y, by omega, by go_num, by go_num, HA1, B5.out⟩
      case measure => simp [intOf]; omega
    · obtain rfl : k = N := by omega
      have HBI := Lib.hid (HBI.out _ (HEND.out _ B4.out))
      have HAL : Hid (a = lb) := Lib.hid (by rw [HLB.out, HV.out]; exact HA.out)
      have e1 : decide ((a : Int) > 16777216 - ((16 + cb : Nat) : Int)) = false := by simp; omega
      have e1' : decide (16777216 - ((16 + cb : Nat) : Int) < (a : Int)) = false := by simp; omega
      obtain ⟨cc16, hcc⟩ : ∃ m, m = 16 + cb := ⟨_, rfl⟩
      rw [← hcc] at HBI e1 e1'
      have hcc2 : cc16 ≤ 16777216 := by omega
      clear hb hcc
      go_wp2_with (fail)
      refine HBI.out.mono ?_
      rintro e w5 ⟨rfl, rfl⟩
      go_wp2
      go_ret2
      exact ⟨HEND.out _ B4.out, by rw [HAL.out]; rfl⟩

end Go.Proofs.YtjfekjbmgckkcaaGreatDoor.FcD

/- fchunk's object while a sample is appended. -/
namespace Go.Proofs.YtjfekjbmgckkcaaGreatDoor.FcE
open Go.RowKit Go.Proofs.YtjfekjbmgckkcaaGreatDoorW.PrintWords
open Go.Proofs.YtjfekjbmgckkcaaGreatDoor.Bits Go.Proofs.YtjfekjbmgckkcaaGreatDoor.Base Go.Proofs.YtjfekjbmgckkcaaGreatDoor.VarPure Go.Proofs.YtjfekjbmgckkcaaGreatDoor.VarbitA Go.Proofs.YtjfekjbmgckkcaaGreatDoor.StreamA Go.Proofs.YtjfekjbmgckkcaaGreatDoor.TimesPure Go.Proofs.YtjfekjbmgckkcaaGreatDoor.TimesA Go.Proofs.YtjfekjbmgckkcaaGreatDoor.Ref13 Go.Proofs.YtjfekjbmgckkcaaGreatDoor.SpanPure Go.Proofs.YtjfekjbmgckkcaaGreatDoor.SpanBase Go.Proofs.YtjfekjbmgckkcaaGreatDoor.HeadA Go.Proofs.YtjfekjbmgckkcaaGreatDoor.HeadB Go.Proofs.YtjfekjbmgckkcaaGreatDoor.HeadPure Go.Proofs.YtjfekjbmgckkcaaGreatDoor.XorPure Go.Proofs.YtjfekjbmgckkcaaGreatDoor.XorA Go.Proofs.YtjfekjbmgckkcaaGreatDoor.XorB Go.Proofs.YtjfekjbmgckkcaaGreatDoor.FcPure Go.Proofs.YtjfekjbmgckkcaaGreatDoor.FcObj Go.Proofs.YtjfekjbmgckkcaaGreatDoor.FcB Go.Proofs.YtjfekjbmgckkcaaGreatDoor.FcD

theorem nodup_at {l : List Nat} (h : l.Nodup) {i j : Nat} (hi : i < l.length) (hj : j < l.length) (he : l[i] = l[j]) : i = j := by
  rcases Nat.lt_trichotomy i j with h1 | h1 | h1
  · exact absurd he (List.pairwise_iff_getElem.1 h i j hi hj h1)
  · exact h1
  · exact absurd he.symm (List.pairwise_iff_getElem.1 h j i hj hi h1)
/-- a chunk's cells. -/
def cells20 (q : Hd) (n N : Nat) (x : FkL) (s : FS) (r : Lh) : Array Value := #[.int .i64 q.vr, .int .i64 q.hint, .int .i64 q.schema, .int .u64 q.zero, .slice x.p.A q.pos.length x.p.c, .slice x.p.B q.neg.length x.p.d, .pointer (some ⟨x.gw, 0, none⟩), .int .i64 n, .pointer (some ⟨x.gt, 0, none⟩), .slice (some x.va) N x.vc,
  .int .i64 s.t, .int .i64 s.h.schema, .int .u64 s.h.zero, .int .u64 s.h.zc, .int .u64 s.h.cnt, .int .u64 s.h.sum, .slice r.A s.h.pos.length r.c, .slice r.B s.h.neg.length r.d, .slice r.C s.h.pc.length r.cc, .slice r.D s.h.nc.length r.dd]
theorem kcs_eq (q : Hd) (l : List FS) (x : FkL) : (kcs q l x).toArray = cells20 q l.length (width q) x (lastS q l) x.r := rfl
theorem cells20_set (q : Hd) (n N m : Nat) (x : FkL) (s : FS) (r : Lh) (v0 v1 v2 v3 v4 v5 v6 v7 v8 v9 : Value) :
    (((((((((((cells20 q n N x s r).setIfInBounds 7 (.int .i64 m)).setIfInBounds 10 v0).setIfInBounds 11 v1).setIfInBounds 12 v2).setIfInBounds 13 v3).setIfInBounds 14 v4).setIfInBounds 15 v5).setIfInBounds 16 v6).setIfInBounds 17 v7).setIfInBounds 18 v8).setIfInBounds 19 v9 =
      #[.int .i64 q.vr, .int .i64 q.hint, .int .i64 q.schema, .int .u64 q.zero, .slice x.p.A q.pos.length x.p.c, .slice x.p.B q.neg.length x.p.d, .pointer (some ⟨x.gw, 0, none⟩), .int .i64 m, .pointer (some ⟨x.gt, 0, none⟩), .slice (some x.va) N x.vc, v0, v1, v2, v3, v4, v5, v6, v7, v8, v9] := by
  simp [cells20]
theorem cells20_7 (q : Hd) (n N m : Nat) (x : FkL) (s : FS) (r : Lh) : (cells20 q n N x s r).setIfInBounds 7 (.int .i64 m) = cells20 q m N x s r := by
  simp [cells20]
theorem cells20_ten (q : Hd) (n N : Nat) (x : FkL) (s : FS) (r : Lh) (v0 v1 v2 v3 v4 v5 v6 v7 v8 v9 : Value) :
    ((((((((((cells20 q n N x s r).setIfInBounds 10 v0).setIfInBounds 11 v1).setIfInBounds 12 v2).setIfInBounds 13 v3).setIfInBounds 14 v4).setIfInBounds 15 v5).setIfInBounds 16 v6).setIfInBounds 17 v7).setIfInBounds 18 v8).setIfInBounds 19 v9 =
      #[.int .i64 q.vr, .int .i64 q.hint, .int .i64 q.schema, .int .u64 q.zero, .slice x.p.A q.pos.length x.p.c, .slice x.p.B q.neg.length x.p.d, .pointer (some ⟨x.gw, 0, none⟩), .int .i64 n, .pointer (some ⟨x.gt, 0, none⟩), .slice (some x.va) N x.vc, v0, v1, v2, v3, v4, v5, v6, v7, v8, v9] := by
  simp [cells20]
/-- what stands behind k columns of one more: the world ahead, the writer's blocks. -/
structure Ap (q : Hd) (l : List FS) (s : FS) (x : FkL) (W0 : World) (k : Nat) (Sw : Nat → Prop) (W : World) : Prop where
  wr : Wr W x.gw Sw (chunkB q l ++ (toldL true (ts l) (u64 s.t) ++ colsB l s k))
  sw : ∀ j, Sw j → x.Sw j ∨ W0.heap.size ≤ j
  tr : TrS W x.gt (lastOf (ts (l ++ [s]))) (stepOf (ts (l ++ [s]))) (l.length + 1)
  xs : ∀ (j : Nat) (h : j < x.cols.length), XrS W x.cols[j] (if j < k then colX (col (l ++ [s]) j) else colX (col l j))
  ch : Ch (fun b => x.Sw b ∨ b = x.gt ∨ b ∈ x.cols) W0 W
section
variable {q : Hd} {l : List FS} {s : FS} {x : FkL} {g : Nat} {S Sw : Nat → Prop} {w W0 W W2 : World} {k : Nat}
theorem Ap.below (h : Ap q l s x W0 k Sw W) (hb : Below W.heap.size W W2) : Ap q l s x W0 k Sw W2 :=
  ⟨h.wr.below hb, h.sw, h.tr.below hb, fun j hj => (h.xs j hj).below hb, h.ch.then_below hb⟩
theorem Ap.drew (h : Ap q l s x W0 k Sw W) : Ap q l s x W0 k Sw W.drew := ⟨h.wr, h.sw, h.tr, h.xs, h.ch.drew⟩
/-- the time is put. -/
theorem Ap.start (hF : Fk W0 g S q l x) (h : PutS x.gw x.gt x.Sw (encH q ++ bitsB l) (lastOf (ts l)) (stepOf (ts l)) l.length (u64 s.t) W0 W) : ∃ Sw, Ap q l s x W0 0 Sw W := by
  obtain ⟨S', h1, h2, h3, h4⟩ := h
  refine ⟨S', ?_, h2, ?_, ?_, h4.mono fun b _ hb => ?_⟩
  · rw [colsB_zero, List.append_nil]
    unfold chunkB toldL
    rw [ts_length]
    exact h1
  · rw [ts_snoc, lastOf_snoc, stepOf_snoc, ts_length]
    exact h3
  · intro j hj
    rw [if_neg (by omega)]
    refine (hF.xs j hj).ch h4 ?_
    rintro (hb | hb)
    · exact hF.wc _ (List.getElem_mem _) hb
    · exact hF.tc (hb ▸ List.getElem_mem _)
  · rcases hb with hb | hb
    · exact .inl hb
    · exact .inr (.inl hb)
/-- a column is put. -/
theorem Ap.col (hF : Fk W0 g S q l x) (h : Ap q l s x W0 k Sw W) (hk : k < x.cols.length) (hp : PutX x.gw x.cols[k] Sw (chunkB q l ++ (toldL true (ts l) (u64 s.t) ++ colsB l s k)) (colX (col l k)) ((vals s.h).getD k 0) W W2) :
    ∃ Sw2, Ap q l s x W0 (k + 1) Sw2 W2 ∧ (∀ j, Sw2 j → Sw j ∨ W.heap.size ≤ j) ∧ Ch (fun b => Sw b ∨ b = x.cols[k]) W W2 := by
  obtain ⟨S', h1, h2, h3, h4⟩ := hp
  have hmem := List.getElem_mem hk
  have hin : ∀ b, Sw b ∨ b = x.cols[k] → (x.Sw b ∨ b = x.gt ∨ b ∈ x.cols) ∨ W0.heap.size ≤ b := fun b hb => by
    rcases hb with hb | hb
    · rcases h.sw b hb with hb | hb
      · exact .inl (.inl hb)
      · exact .inr hb
    · exact .inl (.inr (.inr (hb ▸ hmem)))
  have hold : ∀ b, S b → b < W0.heap.size := hF.old
  have hne : ∀ b, S b → ¬ x.Sw b → b ≠ x.cols[k] → ¬ (Sw b ∨ b = x.cols[k]) := fun b hb h5 h6 h7 => by
    rcases h7 with h7 | h7
    · rcases h.sw b h7 with h8 | h8
      · exact h5 h8
      · have := hold b hb; omega
    · exact h6 h7
  refine ⟨S', ⟨?_, fun j hj => ?_, ?_, fun j hj => ?_, h.ch.trans h4 fun b hb hc => ?_⟩, h2, h4⟩
  · have := h1
    rw [List.append_assoc, List.append_assoc] at this
    rw [colsB_succ]
    exact this
  · rcases h2 j hj with h5 | h5
    · exact h.sw j h5
    · exact .inr (Nat.le_trans h.ch.size h5)
  · exact h.tr.ch h4 (hne _ ((hF.hS _).2 (.inr (.inr (.inl rfl)))) hF.wt fun he => hF.tc (he ▸ hmem))
  · by_cases hjk : j = k
    · subst hjk
      rw [if_pos (by omega), col_snoc, colX_snoc]
      exact h3
    · have hx := h.xs j hj
      have hx2 := hx.ch h4 (hne _ ((hF.hS _).2 (.inr (.inr (.inr (.inl (List.getElem_mem _)))))) (hF.wc _ (List.getElem_mem _)) fun he => hjk (nodup_at hF.cn hj hk he))
      by_cases hjk2 : j < k
      · rw [if_pos (by omega)]
        rwa [if_pos hjk2] at hx2
      · rw [if_neg (by omega)]
        rwa [if_neg hjk2] at hx2
  · rcases hin b hc with h5 | h5
    · exact h5
    · omega
/-- what is not turned. -/
theorem Ap.keep (h : Ap q l s x W0 k Sw W) {b : Nat} (hb : ¬ x.Sw b) (ht : b ≠ x.gt) (hc : b ∉ x.cols) (hlt : b < W0.heap.size) : W.heap[b]? = W0.heap[b]? :=
  h.ch.block b hlt fun h1 => by
    rcases h1 with h1 | h1 | h1
    · exact hb h1
    · exact ht h1
    · exact hc h1
/-- eleven cells of a chunk: how many, the last sample. -/
abbrev setLast (W : World) (g : Nat) (v0 v1 v2 v3 v4 v5 v6 v7 v8 v9 : Value) : World := (((((((((W.setCell ⟨g, 10, none⟩ v0).setCell ⟨g, 11, none⟩ v1).setCell ⟨g, 12, none⟩ v2).setCell ⟨g, 13, none⟩ v3).setCell ⟨g, 14, none⟩ v4).setCell ⟨g, 15, none⟩ v5).setCell ⟨g, 16, none⟩ v6).setCell ⟨g, 17, none⟩ v7).setCell ⟨g, 18, none⟩ v8).setCell ⟨g, 19, none⟩ v9
theorem setLast_ch (W : World) (g : Nat) (v0 v1 v2 v3 v4 v5 v6 v7 v8 v9 : Value) : Ch (fun k => k = g) W (setLast W g v0 v1 v2 v3 v4 v5 v6 v7 v8 v9) :=
  (((((((((((Ch.refl (fun k => k = g) W).setCell (p := ⟨g, 10, none⟩) (.inl rfl) v0).setCell (p := ⟨g, 11, none⟩) (.inl rfl) v1).setCell (p := ⟨g, 12, none⟩) (.inl rfl) v2).setCell (p := ⟨g, 13, none⟩) (.inl rfl) v3).setCell (p := ⟨g, 14, none⟩) (.inl rfl) v4).setCell (p := ⟨g, 15, none⟩) (.inl rfl) v5).setCell (p := ⟨g, 16, none⟩) (.inl rfl) v6).setCell (p := ⟨g, 17, none⟩) (.inl rfl) v7).setCell (p := ⟨g, 18, none⟩) (.inl rfl) v8).setCell (p := ⟨g, 19, none⟩) (.inl rfl) v9)
theorem setLast_blk {W : World} {g : Nat} {cs : Array Value} {t : Nat} (h : W.heap[g]? = some (.cells cs t (0, 0))) (v0 v1 v2 v3 v4 v5 v6 v7 v8 v9 : Value) :
    (setLast W g v0 v1 v2 v3 v4 v5 v6 v7 v8 v9).heap[g]? = some (.cells ((((((((((cs.setIfInBounds 10 v0).setIfInBounds 11 v1).setIfInBounds 12 v2).setIfInBounds 13 v3).setIfInBounds 14 v4).setIfInBounds 15 v5).setIfInBounds 16 v6).setIfInBounds 17 v7).setIfInBounds 18 v8).setIfInBounds 19 v9) t (0, 0)) :=
  blk_set (blk_set (blk_set (blk_set (blk_set (blk_set (blk_set (blk_set (blk_set (blk_set h 10 v0) 11 v1) 12 v2) 13 v3) 14 v4) 15 v5) 16 v6) 17 v7) 18 v8) 19 v9
set_option maxHeartbeats 3200000 in
/-- the chunk behind it. -/
theorem Ap.done {W5 W7 : World} {r : Lh} (hF : Fk W0 g S q l x) (hw0 : (wrongF q l s).1 = 0) (h64 : In64S s) (h : Ap q l s x W0 (width q) Sw W5)
    (hb : Below (W5.setCell ⟨g, 7, none⟩ (.int .i64 (l.length + 1 : Nat))).heap.size (W5.setCell ⟨g, 7, none⟩ (.int .i64 (l.length + 1 : Nat))) W7)
    (hr : FhIn W7 { s.h with pos := q.pos, neg := q.neg } r) (hor : OnH (fun k => (W5.setCell ⟨g, 7, none⟩ (.int .i64 (l.length + 1 : Nat))).heap.size ≤ k) { s.h with pos := q.pos, neg := q.neg } r) :
    Upd (fun W S => Ck W g S q (l ++ [s])) S W0 (setLast W7 g (.int .i64 s.t) (.int .i64 s.h.schema) (.int .u64 s.h.zero) (.int .u64 s.h.zc) (.int .u64 s.h.cnt) (.int .u64 s.h.sum) (.slice r.A q.pos.length r.c) (.slice r.B q.neg.length r.d) (.slice r.C s.h.pc.length r.cc) (.slice r.D s.h.nc.length r.dd)) := by
  have hgl := blk_lt hF.obj
  have h5 : W5.heap[g]? = W0.heap[g]? := h.keep hF.gw hF.gt hF.gc hgl
  have hobj := hF.obj
  rw [kcs_eq] at hobj
  have h6 := blk_set (h5.trans hobj) 7 (.int .i64 (l.length + 1 : Nat))
  have hc6 : Ch (fun k => k = g) W5 (W5.setCell ⟨g, 7, none⟩ (.int .i64 (l.length + 1 : Nat))) := (Ch.refl (fun k => k = g) W5).setCell (p := ⟨g, 7, none⟩) (.inl rfl) _
  obtain ⟨W6, hW6⟩ : ∃ W6, W6 = W5.setCell ⟨g, 7, none⟩ (.int .i64 (l.length + 1 : Nat)) := ⟨_, rfl⟩
  rw [← hW6] at hb hor h6 hc6
  have h7 := (hb.block g (blk_lt h6)).trans h6
  have hc8 := setLast_ch W7 g (.int .i64 s.t) (.int .i64 s.h.schema) (.int .u64 s.h.zero) (.int .u64 s.h.zc) (.int .u64 s.h.cnt) (.int .u64 s.h.sum) (.slice r.A q.pos.length r.c) (.slice r.B q.neg.length r.d) (.slice r.C s.h.pc.length r.cc) (.slice r.D s.h.nc.length r.dd)
  have h8 := setLast_blk h7 (.int .i64 s.t) (.int .i64 s.h.schema) (.int .u64 s.h.zero) (.int .u64 s.h.zc) (.int .u64 s.h.cnt) (.int .u64 s.h.sum) (.slice r.A q.pos.length r.c) (.slice r.B q.neg.length r.d) (.slice r.C s.h.pc.length r.cc) (.slice r.D s.h.nc.length r.dd)
  obtain ⟨W8, hW8⟩ : ∃ W8, W8 = setLast W7 g (.int .i64 s.t) (.int .i64 s.h.schema) (.int .u64 s.h.zero) (.int .u64 s.h.zc) (.int .u64 s.h.cnt) (.int .u64 s.h.sum) (.slice r.A q.pos.length r.c) (.slice r.B q.neg.length r.d) (.slice r.C s.h.pc.length r.cc) (.slice r.D s.h.nc.length r.dd) := ⟨_, rfl⟩
  rw [← hW8] at hc8 h8 ⊢
  clear hW6 hW8
  -- from W5 on only the chunk's own block turns
  have hc58 : Ch (fun k => k = g) W5 W8 := (hc6.then_below hb).trans hc8 fun _ _ h => h
  have hc08 : Ch (fun b => (x.Sw b ∨ b = x.gt ∨ b ∈ x.cols) ∨ b = g) W0 W8 := (h.ch.mono fun _ _ h => .inl h).trans hc58 fun _ _ h => .inr h
  have hz5 := h.ch.size
  have hz6 := hc6.size
  have hz7 := hb.size
  have hz8 := hc8.size
  have hgw : ¬ Sw g := fun hs => by
    rcases h.sw g hs with h1 | h1
    · exact hF.gw h1
    · omega
  have hsold : ∀ k, Sw k → k < W5.heap.size := h.wr.old
  have oS : ∀ k, k = g ∨ x.Sw k ∨ k = x.gt ∨ k ∈ x.cols ∨ x.T k → k < W0.heap.size := fun k hk => hF.old k ((hF.hS k).2 hk)
  refine ⟨fun k => k = g ∨ Sw k ∨ k = x.gt ∨ k ∈ x.cols ∨ (x.T k ∨ (W6.heap.size ≤ k ∧ k < W8.heap.size)), ⟨{ x with Sw := Sw, r := r, T := fun k => x.T k ∨ (W6.heap.size ≤ k ∧ k < W8.heap.size) }, ?_⟩, ?_, ?_⟩
  · have hw : encH q ++ bitsB (l ++ [s]) = chunkB q l ++ (toldL true (ts l) (u64 s.t) ++ colsB l s (width q)) := by
      rw [bitsB_snoc, lastB, wrong_width hw0]
      simp [chunkB]
    have hll : (l ++ [s]).length = l.length + 1 := by simp
    have nT : ∀ k, x.T k → ¬ ((x.Sw k ∨ k = x.gt ∨ k ∈ x.cols) ∨ k = g) := fun k hk hn => by
      rcases hn with (hn | hn | hn) | hn
      · exact hF.wT k hk hn
      · subst hn; exact hF.tT hk
      · exact hF.cT k hn hk
      · subst hn; exact hF.gT hk
    have rlt : ∀ {A : Option Addr} {n : Nat}, On (fun k => W6.heap.size ≤ k) A n → (∀ ad, A = some ad → 0 < n → ad.block < W8.heap.size) → On (fun k => x.T k ∨ (W6.heap.size ≤ k ∧ k < W8.heap.size)) A n := fun h1 h2 ad hA hp => .inr ⟨h1 ad hA hp, h2 ad hA hp⟩
    have hr8 : FhIn W8 { s.h with pos := q.pos, neg := q.neg } r := hr.ch hc8 hor fun k hk he => by omega
    have slt : ∀ {A : Option Addr} {c : Nat} {m : List Sp}, Spl W8 A c m → ∀ ad, A = some ad → 0 < m.length → ad.block < W8.heap.size := fun h ad hA hp => HeadD.rd_lt h.rd ad hA hp
    have nlt : ∀ {A : Option Addr} {c : Nat} {m : List Nat}, Nul W8 A c m → ∀ ad, A = some ad → 0 < m.length → ad.block < W8.heap.size := fun h ad hA hp => by
      obtain ⟨ad', he, hc⟩ := nat_at h.rd 0 hp
      rw [hA] at he
      injection he with he
      subst he
      have := World.block_lt_of_cell? _ _ hc
      rwa [show (ad.add 0).block = ad.block from by unfold Addr.add; split <;> rfl] at this
    exact {
      obj := by
        rw [kcs_eq, lastS_snoc, h8, cells20_set, hll]
        rfl
      hd := ⟨Spl.ch hF.hd.pos hc08 hF.onp nT, Spl.ch hF.hd.neg hc08 hF.onn nT, hF.hd.z⟩
      wr := by
        rw [hw]
        exact h.wr.ch hc58 fun k hk he => hgw (he ▸ hk)
      tr := by
        rw [hll]
        exact h.tr.ch hc58 fun he => hF.gt he.symm
      cl := hF.cl
      vc := hF.vc
      vals := fun k hk => hc08.cell (hF.vals k hk) (by rw [show (x.va.add k).block = x.va.block from by unfold Addr.add; split <;> rfl]; exact nT _ hF.onv)
      xs := fun k hk => by
        have := h.xs k hk
        rw [if_pos (by rw [← hF.cl]; exact hk)] at this
        exact this.ch hc58 fun he => hF.gc (he ▸ List.getElem_mem _)
      la := by rw [lastS_snoc]; exact hr8
      n64 := fun u hu => by
        rcases List.mem_append.1 hu with h1 | h1
        · exact hF.n64 u h1
        · rw [List.mem_singleton.1 h1]; exact h64
      good := good_snoc hF.good hw0
      okq := hF.okq
      onp := hF.onp.mono fun k hk => .inl hk
      onn := hF.onn.mono fun k hk => .inl hk
      onv := .inl hF.onv
      onr := by
        rw [lastS_snoc]
        exact ⟨rlt hor.pos (slt hr8.pos), rlt hor.neg (slt hr8.neg), rlt hor.pc (nlt hr8.pc), rlt hor.nc (nlt hr8.nc)⟩
      hS := fun k => Iff.rfl
      old := fun k hk => by
        rcases hk with hk | hk | hk | hk | hk | hk
        · have := oS k (.inl hk); omega
        · have := hsold k hk; omega
        · have := oS k (.inr (.inr (.inl hk))); omega
        · have := oS k (.inr (.inr (.inr (.inl hk)))); omega
        · have := oS k (.inr (.inr (.inr (.inr hk)))); omega
        · exact hk.2
      gw := hgw
      gt := hF.gt
      gc := hF.gc
      gT := fun hk => by
        rcases hk with hk | hk
        · exact hF.gT hk
        · omega
      wt := fun hs => by
        rcases h.sw _ hs with h1 | h1
        · exact hF.wt h1
        · have := oS x.gt (.inr (.inr (.inl rfl)))
          exact Nat.lt_irrefl _ (Nat.lt_of_lt_of_le this h1)
      wc := fun k hk hs => by
        rcases h.sw _ hs with h1 | h1
        · exact hF.wc k hk h1
        · have := oS k (.inr (.inr (.inr (.inl hk)))); omega
      wT := fun k hk hs => by
        rcases hk with hk | hk
        · rcases h.sw _ hs with h1 | h1
          · exact hF.wT k hk h1
          · have := oS k (.inr (.inr (.inr (.inr hk)))); omega
        · have := hsold k hs; omega
      tc := hF.tc
      tT := fun hk => by
        rcases hk with hk | hk
        · exact hF.tT hk
        · have := oS x.gt (.inr (.inr (.inl rfl)))
          have h2 : W6.heap.size ≤ x.gt := hk.1
          omega
      cn := hF.cn
      cT := fun k hk hT => by
        rcases hT with hT | hT
        · exact hF.cT k hk hT
        · have := oS k (.inr (.inr (.inr (.inl hk)))); omega }
  · intro k hk
    rcases hk with hk | hk | hk | hk | hk | hk
    · exact .inl ((hF.hS k).2 (.inl hk))
    · rcases h.sw k hk with h1 | h1
      · exact .inl ((hF.hS k).2 (.inr (.inl h1)))
      · exact .inr h1
    · exact .inl ((hF.hS k).2 (.inr (.inr (.inl hk))))
    · exact .inl ((hF.hS k).2 (.inr (.inr (.inr (.inl hk)))))
    · exact .inl ((hF.hS k).2 (.inr (.inr (.inr (.inr hk)))))
    · exact .inr (by omega)
  · refine hc08.mono fun k _ hk => (hF.hS k).2 ?_
    rcases hk with (hk | hk | hk) | hk
    · exact .inr (.inl hk)
    · exact .inr (.inr (.inl hk))
    · exact .inr (.inr (.inr (.inl hk)))
    · exact .inl hk
end
end Go.Proofs.YtjfekjbmgckkcaaGreatDoor.FcE

/- fchunk's walks: one more. -/
namespace Go.Proofs.YtjfekjbmgckkcaaGreatDoor.FcF
open Go.RowKit Go.Proofs.YtjfekjbmgckkcaaGreatDoorW.PrintWords
open Go.Proofs.YtjfekjbmgckkcaaGreatDoor.Bits Go.Proofs.YtjfekjbmgckkcaaGreatDoor.Base Go.Proofs.YtjfekjbmgckkcaaGreatDoor.VarPure Go.Proofs.YtjfekjbmgckkcaaGreatDoor.VarbitA Go.Proofs.YtjfekjbmgckkcaaGreatDoor.StreamA Go.Proofs.YtjfekjbmgckkcaaGreatDoor.TimesPure Go.Proofs.YtjfekjbmgckkcaaGreatDoor.TimesA Go.Proofs.YtjfekjbmgckkcaaGreatDoor.Ref12 Go.Proofs.YtjfekjbmgckkcaaGreatDoor.Ref13 Go.Proofs.YtjfekjbmgckkcaaGreatDoor.SpanPure Go.Proofs.YtjfekjbmgckkcaaGreatDoor.SpanBase Go.Proofs.YtjfekjbmgckkcaaGreatDoor.FailAs Go.Proofs.YtjfekjbmgckkcaaGreatDoor.FailB Go.Proofs.YtjfekjbmgckkcaaGreatDoor.FailC Go.Proofs.YtjfekjbmgckkcaaGreatDoor.HeadA Go.Proofs.YtjfekjbmgckkcaaGreatDoor.HeadB Go.Proofs.YtjfekjbmgckkcaaGreatDoor.HeadE Go.Proofs.YtjfekjbmgckkcaaGreatDoor.HeadPure Go.Proofs.YtjfekjbmgckkcaaGreatDoor.XorPure Go.Proofs.YtjfekjbmgckkcaaGreatDoor.XorA Go.Proofs.YtjfekjbmgckkcaaGreatDoor.XorB Go.Proofs.YtjfekjbmgckkcaaGreatDoor.FcPure Go.Proofs.YtjfekjbmgckkcaaGreatDoor.FcObj Go.Proofs.YtjfekjbmgckkcaaGreatDoor.FcA Go.Proofs.YtjfekjbmgckkcaaGreatDoor.FcB Go.Proofs.YtjfekjbmgckkcaaGreatDoor.FcD Go.Proofs.YtjfekjbmgckkcaaGreatDoor.FcE

/-- what one more leads to. -/
def AppPost (g : Nat) (S : Nat → Prop) (q : Hd) (l : List FS) (s : FS) (w : World) (e : Ending) (w' : World) : Prop :=
  ((wrongF q l s).1 ≠ 0 ∧ (∃ v, e = .returned v ∧ Err w' v (plc (wrongF q l s).1 (wrongF q l s).2 l.length) .nilIface) ∧ Below w.heap.size w w') ∨
    ((wrongF q l s).1 = 0 ∧ e = .returned .nilIface ∧ Upd (fun W S => Ck W g S q (l ++ [s])) S w w')
set_option maxRecDepth 100000 in
set_option maxHeartbeats 6400000 in
theorem append_calls (g : Nat) (S : Nat → Prop) (q : Hd) (l : List FS) (x : FkL) (s : FS) (p : Lh) (w : World) (hF : Fk w g S q l x) (hs : FhIn w s.h p) (hoff : OnH (fun k => ¬ S k) s.h p) (h64 : In64S s) (hR : Room q l) (hE : GlE w) (hT : Tab w) (hZ : Tz w)
    (hGb : ¬ S 1) (hGd : ¬ S 2) :
    Calls Tryz.prog 42 #[.pointer (some ⟨g, 0, none⟩), .agg (scs s p).toArray] w (AppPost g S q l s w) := by
  -- what holds wherever only the columns, the times and the writer have turned
  have hC : ∀ b, (x.Sw b ∨ b = x.gt ∨ b ∈ x.cols) → S b := fun b hb => (hF.hS b).2 (by
    rcases hb with hb | hb | hb
    · exact .inr (.inl hb)
    · exact .inr (.inr (.inl hb))
    · exact .inr (.inr (.inr (.inl hb))))
  obtain ⟨W0, hW0, hbk, hal⟩ : ∃ W0 : World, W0 = w.alloc (.cells #[.int .i64 s.t, .int .i64 s.h.schema, .int .u64 s.h.zero, .int .u64 s.h.zc, .int .u64 s.h.cnt, .int .u64 s.h.sum, .slice p.A s.h.pos.length p.c, .slice p.B s.h.neg.length p.d, .slice p.C s.h.pc.length p.cc, .slice p.D s.h.nc.length p.dd] 74) ∧ W0.heap[w.heap.size]? = some (.cells #[.int .i64 s.t, .int .i64 s.h.schema, .int .u64 s.h.zero, .int .u64 s.h.zc, .int .u64 s.h.cnt, .int .u64 s.h.sum, .slice p.A s.h.pos.length p.c, .slice p.B s.h.neg.length p.d, .slice p.C s.h.pc.length p.cc, .slice p.D s.h.nc.length p.dd] 74 (0, 0)) ∧ Below w.heap.size w W0 := ⟨_, rfl, blk_last w _, below_alloc (Below.refl _ _) _⟩
  have HF : Hid (∀ W, Below W0.heap.size W0 W → Fk W g S q l x) := Lib.hid (fun W h => hF.below (below_then hal hal.size h))
  have HSI : Hid (∀ W1, Below W0.heap.size W0 W1 → ∀ W, Ch (fun b => x.Sw b ∨ b = x.gt ∨ b ∈ x.cols) W1 W → FhIn W s.h p) := Lib.hid (fun W1 h1 W h => (hs.below (below_then hal hal.size h1)).ch h hoff fun k hk hc => hk (hC k hc))
  have HSI6 : Hid (∀ W1, Below W0.heap.size W0 W1 → ∀ W, Ch (fun b => (x.Sw b ∨ b = x.gt ∨ b ∈ x.cols) ∨ b = g) W1 W → FhIn W s.h p) := Lib.hid (fun W1 h1 W h => (hs.below (below_then hal hal.size h1)).ch h hoff fun k hk hc => hk (by
    rcases hc with hc | hc
    · exact hC k hc
    · exact (hF.hS k).2 (.inl hc)))
  have HQP : Hid (∀ W1, Below W0.heap.size W0 W1 → ∀ W, Ch (fun b => (x.Sw b ∨ b = x.gt ∨ b ∈ x.cols) ∨ b = g) W1 W → Spl W x.p.A x.p.c q.pos ∧ Spl W x.p.B x.p.d q.neg) := Lib.hid (fun W1 h1 W h => by
    have hF1 := HF.out W1 h1
    have nT : ∀ k, x.T k → ¬ ((x.Sw k ∨ k = x.gt ∨ k ∈ x.cols) ∨ k = g) := fun k hk hn => by
      rcases hn with (hn | hn | hn) | hn
      · exact hF.wT k hk hn
      · subst hn; exact hF.tT hk
      · exact hF.cT k hn hk
      · subst hn; exact hF.gT hk
    exact ⟨Spl.ch hF1.hd.pos h hF1.onp nT, Spl.ch hF1.hd.neg h hF1.onn nT⟩)
  have HZI : Hid (∀ W1, Below W0.heap.size W0 W1 → ∀ W, Ch (fun b => x.Sw b ∨ b = x.gt ∨ b ∈ x.cols) W1 W → Tz W) := Lib.hid (fun W1 h1 W h => (hZ.below (below_then hal hal.size h1)).ch h fun hc => hGd (hC _ hc))
  have HBX : Hid (∀ W1, Below W0.heap.size W0 W1 → ∀ W, Ch (fun b => x.Sw b ∨ b = x.gt ∨ b ∈ x.cols) W1 W → W.heap[w.heap.size]? = some (.cells #[.int .i64 s.t, .int .i64 s.h.schema, .int .u64 s.h.zero, .int .u64 s.h.zc, .int .u64 s.h.cnt, .int .u64 s.h.sum, .slice p.A s.h.pos.length p.c, .slice p.B s.h.neg.length p.d, .slice p.C s.h.pc.length p.cc, .slice p.D s.h.nc.length p.dd] 74 (0, 0))) := Lib.hid (fun W1 h1 W h => h.blk ((h1.block _ (blk_lt hbk)).trans hbk) fun hc => by
    have := hF.old _ (hC _ hc)
    omega)
  have HCO := Lib.hid (cost_calls g S q l x s p W0 (hF.below hal) (hs.below hal) h64 hR (gle_below hE hal) (hT.below hal) (hZ.below hal))
  have HPT : Hid (∀ W, Below W0.heap.size W0 W → Calls Tryz.prog 111 #[.pointer (some ⟨x.gt, 0, none⟩), .pointer (some ⟨x.gw, 0, none⟩), .int .i64 s.t] W fun e w' => e = .returned (.tuple #[]) ∧ ∃ Sw, Ap q l s x W 0 Sw w') := Lib.hid (fun W h => by
    have hFW := HF.out W h
    have := putS_row x.gw x.gt x.Sw (encH q ++ bitsB l) (lastOf (ts l)) (stepOf (ts l)) l.length (u64 s.t) W (hT.below (below_then hal hal.size h)) (fun hc => hGb (hC _ (.inl hc))) hFW.tr hFW.wr hFW.wt (by have := hR.1; unfold chunkB at this; omega) (u64_lt _) (by have := hR.2; omega)
    rw [i64_u64 s.t h64.lo h64.hi] at this
    refine this.mono ?_
    rintro e w' ⟨rfl, hp⟩
    exact ⟨rfl, Ap.start hFW hp⟩)
  have HPX : Hid (∀ W1, Below W0.heap.size W0 W1 → ∀ (k : Nat) (Sw : Nat → Prop) W, Ap q l s x W1 k Sw W → ∀ hk : k < x.cols.length, k ≤ width q → Calls Tryz.prog 112 #[.pointer (some ⟨x.cols[k], 0, none⟩), .pointer (some ⟨x.gw, 0, none⟩), .int .u64 ((vals s.h).getD k 0)] W fun e w' => e = .returned (.tuple #[]) ∧
      ∃ Sw2, Ap q l s x W1 (k + 1) Sw2 w' ∧ (∀ j, Sw2 j → Sw j ∨ W.heap.size ≤ j) ∧ Ch (fun b => Sw b ∨ b = x.cols[k]) W w') := Lib.hid (fun W1 h1 k Sw W h hk hkN => by
    have hF1 := HF.out W1 h1
    have hxk := h.xs k hk
    rw [if_neg (by omega)] at hxk
    have hb1 : ∀ b, b < W1.heap.size → ¬ x.Sw b → ¬ Sw b := fun b h2 h3 h4 => by
      rcases h.sw b h4 with h5 | h5
      · exact h3 h5
      · omega
    have hlen : (chunkB q l ++ (toldL true (ts l) (u64 s.t) ++ colsB l s k)).length ≤ 10000000000 := by
      have e1 := hR.1
      have e2 := toldL_le true (ts l) (u64 s.t)
      have e3 := colsB_le hF.n64 h64 k
      rw [List.length_append, List.length_append]
      omega
    refine (put_row x.gw x.cols[k] Sw _ (colX (col l k)) ((vals s.h).getD k 0) W (HZI.out W1 h1 W h.ch) (hb1 _ (Nat.lt_of_lt_of_le hZ.lt (below_then hal hal.size h1).size) fun hc => hGd (hC _ (.inl hc))) hxk h.wr
      (hb1 _ (hF1.old _ (hC _ (.inr (.inr (List.getElem_mem _))))) (hF.wc _ (List.getElem_mem _))) hlen (getD64 (vals64 h64.h) k) (by rw [colX_n, col_length]; have := hR.2; omega)).mono ?_
    rintro e w' ⟨rfl, hp⟩
    exact ⟨rfl, h.col hF1 hk hp⟩)
  have HVA : Hid (∀ W1, Below W0.heap.size W0 W1 → ∀ W, Ch (fun b => x.Sw b ∨ b = x.gt ∨ b ∈ x.cols) W1 W → s.h.pc.length ≤ 4096 → s.h.nc.length ≤ 4096 → Calls Tryz.prog 109 #[.agg (scs s p).toArray] W fun e w' => ∃ v, e = .returned v ∧ OwI 22 .u64 w' W.heap.size v (nats (vals s.h)) ∧ Below W.heap.size W w') :=
    Lib.hid (fun W1 h1 W h e1 e2 => values_calls s p W (HSI.out W1 h1 W h) e1 e2)
  have HWW := Lib.hid (fun h => (wrong_width (q := q) (l := l) (s := s) h))
  have HWZ := Lib.hid (fun (h : (wrongF q l s).1 = 0) => (by
    obtain ⟨h1, -, -, h4, h5, -⟩ := wrong_zero h
    obtain ⟨-, -, -, -, -, h6, h7⟩ := errF_zero h1
    have := places_len (SpanQ.right_of (sideF_zero h6).1)
    have := places_len (SpanQ.right_of (sideF_zero h7).1)
    exact ⟨by rw [← (sideF_zero h6).2.1]; omega, by rw [← (sideF_zero h7).2.1]; omega⟩ : s.h.pc.length ≤ 4096 ∧ s.h.nc.length ≤ 4096))
  have HPOST : Hid (∀ e w', AppPost g S q l s w e w' = (((wrongF q l s).1 ≠ 0 ∧ (∃ v, e = .returned v ∧ Err w' v (plc (wrongF q l s).1 (wrongF q l s).2 l.length) .nilIface) ∧ Below w.heap.size w w') ∨
    ((wrongF q l s).1 = 0 ∧ e = .returned .nilIface ∧ Upd (fun W S => Ck W g S q (l ++ [s])) S w w'))) := Lib.hid (fun _ _ => rfl)
  have HEND := Lib.hid (fun W (hb : Below W0.heap.size W0 W) => below_then hal hal.size hb)
  have HCEL : Hid (∀ W1, Below W0.heap.size W0 W1 → ∀ W : World, Ch (fun b => x.Sw b ∨ b = x.gt ∨ b ∈ x.cols) W1 W → ((W.cell? ⟨w.heap.size, 0, none⟩ = some (.int .i64 s.t) ∧ W.cell? ⟨w.heap.size, 1, none⟩ = some (.int .i64 s.h.schema) ∧ W.cell? ⟨w.heap.size, 2, none⟩ = some (.int .u64 s.h.zero) ∧ W.cell? ⟨w.heap.size, 3, none⟩ = some (.int .u64 s.h.zc) ∧ W.cell? ⟨w.heap.size, 4, none⟩ = some (.int .u64 s.h.cnt) ∧ W.cell? ⟨w.heap.size, 5, none⟩ = some (.int .u64 s.h.sum) ∧ W.cell? ⟨w.heap.size, 6, none⟩ = some (.slice p.A s.h.pos.length p.c) ∧ W.cell? ⟨w.heap.size, 7, none⟩ = some (.slice p.B s.h.neg.length p.d) ∧ W.cell? ⟨w.heap.size, 8, none⟩ = some (.slice p.C s.h.pc.length p.cc) ∧ W.cell? ⟨w.heap.size, 9, none⟩ = some (.slice p.D s.h.nc.length p.dd)) ∧ (W.cell? ⟨g, 4, none⟩ = some (.slice x.p.A q.pos.length x.p.c) ∧ W.cell? ⟨g, 5, none⟩ = some (.slice x.p.B q.neg.length x.p.d) ∧ W.cell? ⟨g, 6, none⟩ = some (.pointer (some ⟨x.gw, 0, none⟩)) ∧ W.cell? ⟨g, 7, none⟩ = some (.int .i64 l.length) ∧ W.cell? ⟨g, 8, none⟩ = some (.pointer (some ⟨x.gt, 0, none⟩)) ∧ W.cell? ⟨g, 9, none⟩ = some (.slice (some x.va) (width q) x.vc)))) := Lib.hid (fun W1 h1 W h => by
    have hb := HBX.out W1 h1 W h
    have hF1 := HF.out W1 h1
    have hg := h.blk hF1.obj (fun hc => by
      rcases hc with hc | hc | hc
      · exact hF1.gw hc
      · exact hF1.gt hc
      · exact hF1.gc hc)
    exact ⟨⟨obj_cell hb rfl, obj_cell hb rfl, obj_cell hb rfl, obj_cell hb rfl, obj_cell hb rfl, obj_cell hb rfl, obj_cell hb rfl, obj_cell hb rfl, obj_cell hb rfl, obj_cell hb rfl⟩, ⟨obj_cell hg rfl, obj_cell hg rfl, obj_cell hg rfl, obj_cell hg rfl, obj_cell hg rfl, obj_cell hg rfl⟩⟩)
  have HR2 := Lib.hid hR.2
  have HCL := Lib.hid hF.cl
  have HVC := Lib.hid hF.vc
  have HW0 := Lib.hid hW0
  have HFF := Lib.hid hF
  have HH64 := Lib.hid h64
  have HOLD := Lib.hid (fun b (hb : x.Sw b ∨ b = x.gt ∨ b ∈ x.cols) => Nat.lt_of_lt_of_le (hF.old b (hC b hb)) hal.size)
  have B0 := Lib.hid (Below.refl W0.heap.size W0)
  have HBK := Lib.hid hbk
  clear hW0 hE hT hZ hGb hGd hC hbk hal hF hs hoff h64 hR
  show Calls Tryz.prog 42 #[.pointer (some ⟨g, 0, none⟩), .agg #[.int .i64 s.t, .int .i64 s.h.schema, .int .u64 s.h.zero, .int .u64 s.h.zc, .int .u64 s.h.cnt, .int .u64 s.h.sum, .slice p.A s.h.pos.length p.c, .slice p.B s.h.neg.length p.d, .slice p.C s.h.pc.length p.cc, .slice p.D s.h.nc.length p.dd]] w _
  go_enter Tryz.func42, Tryz.ntmps42
  go_wp2_with (fail)
  rw [← HW0.out]
  refine HCO.out.mono ?_
  rintro e w1 ⟨hb1, hcase⟩
  have B1 := Lib.hid hb1
  clear hb1 HCO
  rcases hcase with ⟨h0, v, rfl, he⟩ | ⟨h0, rfl⟩
  · have H0 := Lib.hid h0
    have E1 := Lib.hid he
    obtain ⟨ge, rfl⟩ := err_some (by omega) he
    clear h0 he
    go_wp2
    go_ret
    exact (HPOST.out _ _).mpr (.inl ⟨H0.out, ⟨_, rfl, E1.out⟩, HEND.out _ B1.out⟩)
  have H0 := Lib.hid h0
  obtain ⟨hz1, hz2⟩ := HWZ.out h0
  have hvl := HWW.out h0
  obtain ⟨lb, hlb⟩ : ∃ lb, lb = (lastB l s).length := ⟨_, rfl⟩
  rw [← hlb]
  have HVL := Lib.hid hvl
  have HZ1 := Lib.hid hz1
  have HZ2 := Lib.hid hz2
  obtain ⟨⟨k0, k1, k2, k3, k4, k5, k6, k7, k8, k9⟩, ⟨g4, g5, g6, g7, g8, g9⟩⟩ := HCEL.out _ B1.out _ (Ch.refl _ _)
  have B1d := Lib.hid (below_drew B1.out)
  clear h0 hlb HWZ HWW hvl hz1 hz2
  go_wp2_with (fail)
  go_region_held3 (fun W => W.cell? ⟨g, 8, none⟩ = some (.pointer (some ⟨x.gt, 0, none⟩)) ∧ W.cell? ⟨g, 6, none⟩ = some (.pointer (some ⟨x.gw, 0, none⟩)) ∧ W.cell? ⟨w.heap.size, 0, none⟩ = some (.int .i64 s.t))
    (first | exact ⟨g8, g6, k0⟩ | exact ⟨gg8, gg6, kk0⟩ | assumption)
    (first
    | (go_at_call 111; refine (HPT.out _ B1d.out).mono ?_; rintro e w2 ⟨rfl, Sw2, hap⟩; obtain ⟨⟨kk0, -, -, -, -, -, -, -, -, -⟩, ⟨-, -, gg6, -, gg8, -⟩⟩ := HCEL.out _ B1d.out _ hap.ch))
  have A2 := Lib.hid hap
  clear k0 k1 k2 k3 k4 k5 k6 k7 k8 k9 g4 g5 g6 g7 g8 g9 kk0 gg6 gg8
  obtain ⟨⟨k0, k1, k2, k3, k4, k5, k6, k7, k8, k9⟩, ⟨g4, g5, g6, g7, g8, g9⟩⟩ := HCEL.out _ B1d.out _ hap.ch
  clear hap
  go_wp2_with (fail)
  refine (HVA.out _ B1d.out _ A2.out.ch HZ1.out HZ2.out).mono ?_
  rintro e w3 ⟨v, rfl, ho, hb3⟩
  obtain ⟨A3, c3, rfl, hc3, hr3⟩ := ho.reads
  rw [nats_length] at hc3 ho ⊢
  have A3' := Lib.hid (A2.out.below hb3)
  have HSW2 := Lib.hid (A2.out.wr.old)
  have HRD : Hid (∀ wr, Ch (fun b => Sw2 b ∨ b ∈ x.cols) w3 wr → RdI .u64 wr A3 (nats (vals s.h))) := Lib.hid (fun wr hc => hr3.ch hc fun ad hA hbad => by
    subst hA
    rcases Nat.eq_zero_or_pos (vals s.h).length with h0 | h0
    · have := vals_length s.h
      omega
    · obtain ⟨g9, c9, he, h9, -, -⟩ := OwI.form ho (by rw [nats_length]; exact h0)
      injection he with he
      injection he with he
      subst he
      have h9' : w2.heap.size ≤ g9 := h9
      rcases hbad with hbad | hbad
      · have := HSW2.out _ hbad
        have h5 : (⟨g9, 0, none⟩ : Addr).block = g9 := rfl
        omega
      · have := HOLD.out _ (.inr (.inr hbad))
        have h4 := A2.out.ch.size
        have h5 : (⟨g9, 0, none⟩ : Addr).block = g9 := rfl
        have h6 := B1d.out.size
        omega)
  have hvl := HVL.out
  obtain ⟨N, hN⟩ : ∃ N, N = width q := ⟨_, rfl⟩
  rw [← hN] at hvl g9
  have HNN := Lib.hid hN
  have HVL := Lib.hid hvl
  have hNb : N ≤ 9000 := by
    have h1 := HZ1.out
    have h2 := HZ2.out
    rw [← hvl, vals_length]
    omega
  rw [hvl]
  clear hb3 ho hr3 hc3 hvl hN
  clear k0 k1 k2 k3 k4 k5 k6 k7 k8 k9 g4 g5 g6 g7 g8 g9
  go_wp2_with (fail)
  go_loopw [7, 8, 32] (fun _ _ i wr => ∃ (k : Nat) (Sw' : Nat → Prop), k ≤ N ∧ i = .int .i64 k ∧ Ap q l s x w1.drew k Sw' wr ∧ (∀ j, Sw' j → Sw2 j ∨ w3.heap.size ≤ j) ∧ Ch (fun b => Sw2 b ∨ b ∈ x.cols) w3 wr) (fun _ _ i _ => N - (intOf i).toNat)
  case atStart => exact ⟨0, Sw2, by omega, rfl, A3'.out, fun j hj => .inl hj, Ch.refl _ _⟩
  case round =>
    obtain ⟨k, Sw', hk, rfl, hap, hsw, hch⟩ := hrel
    have A4 := Lib.hid hap
    have HS4 := Lib.hid hsw
    have HC4 := Lib.hid hch
    obtain ⟨⟨k0, k1, k2, k3, k4, k5, k6, k7, k8, k9⟩, ⟨g4, g5, g6, g7, g8, g9⟩⟩ := HCEL.out _ B1d.out _ hap.ch
    rw [← HNN.out] at g9
    clear hap hsw
    by_cases hlt : k < N
    · have hkc : k < x.cols.length := by rw [HCL.out, ← HNN.out]; exact hlt
      have hvk := A4.out.ch.cell ((HF.out _ B1d.out).vals k hkc) (by
        rw [show (x.va.add k).block = x.va.block from by unfold Addr.add; split <;> rfl]
        have hF1 := HF.out _ B1d.out
        rintro (hc | hc | hc)
        · exact hF1.wT _ hF1.onv hc
        · exact hF1.tT (hc ▸ hF1.onv)
        · exact hF1.cT _ hc hF1.onv)
      have HX := HPX.out _ B1d.out k Sw' wr.drew A4.out.drew hkc (by rw [← HNN.out]; exact hk)
      rw [getD_at (show k < (vals s.h).length by rw [HVL.out]; exact hlt)] at HX
      obtain ⟨ad, hA, hc⟩ := nat_at (HRD.out wr hch) k (by rw [HVL.out]; exact hlt)
      subst hA
      obtain ⟨u, hu⟩ : ∃ u, u = (vals s.h)[k]'(by rw [HVL.out]; exact hlt) := ⟨_, rfl⟩
      rw [← hu] at hc HX
      obtain ⟨cl, hcl⟩ : ∃ cl, cl = x.cols[k] := ⟨_, rfl⟩
      rw [← hcl] at hvk HX
      have HX := Lib.hid HX
      have hkv : k < x.vc := by have := HVC.out; have := HNN.out; omega
      have HCM := Lib.hid (show cl ∈ x.cols from hcl ▸ List.getElem_mem _)
      have HVK : Hid (∀ W, Ch (fun b => Sw' b ∨ b = cl) wr W → W.cell? (x.va.add k) = some (.pointer (some ⟨cl, 0, none⟩))) := Lib.hid (fun W hW => hW.cell hvk (by
        rw [show (x.va.add k).block = x.va.block from by unfold Addr.add; split <;> rfl]
        have hF1 := HF.out _ B1d.out
        rintro (hc | hc)
        · rcases A4.out.sw _ hc with h5 | h5
          · exact hF1.wT _ hF1.onv h5
          · have := hF1.old _ ((hF1.hS _).2 (.inr (.inr (.inr (.inr hF1.onv)))))
            omega
        · exact hF1.cT _ HCM.out (hc ▸ hF1.onv)))
      clear hch hu hcl
      go_wp2_with (fail)
      go_region_held3 (fun W => W.cell? ⟨g, 9, none⟩ = some (.slice (some x.va) N x.vc) ∧ W.cell? (x.va.add k) = some (.pointer (some ⟨cl, 0, none⟩)) ∧ W.cell? ⟨g, 6, none⟩ = some (.pointer (some ⟨x.gw, 0, none⟩)))
        (first | exact ⟨g9, hvk, g6⟩ | exact ⟨gg9, hvk2, gg6⟩ | assumption)
        (first
        | (go_at_call 112; refine HX.out.mono ?_; rintro e w5 ⟨rfl, Sw5, hap5, hsw5, hch5d⟩; have hch5 := ((Ch.refl (fun b => Sw' b ∨ b = cl) wr).drew).trans hch5d (fun _ _ h => h); obtain ⟨-, ⟨-, -, gg6, -, -, gg9⟩⟩ := HCEL.out _ B1d.out _ hap5.ch; rw [← HNN.out] at gg9; have hvk2 := HVK.out w5 hch5))
      have A5 := Lib.hid hap5
      have HS5 : Hid (∀ j, Sw5 j → Sw2 j ∨ w3.heap.size ≤ j) := Lib.hid (fun j hj => by
        rcases hsw5 j hj with h5 | h5
        · exact HS4.out j h5
        · exact .inr (Nat.le_trans HC4.out.size h5))
      have HC5 : Hid (Ch (fun b => Sw2 b ∨ b ∈ x.cols) w3 w5) := Lib.hid (HC4.out.trans (S' := fun b => Sw' b ∨ b = cl) hch5 fun b hb hc => by
        rcases hc with hc | hc
        · rcases HS4.out b hc with h5 | h5
          · exact .inl h5
          · omega
        · exact .inr (hc ▸ HCM.out))
      clear hap5 hsw5 hch5 hch5d gg9 hvk2 gg6 hvk
      clear k0 k1 k2 k3 k4 k5 k6 k7 k8 k9 g4 g5 g6 g7 g8 g9
      go_wp2
      go_roundw
      case rel => exact ⟨k + 1, Sw5, by omega, by go_num, A5.out, HS5.out, HC5.out⟩
      case measure => simp [intOf]; omega
    · obtain rfl : k = N := by omega
      have hF1 := HF.out _ B1d.out
      have hobj1 := hF1.obj
      rw [kcs_eq] at hobj1
      have hgw := A4.out.keep hF1.gw hF1.gt hF1.gc (blk_lt hobj1)
      have hg7 := hgw.trans hobj1
      have hbx := HBX.out _ B1d.out _ A4.out.ch
      have hne : w.heap.size ≠ g := fun he => by
        have := HFF.out.old g ((HFF.out.hS g).2 (.inl rfl))
        omega
      have hgf : wr.frozen? ⟨g, 7, none⟩ = false := obj_free hg7
      have hln := HR2.out
      obtain ⟨W6, hW6, hg6, hb6, hc6⟩ : ∃ W : World, W = wr.setCell ⟨g, 7, none⟩ (.int .i64 ((l.length : Int) + 1)) ∧ W.heap[g]? = some (.cells (cells20 q (l.length + 1) (width q) x (lastS q l) x.r) 158 (0, 0)) ∧ W.heap[w.heap.size]? = some (.cells #[.int .i64 s.t, .int .i64 s.h.schema, .int .u64 s.h.zero, .int .u64 s.h.zc, .int .u64 s.h.cnt, .int .u64 s.h.sum, .slice p.A s.h.pos.length p.c, .slice p.B s.h.neg.length p.d, .slice p.C s.h.pc.length p.cc, .slice p.D s.h.nc.length p.dd] 74 (0, 0)) ∧ Ch (fun b => b = g) wr W :=
        ⟨_, rfl, by rw [← cells20_7 q l.length]; exact blk_set hg7 7 _, (Below.heap_setCell _ _ _ _ hne).trans hbx, (Ch.refl (fun b => b = g) wr).setCell (p := ⟨g, 7, none⟩) (.inl rfl) _⟩
      have HW6 := Lib.hid hW6
      have HUPD : Hid (∀ (r : Lh) (w8 : World), FhIn w8 { s.h with pos := q.pos, neg := q.neg } r → OnH (fun k => W6.heap.size ≤ k) { s.h with pos := q.pos, neg := q.neg } r → Below W6.heap.size W6 w8 → Upd (fun W S => Ck W g S q (l ++ [s])) S w (setLast w8 g (.int .i64 s.t) (.int .i64 s.h.schema) (.int .u64 s.h.zero) (.int .u64 s.h.zc) (.int .u64 s.h.cnt) (.int .u64 s.h.sum) (.slice r.A q.pos.length r.c) (.slice r.B q.neg.length r.d) (.slice r.C s.h.pc.length r.cc) (.slice r.D s.h.nc.length r.dd))) := Lib.hid (by
        intro r w8 h1 h2 h3
        have hw6 : W6 = wr.setCell ⟨g, 7, none⟩ (.int .i64 (l.length + 1 : Nat)) := by rw [hW6]; rfl
        subst hw6
        have ha := A4.out
        rw [HNN.out] at ha
        exact Upd.then (fun k hk => .inl hk) (Ch.of_below (HEND.out _ B1d.out)) (Ap.done hF1 H0.out HH64.out ha h3 h1 h2))
      have HQ : Hid (∀ W : World, W.heap[g]? = some (.cells (cells20 q (l.length + 1) (width q) x (lastS q l) x.r) 158 (0, 0)) → W.heap[w.heap.size]? = some (.cells #[.int .i64 s.t, .int .i64 s.h.schema, .int .u64 s.h.zero, .int .u64 s.h.zc, .int .u64 s.h.cnt, .int .u64 s.h.sum, .slice p.A s.h.pos.length p.c, .slice p.B s.h.neg.length p.d, .slice p.C s.h.pc.length p.cc, .slice p.D s.h.nc.length p.dd] 74 (0, 0)) → ((W.cell? ⟨w.heap.size, 0, none⟩ = some (.int .i64 s.t) ∧ W.cell? ⟨w.heap.size, 1, none⟩ = some (.int .i64 s.h.schema) ∧ W.cell? ⟨w.heap.size, 2, none⟩ = some (.int .u64 s.h.zero) ∧ W.cell? ⟨w.heap.size, 3, none⟩ = some (.int .u64 s.h.zc) ∧ W.cell? ⟨w.heap.size, 4, none⟩ = some (.int .u64 s.h.cnt) ∧ W.cell? ⟨w.heap.size, 5, none⟩ = some (.int .u64 s.h.sum) ∧ W.cell? ⟨w.heap.size, 6, none⟩ = some (.slice p.A s.h.pos.length p.c) ∧ W.cell? ⟨w.heap.size, 7, none⟩ = some (.slice p.B s.h.neg.length p.d) ∧ W.cell? ⟨w.heap.size, 8, none⟩ = some (.slice p.C s.h.pc.length p.cc) ∧ W.cell? ⟨w.heap.size, 9, none⟩ = some (.slice p.D s.h.nc.length p.dd)) ∧ W.cell? ⟨g, 4, none⟩ = some (.slice x.p.A q.pos.length x.p.c) ∧ W.cell? ⟨g, 5, none⟩ = some (.slice x.p.B q.neg.length x.p.d))) := Lib.hid (fun W hg hb => ⟨⟨obj_cell hb rfl, obj_cell hb rfl, obj_cell hb rfl, obj_cell hb rfl, obj_cell hb rfl, obj_cell hb rfl, obj_cell hb rfl, obj_cell hb rfl, obj_cell hb rfl, obj_cell hb rfl⟩, obj_cell hg rfl, obj_cell hg rfl⟩)
      have HQ2 : Hid (∀ (W : World) (v0 v1 v2 v3 v4 v5 v6 v7 v8 v9 : Value), W.heap[g]? = some (.cells (cells20 q (l.length + 1) (width q) x (lastS q l) x.r) 158 (0, 0)) → W.heap[w.heap.size]? = some (.cells #[.int .i64 s.t, .int .i64 s.h.schema, .int .u64 s.h.zero, .int .u64 s.h.zc, .int .u64 s.h.cnt, .int .u64 s.h.sum, .slice p.A s.h.pos.length p.c, .slice p.B s.h.neg.length p.d, .slice p.C s.h.pc.length p.cc, .slice p.D s.h.nc.length p.dd] 74 (0, 0)) → ∀ W' : World, W' = setLast W g v0 v1 v2 v3 v4 v5 v6 v7 v8 v9 → ((W'.cell? ⟨w.heap.size, 0, none⟩ = some (.int .i64 s.t) ∧ W'.cell? ⟨w.heap.size, 1, none⟩ = some (.int .i64 s.h.schema) ∧ W'.cell? ⟨w.heap.size, 2, none⟩ = some (.int .u64 s.h.zero) ∧ W'.cell? ⟨w.heap.size, 3, none⟩ = some (.int .u64 s.h.zc) ∧ W'.cell? ⟨w.heap.size, 4, none⟩ = some (.int .u64 s.h.cnt) ∧ W'.cell? ⟨w.heap.size, 5, none⟩ = some (.int .u64 s.h.sum) ∧ W'.cell? ⟨w.heap.size, 6, none⟩ = some (.slice p.A s.h.pos.length p.c) ∧ W'.cell? ⟨w.heap.size, 7, none⟩ = some (.slice p.B s.h.neg.length p.d) ∧ W'.cell? ⟨w.heap.size, 8, none⟩ = some (.slice p.C s.h.pc.length p.cc) ∧ W'.cell? ⟨w.heap.size, 9, none⟩ = some (.slice p.D s.h.nc.length p.dd)) ∧ W'.cell? ⟨g, 4, none⟩ = some (.slice x.p.A q.pos.length x.p.c) ∧ W'.cell? ⟨g, 5, none⟩ = some (.slice x.p.B q.neg.length x.p.d))) := Lib.hid (fun W v0 v1 v2 v3 v4 v5 v6 v7 v8 v9 hg hb0 W' hW' => by
        have hb := (setLast_ch W g v0 v1 v2 v3 v4 v5 v6 v7 v8 v9).blk hb0 hne
        have hg2 := setLast_blk hg v0 v1 v2 v3 v4 v5 v6 v7 v8 v9
        rw [cells20_ten] at hg2
        rw [← hW'] at hb hg2
        exact ⟨⟨obj_cell hb rfl, obj_cell hb rfl, obj_cell hb rfl, obj_cell hb rfl, obj_cell hb rfl, obj_cell hb rfl, obj_cell hb rfl, obj_cell hb rfl, obj_cell hb rfl, obj_cell hb rfl⟩, obj_cell hg2 rfl, obj_cell hg2 rfl⟩)
      have HON : Hid (Calls Tryz.prog 113 #[.agg #[.int .i64 s.t, .int .i64 s.h.schema, .int .u64 s.h.zero, .int .u64 s.h.zc, .int .u64 s.h.cnt, .int .u64 s.h.sum, .slice p.A s.h.pos.length p.c, .slice p.B s.h.neg.length p.d, .slice p.C s.h.pc.length p.cc, .slice p.D s.h.nc.length p.dd], .slice x.p.A q.pos.length x.p.c, .slice x.p.B q.neg.length x.p.d] W6.drew fun e w' => ∃ r : Lh, e = .returned (.agg #[.int .i64 s.t, .int .i64 s.h.schema, .int .u64 s.h.zero, .int .u64 s.h.zc, .int .u64 s.h.cnt, .int .u64 s.h.sum, .slice r.A q.pos.length r.c, .slice r.B q.neg.length r.d, .slice r.C s.h.pc.length r.cc, .slice r.D s.h.nc.length r.dd]) ∧
          FhIn w' { s.h with pos := q.pos, neg := q.neg } r ∧ OnH (fun k => W6.heap.size ≤ k) { s.h with pos := q.pos, neg := q.neg } r ∧ Below W6.heap.size W6 w') := Lib.hid (by
        have hcg : Ch (fun b => (x.Sw b ∨ b = x.gt ∨ b ∈ x.cols) ∨ b = g) w1.drew W6 := (A4.out.ch.mono fun _ _ h => .inl h).trans hc6 fun _ _ h => .inr h
        obtain ⟨hq1, hq2⟩ := HQP.out _ B1d.out _ hcg.drew
        refine (on_calls s p q.pos q.neg x.p.A x.p.B x.p.c x.p.d W6.drew (HSI6.out _ B1d.out _ hcg.drew) hq1 hq2).mono ?_
        rintro e w' ⟨r, he, h1, h2, h3⟩
        exact ⟨r, he, h1, h2, below_then (below_drew (Below.refl _ _)) (Nat.le_refl _) h3⟩)
      have HQD := Lib.hid (HQ.out W6.drew hg6 hb6)
      have HG6 := Lib.hid hg6
      have HBX6 := Lib.hid hb6
      obtain ⟨⟨k0, k1, k2, k3, k4, k5, k6, k7, k8, k9⟩, m4, m5⟩ := HQ.out W6 hg6 hb6
      clear hch hF1 hobj1 hgw hbx hne hW6 hg6 hb6 hc6 g4 g5 g6 g8
      go_wp2_with (fail)
      rw [← HW6.out]
      clear g7 g9 hgf
      go_region_held3 (fun W => (W.cell? ⟨w.heap.size, 0, none⟩ = some (.int .i64 s.t) ∧ W.cell? ⟨w.heap.size, 1, none⟩ = some (.int .i64 s.h.schema) ∧ W.cell? ⟨w.heap.size, 2, none⟩ = some (.int .u64 s.h.zero) ∧ W.cell? ⟨w.heap.size, 3, none⟩ = some (.int .u64 s.h.zc) ∧ W.cell? ⟨w.heap.size, 4, none⟩ = some (.int .u64 s.h.cnt) ∧ W.cell? ⟨w.heap.size, 5, none⟩ = some (.int .u64 s.h.sum) ∧ W.cell? ⟨w.heap.size, 6, none⟩ = some (.slice p.A s.h.pos.length p.c) ∧ W.cell? ⟨w.heap.size, 7, none⟩ = some (.slice p.B s.h.neg.length p.d) ∧ W.cell? ⟨w.heap.size, 8, none⟩ = some (.slice p.C s.h.pc.length p.cc) ∧ W.cell? ⟨w.heap.size, 9, none⟩ = some (.slice p.D s.h.nc.length p.dd)) ∧ W.cell? ⟨g, 4, none⟩ = some (.slice x.p.A q.pos.length x.p.c) ∧ W.cell? ⟨g, 5, none⟩ = some (.slice x.p.B q.neg.length x.p.d))
        (first | (with_reducible exact HQD.out) | (with_reducible exact hq8) | (with_reducible exact HQ2.out _ _ _ _ _ _ _ _ _ _ _ hg8 hbx8 _ rfl))
        (first
        | (go_at_call 113; refine HON.out.mono ?_; rintro e w8 ⟨r, rfl, hr8, hor8, hb8⟩; have hg8 := (Ch.of_below (S := fun _ => False) hb8).blk HG6.out (fun x => x); have hbx8 := (Ch.of_below (S := fun _ => False) hb8).blk HBX6.out (fun x => x); have hq8 := HQ.out w8 hg8 hbx8; have e10 := obj_cell (i := 10) hg8 rfl; have f10 := obj_free (i := 10) hg8; have e11 := obj_cell (i := 11) hg8 rfl; have f11 := obj_free (i := 11) hg8; have e12 := obj_cell (i := 12) hg8 rfl; have f12 := obj_free (i := 12) hg8; have e13 := obj_cell (i := 13) hg8 rfl; have f13 := obj_free (i := 13) hg8; have e14 := obj_cell (i := 14) hg8 rfl; have f14 := obj_free (i := 14) hg8; have e15 := obj_cell (i := 15) hg8 rfl; have f15 := obj_free (i := 15) hg8; have e16 := obj_cell (i := 16) hg8 rfl; have f16 := obj_free (i := 16) hg8; have e17 := obj_cell (i := 17) hg8 rfl; have f17 := obj_free (i := 17) hg8; have e18 := obj_cell (i := 18) hg8 rfl; have f18 := obj_free (i := 18) hg8; have e19 := obj_cell (i := 19) hg8 rfl; have f19 := obj_free (i := 19) hg8))
      have HU := Lib.hid (HUPD.out r w8 hr8 hor8 hb8)
      clear hr8 hor8 hb8 hg8 hbx8 hq8 e10 f10 e11 f11 e12 f12 e13 f13 e14 f14 e15 f15 e16 f16 e17 f17 e18 f18 e19 f19
      go_wp2
      go_ret
      exact (HPOST.out _ _).mpr (.inr ⟨H0.out, rfl, HU.out⟩)

end Go.Proofs.YtjfekjbmgckkcaaGreatDoor.FcF

/- fchunk's walks: a chunk without samples. -/
namespace Go.Proofs.YtjfekjbmgckkcaaGreatDoor.FcG
open Go.RowKit Go.Proofs.YtjfekjbmgckkcaaGreatDoorW.PrintWords
open Go.Proofs.YtjfekjbmgckkcaaGreatDoor.Bits Go.Proofs.YtjfekjbmgckkcaaGreatDoor.Base Go.Proofs.YtjfekjbmgckkcaaGreatDoor.VarPure Go.Proofs.YtjfekjbmgckkcaaGreatDoor.VarbitA Go.Proofs.YtjfekjbmgckkcaaGreatDoor.VarKit Go.Proofs.YtjfekjbmgckkcaaGreatDoor.StreamA Go.Proofs.YtjfekjbmgckkcaaGreatDoor.TimesPure Go.Proofs.YtjfekjbmgckkcaaGreatDoor.TimesA Go.Proofs.YtjfekjbmgckkcaaGreatDoor.Ref12 Go.Proofs.YtjfekjbmgckkcaaGreatDoor.Ref13 Go.Proofs.YtjfekjbmgckkcaaGreatDoor.SpanPure Go.Proofs.YtjfekjbmgckkcaaGreatDoor.SpanBase Go.Proofs.YtjfekjbmgckkcaaGreatDoor.FailAs Go.Proofs.YtjfekjbmgckkcaaGreatDoor.FailB Go.Proofs.YtjfekjbmgckkcaaGreatDoor.FailC Go.Proofs.YtjfekjbmgckkcaaGreatDoor.HeadA Go.Proofs.YtjfekjbmgckkcaaGreatDoor.HeadB Go.Proofs.YtjfekjbmgckkcaaGreatDoor.HeadE Go.Proofs.YtjfekjbmgckkcaaGreatDoor.HeadPure Go.Proofs.YtjfekjbmgckkcaaGreatDoor.XorPure Go.Proofs.YtjfekjbmgckkcaaGreatDoor.XorA Go.Proofs.YtjfekjbmgckkcaaGreatDoor.XorB Go.Proofs.YtjfekjbmgckkcaaGreatDoor.FcPure Go.Proofs.YtjfekjbmgckkcaaGreatDoor.FcObj Go.Proofs.YtjfekjbmgckkcaaGreatDoor.FcA Go.Proofs.YtjfekjbmgckkcaaGreatDoor.FcB Go.Proofs.YtjfekjbmgckkcaaGreatDoor.FcC Go.Proofs.YtjfekjbmgckkcaaGreatDoor.FcD Go.Proofs.YtjfekjbmgckkcaaGreatDoor.FcE

/-- pointers to blocks. -/
def rPtr : Rep.Rep Nat where
  k := 1
  enc g := [.pointer (some ⟨g, 0, none⟩)]
  ok _ _ := True
  len _ := rfl
  one n u h := by rw [List.mem_singleton.1 h]; rfl
  below _ h := h
theorem infoPtr : (Tryz.prog.info? 160).map (fun i => (i.zero, i.size, i.bytes)) = some (some (.pointer none), 1, 8) := by kernel_rfl
/-- append(v, y) as one step of a region that draws its order. -/
theorem append_ptr_step {P : Program} {ops : Array Oper} {o : Oper} {a : Act} {Q : Exit → Act → World → Prop} {K : Act → World → Prop} {W : World} (base : Nat) (hgd : o.guard = none) (s x : Operand) (t e : TypeId) (bytes : Nat)
    (ho : o.op = .call { callee := .builtin .append, args := #[s, x], argTypes := #[t, t] })
    (ht : P.underlying t = some (.slice e)) (hinfo : (P.info? e).map (fun i => (i.zero, i.size, i.bytes)) = some (some (.pointer none), 1, bytes)) (hb0 : 0 < bytes)
    (v : Value) (cols : List Nat) (y : Nat) (hs : a.eval s = v) (hx : a.eval x = .slice (some ⟨W.heap.size, 0, none⟩) 1 1)
    (HO : Rep.OwX rPtr e W base v cols) (hbase : base ≤ W.heap.size) (hl : (cols.length + 1) * bytes ≤ 140737488355328)
    (h : ∀ v1 w1, Rep.OwX rPtr e w1 base v1 (cols ++ [y]) → W.grownBy w1 v.ownBlock → K (a.put o.dst v1) w1) :
    if Region.wanted o (yielded ops a.tmps) = true then Oper.wp P o a (W.alloc (.cells #[.pointer (some ⟨y, 0, none⟩)] e)) K Q else K (a.put o.dst undef) (W.alloc (.cells #[.pointer (some ⟨y, 0, none⟩)] e)) :=
  step_append_cells (w0 := W) base (by simp [Region.wanted, hgd]) s x t e (.pointer none) 1 bytes ho ht hinfo rfl (by decide) hb0 v cols.length (Rep.all rPtr cols) [.pointer (some ⟨y, 0, none⟩)] hs hx rfl (by simp [Value.oneCell']) HO (Below.refl _ _) hbase hl
    fun v1 w1 hown _ hg _ => h v1 w1 (by
      unfold Rep.OwX
      rw [List.length_append, List.length_singleton, Rep.all_append]
      exact hown) hg
/-- a chunk whose columns are being made: its own block, the row of columns, the columns; the world ahead. -/
structure Gk (g : Nat) (A : Value → Array Value) (f : Nat → XR) (v : Value) (cols : List Nat) (Wb W : World) : Prop where
  obj : W.heap[g]? = some (.cells (A v) 158 (0, 0))
  row : Rep.OwX rPtr 160 W Wb.heap.size v cols
  xs : ∀ (j : Nat) (h : j < cols.length), XrS W cols[j] (f j)
  cb : ∀ c ∈ cols, Wb.heap.size ≤ c
  nd : cols.Nodup
  ch : Ch (fun b => b = g) Wb W
section
variable {g : Nat} {A : Value → Array Value} {f : Nat → XR} {v v1 : Value} {cols : List Nat} {Wb W W1 W3 : World} {c : Nat}
theorem Gk.drew (h : Gk g A f v cols Wb W) : Gk g A f v cols Wb W.drew := ⟨h.obj, h.row, h.xs, h.cb, h.nd, h.ch.drew⟩
theorem Gk.below (h : Gk g A f v cols Wb W) (hb : Below W.heap.size W W1) : Gk g A f v cols Wb W1 :=
  ⟨(hb.block g (blk_lt h.obj)).trans h.obj, h.row.below hb, fun j hj => (h.xs j hj).below hb, h.cb, h.nd, h.ch.then_below hb⟩
theorem Gk.start (h : Wb.heap[g]? = some (.cells (A (.slice none 0 0)) 158 (0, 0))) : Gk g A f (.slice none 0 0) [] Wb Wb :=
  ⟨h, Rep.OwX.nil _ _ _ _, fun j hj => absurd hj (by simp), fun c hc => absurd hc (by simp), List.nodup_nil, Ch.refl _ _⟩
theorem row_not (h : Rep.OwX rPtr 160 W Wb.heap.size v cols) {c : Nat} {x : XR} (hx : XrS W c x) : v.ownBlock ≠ some c := by
  intro he
  rcases h.2 with ⟨rfl, -⟩ | ⟨g', cap, cur, rfl, -, hg, -⟩
  · cases he
  · have : g' = c := by simpa [Value.ownBlock] using he
    subst this
    have := hg.symm.trans hx.1
    injection this with this
    injection this with _ this
    exact absurd this (by decide)
/-- one column more. -/
theorem Gk.push (h : Gk g A f v cols Wb W) (hg : g < Wb.heap.size) (hA : (A v).setIfInBounds 9 v1 = A v1) (hx : XrS W1 c (f cols.length)) (hc : W.heap.size ≤ c) (hb : Below W.heap.size W W1)
    (ho : Rep.OwX rPtr 160 W3 Wb.heap.size v1 (cols ++ [c])) (hgr : W1.grownBy W3 v.ownBlock) : Gk g A f v1 (cols ++ [c]) Wb (W3.setCell ⟨g, 9, none⟩ v1) := by
  have h1 := h.below hb
  have hbase : ∀ b, v.ownBlock = some b → Wb.heap.size ≤ b ∧ b < W.heap.size := fun b hb => ⟨Rep.OwX.base_ h.row b hb, Rep.OwX.lt_ h.row b hb⟩
  have h13 : Ch (fun b => v.ownBlock = some b) W1 W3 := (Ch.refl _ W1).grown hgr fun k hk => .inl hk
  have h34 : Ch (fun b => b = g) W3 (W3.setCell ⟨g, 9, none⟩ v1) := (Ch.refl (fun b => b = g) W3).setCell (p := ⟨g, 9, none⟩) (.inl rfl) _
  have hgv : ¬ v.ownBlock = some g := fun he => by have := (hbase g he).1; omega
  have hlt : ∀ b ∈ cols, b < W.heap.size := fun b hb' => by
    obtain ⟨j, hj, rfl⟩ := List.getElem_of_mem hb'
    exact (h.xs j hj).lt
  refine ⟨?_, ?_, fun j hj => ?_, fun d hd => ?_, ?_, ?_⟩
  · rw [← hA]
    exact blk_set (h13.blk h1.obj hgv) 9 _
  · exact Rep.OwX.move ho fun b hb' => h34.block b (Rep.OwX.lt_ ho b hb') fun he => by have := Rep.OwX.base_ ho b hb'; omega
  · rw [List.length_append, List.length_singleton] at hj
    rcases Nat.lt_or_ge j cols.length with hlj | hlj
    · rw [List.getElem_append_left hlj]
      refine ((h1.xs j hlj).ch h13 (row_not h1.row (h1.xs j hlj))).ch h34 fun he => ?_
      have := h.cb _ (List.getElem_mem hlj)
      omega
    · obtain rfl : j = cols.length := by omega
      rw [List.getElem_append_right (Nat.le_refl _)]
      simp only [Nat.sub_self, List.getElem_cons_zero]
      have := h.ch.size
      refine (hx.ch h13 fun he => ?_).ch h34 fun he => by omega
      have := (hbase c he).2
      omega
  · rcases List.mem_append.1 hd with h4 | h4
    · exact h.cb d h4
    · rw [List.mem_singleton.1 h4]
      exact Nat.le_trans h.ch.size hc
  · refine List.nodup_append.2 ⟨h.nd, List.nodup_cons.2 ⟨by simp, List.nodup_nil⟩, fun a ha b hb' => ?_⟩
    rw [List.mem_singleton.1 hb']
    have := hlt a ha
    omega
  · exact (h1.ch.trans h13 fun i hi he => absurd (hbase i he).1 (by omega)).trans h34 fun _ _ he => he
end

/-- a chunk's cells, as it is made: the columns' slice open. -/
def cellsN (q : Hd) (p : Lc) (gw gt : Nat) (v : Value) : Array Value := #[.int .i64 q.vr, .int .i64 q.hint, .int .i64 q.schema, .int .u64 q.zero, .slice p.A q.pos.length p.c, .slice p.B q.neg.length p.d, .pointer (some ⟨gw, 0, none⟩), .int .i64 0, .pointer (some ⟨gt, 0, none⟩), v, .int .i64 0, .int .i64 0, .int .u64 0, .int .u64 0, .int .u64 0, .int .u64 0, .slice none 0 0, .slice none 0 0, .slice none 0 0, .slice none 0 0]
theorem cellsN_set (q : Hd) (p : Lc) (gw gt : Nat) (v v1 : Value) : (cellsN q p gw gt v).setIfInBounds 9 v1 = cellsN q p gw gt v1 := by simp [cellsN]
theorem la_nil (W : World) : FhIn W ⟨0, 0, 0, 0, 0, [], [], [], []⟩ ⟨none, 0, none, 0, none, 0, none, 0⟩ :=
  ⟨⟨RdC.nil _ _, Nat.zero_le _, Nat.zero_le _, fun _ => rfl⟩, ⟨RdC.nil _ _, Nat.zero_le _, Nat.zero_le _, fun _ => rfl⟩, ⟨RdI.nil _ _ _, Nat.zero_le _, Nat.zero_le _, fun _ => rfl⟩, ⟨RdI.nil _ _ _, Nat.zero_le _, Nat.zero_le _, fun _ => rfl⟩, ⟨by decide, by decide, by decide, by decide, fun v hv => absurd hv (by simp), fun v hv => absurd hv (by simp)⟩⟩
/-- what a head leads to. -/
def NewPost (q : Hd) (w : World) (e : Ending) (w' : World) : Prop :=
  Below w.heap.size w w' ∧ (((headErr q).1 ≠ 0 ∧ ∃ v, e = .returned (.tuple #[.pointer none, v]) ∧ Err w' v (plc (headErr q).1 (headErr q).2 0) .nilIface) ∨
    ((headErr q).1 = 0 ∧ q.vr ≠ 1 ∧ ∃ v, e = .returned (.tuple #[.pointer none, v]) ∧ Err w' v (plc (25 : Nat) pVariant 0) .nilIface) ∨
    ((headErr q).1 = 0 ∧ q.vr = 1 ∧ ∃ g S, e = .returned (.tuple #[.pointer (some ⟨g, 0, none⟩), .nilIface]) ∧ Ck w' g S q [] ∧ ∀ k, S k → w.heap.size ≤ k))
theorem Gk.done {g gw gt : Nat} {q : Hd} {p : Lc} {Sw : Nat → Prop} {v : Value} {cols : List Nat} {w Wb W : World} (h : Gk g (cellsN q p gw gt) (fun _ => xr0) v cols Wb W) (hg : g < Wb.heap.size) (hgb : w.heap.size ≤ g) (hok : (headErr q).1 = 0) (hl : cols.length = width q)
    (hd : HdIn Wb q p) (hp : On (fun k => w.heap.size ≤ k) p.A q.pos.length) (hn : On (fun k => w.heap.size ≤ k) p.B q.neg.length)
    (hw : Wr Wb gw Sw (encH q)) (hwb : ∀ k, Sw k → w.heap.size ≤ k) (ht : TrS Wb gt 0 0 0) (htb : w.heap.size ≤ gt)
    (h1 : ¬ Sw g) (h2 : g ≠ gt) (h3 : ¬ Sw gt) (h4 : On (fun k => ¬ Sw k ∧ k ≠ g ∧ k ≠ gt) p.A q.pos.length) (h5 : On (fun k => ¬ Sw k ∧ k ≠ g ∧ k ≠ gt) p.B q.neg.length) :
    ∃ S, Ck W g S q [] ∧ ∀ k, S k → w.heap.size ≤ k := by
  have hcl : ∀ c ∈ cols, c < W.heap.size := fun c hc => by
    obtain ⟨j, hj, rfl⟩ := List.getElem_of_mem hc
    exact (h.xs j hj).lt
  have hlen : 0 < cols.length := by rw [hl]; unfold width; omega
  obtain ⟨gv, cap, cur, rfl, hbv, -, hcap, -, -, -⟩ : ∃ g cap cur, v = .slice (some ⟨g, 0, none⟩) cols.length cap ∧ Wb.heap.size ≤ g ∧ W.heap[g]? = some (.cells cur 160 (0, 0)) ∧ cols.length ≤ cap ∧ cap ≤ maxLen ∧ cur.size = cap * 1 ∧ cur.toList.take (cols.length * 1) = Rep.all rPtr cols := by
    rcases h.row.2 with ⟨-, h0⟩ | ⟨g', cap, cur, e1, e2, e3, e4, e5, e6, e7⟩
    · omega
    · exact ⟨g', cap, cur, e1, e2, e3, e4, e5, e6, e7⟩
  have hgvlt : gv < W.heap.size := Rep.OwX.lt_ h.row gv rfl
  have hgvc : gv ∉ cols := fun hc => by
    obtain ⟨j, hj, he⟩ := List.getElem_of_mem hc
    have := row_not h.row (h.xs j hj)
    rw [he] at this
    exact this rfl
  have hch := h.ch
  have hwo := hw.old
  have hto := ht.lt
  have hpo : ∀ ad, p.A = some ad → 0 < q.pos.length → ad.block < Wb.heap.size := fun ad hA hp' => HeadD.rd_lt hd.pos.rd ad hA hp'
  have hno : ∀ ad, p.B = some ad → 0 < q.neg.length → ad.block < Wb.heap.size := fun ad hA hp' => HeadD.rd_lt hd.neg.rd ad hA hp'
  obtain ⟨T, hT⟩ : ∃ T : Nat → Prop, T = fun k => (w.heap.size ≤ k ∧ k < Wb.heap.size ∧ ¬ Sw k ∧ k ≠ g ∧ k ≠ gt) ∨ k = gv := ⟨_, rfl⟩
  have hTA : ∀ ad, p.A = some ad → 0 < q.pos.length → T ad.block := fun ad hA hp' => by rw [hT]; exact .inl ⟨hp ad hA hp', hpo ad hA hp', h4 ad hA hp'⟩
  have hTB : ∀ ad, p.B = some ad → 0 < q.neg.length → T ad.block := fun ad hA hp' => by rw [hT]; exact .inl ⟨hn ad hA hp', hno ad hA hp', h5 ad hA hp'⟩
  have hTv : T gv := by rw [hT]; exact .inr rfl
  have hTn : ∀ k, T k → (w.heap.size ≤ k ∧ k < W.heap.size ∧ ¬ Sw k ∧ k ≠ g ∧ k ≠ gt ∧ k ∉ cols) := fun k hk => by
    rw [hT] at hk
    have hsz := hch.size
    rcases hk with ⟨e1, e2, e3, e4, e5⟩ | hk
    · exact ⟨e1, by omega, e3, e4, e5, fun hc => by have := h.cb k hc; omega⟩
    · subst hk
      have := hch.size
      exact ⟨by omega, hgvlt, fun hs => by have := hwo _ hs; omega, by omega, by omega, hgvc⟩
  have hTno : ∀ k, k < Wb.heap.size → T k → ¬ (fun b => b = g) k := fun k _ hk he => (hTn k hk).2.2.2.1 he
  refine ⟨fun k => k = g ∨ Sw k ∨ k = gt ∨ k ∈ cols ∨ T k, ⟨⟨p, gw, gt, Sw, ⟨gv, 0, none⟩, cap, cols, ⟨none, 0, none, 0, none, 0, none, 0⟩, T⟩, ?_⟩, ?_⟩
  · exact {
      obj := by rw [h.obj, kcs_eq, lastS_nil, ← hl]; rfl
      hd := ⟨⟨HeadD.rd_ch hd.pos.rd hch fun ad hA hp' => (h4 ad hA hp').2.1, hd.pos.len, hd.pos.cap, hd.pos.nil⟩, ⟨HeadD.rd_ch hd.neg.rd hch fun ad hA hp' => (h5 ad hA hp').2.1, hd.neg.len, hd.neg.cap, hd.neg.nil⟩, hd.z⟩
      wr := by
        rw [bitsB_nil, List.append_nil]
        exact hw.ch hch fun k hk he => h1 (he ▸ hk)
      tr := ht.ch hch fun he => h2 he.symm
      cl := hl
      vc := hl ▸ hcap
      vals := fun k hk => by
        obtain ⟨y, e1, e2, e3⟩ := h.row.reads
        injection e1 with e4 e5 e6
        obtain ⟨ad, e7, e8⟩ := Rep.RdC.elem (r := rPtr) e3.rd k (by rw [e2]; exact hk) (by decide)
        rw [← e4] at e7
        injection e7 with e7
        subst e7
        have := e8 0 _ rfl
        simp only [e2] at this
        have hk1 : k * rPtr.k + 0 = k := by show k * 1 + 0 = k; omega
        rwa [hk1] at this
      xs := fun k hk => h.xs k hk
      la := by rw [lastS_nil]; exact la_nil W
      n64 := fun s hs => absurd hs (by simp)
      good := good_nil q
      okq := hok
      onp := hTA
      onn := hTB
      onv := hTv
      onr := ⟨fun ad hA => absurd hA (by simp), fun ad hA => absurd hA (by simp), fun ad hA => absurd hA (by simp), fun ad hA => absurd hA (by simp)⟩
      hS := fun k => Iff.rfl
      old := fun k hk => by
        have hsz := hch.size
        rcases hk with hk | hk | hk | hk | hk
        · omega
        · have := hwo k hk; omega
        · omega
        · exact hcl k hk
        · exact (hTn k hk).2.1
      gw := h1
      gt := h2
      gc := fun hc => by have := h.cb g hc; omega
      gT := fun hk => (hTn g hk).2.2.2.1 rfl
      wt := h3
      wc := fun k hk hs => by have := h.cb k hk; have := hwo k hs; omega
      wT := fun k hk hs => (hTn k hk).2.2.1 hs
      tc := fun hc => by have h9 : Wb.heap.size ≤ gt := h.cb gt hc; omega
      tT := fun hk => (hTn gt hk).2.2.2.2.1 rfl
      cn := h.nd
      cT := fun k hk hT' => (hTn k hT').2.2.2.2.2 hk }
  · intro k hk
    rcases hk with hk | hk | hk | hk | hk
    · omega
    · exact hwb k hk
    · omega
    · have := h.cb k hk
      have := hto
      omega
    · exact (hTn k hk).1

set_option maxRecDepth 100000 in
set_option maxHeartbeats 6400000 in
theorem new_calls (q : Hd) (p : Lc) (w : World) (hh : HdIn w q p) (hE : GlE w) (hT : Tab w) :
    Calls Tryz.prog 36 #[.agg (hcs q p).toArray] w (NewPost q w) := by
  have HPO : Hid (∀ e w', NewPost q w e w' = (Below w.heap.size w w' ∧ (((headErr q).1 ≠ 0 ∧ ∃ v, e = .returned (.tuple #[.pointer none, v]) ∧ Err w' v (plc (headErr q).1 (headErr q).2 0) .nilIface) ∨
    ((headErr q).1 = 0 ∧ q.vr ≠ 1 ∧ ∃ v, e = .returned (.tuple #[.pointer none, v]) ∧ Err w' v (plc (25 : Nat) pVariant 0) .nilIface) ∨
    ((headErr q).1 = 0 ∧ q.vr = 1 ∧ ∃ g S, e = .returned (.tuple #[.pointer (some ⟨g, 0, none⟩), .nilIface]) ∧ Ck w' g S q [] ∧ ∀ k, S k → w.heap.size ≤ k)))) := Lib.hid (fun _ _ => rfl)
  obtain ⟨W0, hW0, hbk, hal⟩ : ∃ W0 : World, W0 = w.alloc (.cells #[.int .i64 q.vr, .int .i64 q.hint, .int .i64 q.schema, .int .u64 q.zero, .slice p.A q.pos.length p.c, .slice p.B q.neg.length p.d] 25) ∧ W0.heap[w.heap.size]? = some (.cells #[.int .i64 q.vr, .int .i64 q.hint, .int .i64 q.schema, .int .u64 q.zero, .slice p.A q.pos.length p.c, .slice p.B q.neg.length p.d] 25 (0, 0)) ∧ Below w.heap.size w W0 := ⟨_, rfl, blk_last w _, below_alloc (Below.refl _ _) _⟩
  have HCEL : Hid (∀ W : World, W.heap[w.heap.size]? = some (.cells #[.int .i64 q.vr, .int .i64 q.hint, .int .i64 q.schema, .int .u64 q.zero, .slice p.A q.pos.length p.c, .slice p.B q.neg.length p.d] 25 (0, 0)) → (W.cell? ⟨w.heap.size, 0, none⟩ = some (.int .i64 q.vr) ∧ W.cell? ⟨w.heap.size, 1, none⟩ = some (.int .i64 q.hint) ∧ W.cell? ⟨w.heap.size, 2, none⟩ = some (.int .i64 q.schema) ∧ W.cell? ⟨w.heap.size, 3, none⟩ = some (.int .u64 q.zero) ∧ W.cell? ⟨w.heap.size, 4, none⟩ = some (.slice p.A q.pos.length p.c) ∧ W.cell? ⟨w.heap.size, 5, none⟩ = some (.slice p.B q.neg.length p.d))) := Lib.hid (fun W hb => ⟨obj_cell hb rfl, obj_cell hb rfl, obj_cell hb rfl, obj_cell hb rfl, obj_cell hb rfl, obj_cell hb rfl⟩)
  have HNW := Lib.hid (newWriter_calls none 0 0 [] W0 (RdI.nil .u8 _ _) (by decide) (by decide) (fun _ => rfl) (by decide))
  rw [show (bts []).take 0 = [] from rfl] at HNW
  have HH := Lib.hid (hh.below hal)
  have HE := Lib.hid (gle_below hE hal)
  have HT := Lib.hid (hT.below hal)
  have HEND := Lib.hid (fun W (hb : Below W0.heap.size W0 W) => below_then hal hal.size hb)
  have HZ0 := Lib.hid hal.size
  have HLT := Lib.hid (blk_lt hbk)
  have HW0 := Lib.hid hW0
  have HBK := Lib.hid hbk
  have hk := HCEL.out W0 hbk
  obtain ⟨k0, k1, k2, k3, k4, k5⟩ := hk
  clear hh hE hT hal hbk hW0
  show Calls Tryz.prog 36 #[.agg #[.int .i64 q.vr, .int .i64 q.hint, .int .i64 q.schema, .int .u64 q.zero, .slice p.A q.pos.length p.c, .slice p.B q.neg.length p.d]] w _
  go_enter Tryz.func36, Tryz.ntmps36
  go_wp2_with (fail)
  rw [← HW0.out]
  refine HNW.out.mono ?_
  rintro e w1 ⟨gw, Sw, rfl, hw, hSw, hb1⟩
  have B1 := Lib.hid hb1
  have HSW := Lib.hid hSw
  have HBK1 := Lib.hid ((hb1.block _ HLT.out).trans HBK.out)
  have HH1 := Lib.hid (HH.out.below hb1)
  have HNG : Hid (¬ Sw 1) := Lib.hid (fun hs => by
    have := hSw _ hs
    have := HT.out.lt
    omega)
  have hnA : ∀ ad, p.A = some ad → 0 < q.pos.length → ¬ Sw ad.block := fun ad hA hp hs => by
    have := HeadD.rd_lt HH.out.pos.rd ad hA hp
    have := hSw _ hs
    omega
  have hnB : ∀ ad, p.B = some ad → 0 < q.neg.length → ¬ Sw ad.block := fun ad hA hp hs => by
    have := HeadD.rd_lt HH.out.neg.rd ad hA hp
    have := hSw _ hs
    omega
  have HPU := Lib.hid (Put_calls gw Sw [] q p w1 HH1.out (gle_below HE.out hb1) (HT.out.below hb1) HNG.out hw (by decide) hnA hnB)
  obtain ⟨k0, k1, k2, k3, k4, k5⟩ := HCEL.out w1 HBK1.out
  have HNA := Lib.hid hnA
  have HNB := Lib.hid hnB
  clear hw hSw hb1 HNW hnA hnB
  go_wp2_with (fail)
  refine HPU.out.mono ?_
  rintro e w2 hput
  clear HPU
  by_cases h0 : (headErr q).1 ≠ 0
  · obtain ⟨v, rfl, he, hb2⟩ : ErrAt (headErr q).1 (headErr q).2 0 w1 e w2 := by
      rcases hput with ⟨h, -⟩ | ⟨-, h⟩
      · exact absurd h h0
      · exact h
    have B2 := Lib.hid (HEND.out _ (below_then B1.out B1.out.size hb2))
    have H0 := Lib.hid h0
    have E2 := Lib.hid he
    obtain ⟨ge, rfl⟩ := err_some (by omega) he
    clear hput he hb2 h0 k0 k1 k2 k3 k4 k5
    go_wp2
    go_ret2
    exact (HPO.out _ _).mpr ⟨B2.out, .inl ⟨H0.out, _, rfl, E2.out⟩⟩
  have h0 := Decidable.not_not.1 h0
  obtain ⟨rfl, hu⟩ : e = .returned .nilIface ∧ Upd (fun w S => Wr w gw S ([] ++ encH q)) Sw w1 w2 := by
    rcases hput with ⟨-, h1, h2⟩ | ⟨h, -⟩
    · exact ⟨h1, h2⟩
    · exact absurd h0 h
  obtain ⟨S2, hw2, hs2, hc2⟩ := hu
  rw [List.nil_append] at hw2
  have H0 := Lib.hid h0
  have B2 := Lib.hid (ch_new B1.out B1.out.size HSW.out hc2)
  have HS2 : Hid (∀ k, S2 k → W0.heap.size ≤ k) := Lib.hid (fun k hk => by
    rcases hs2 k hk with h | h
    · exact HSW.out k h
    · exact Nat.le_trans B1.out.size h)
  have HW2 := Lib.hid hw2
  have HBK2 := Lib.hid (hc2.blk HBK1.out fun hs => by have := HSW.out _ hs; have := HLT.out; omega)
  have HH2 : Hid (HdIn w2 q p) := Lib.hid (HH.out.below B2.out)
  obtain ⟨k0, k1, k2, k3, k4, k5⟩ := HCEL.out w2 HBK2.out
  clear hput h0 hw2 hs2 hc2
  by_cases hv : q.vr ≠ 1
  · have e1 : (q.vr != 1) = true := by simpa using hv
    have HV := Lib.hid hv
    have HAT := Lib.hid (FcA.at_calls 25 pVariant 0 w2 (gle_below HE.out B2.out))
    clear hv
    go_wp2_with (fail)
    refine HAT.out.mono ?_
    rintro e w3 ⟨v, rfl, he, hb3⟩
    have E3 := Lib.hid he
    have B3 := Lib.hid (HEND.out _ (below_then B2.out B2.out.size hb3))
    clear he hb3 k0 k1 k2 k3 k4 k5
    go_wp2
    go_ret2
    exact (HPO.out _ _).mpr ⟨B3.out, .inr (.inl ⟨H0.out, HV.out, _, rfl, E3.out⟩)⟩
  have hv := Decidable.not_not.1 hv
  have e1 : (q.vr != 1) = false := by simpa using hv
  have HV := Lib.hid hv
  have HOW := Lib.hid (FcA.own_calls q p w2 HH2.out)
  clear hv
  go_wp2_with (fail)
  refine HOW.out.mono ?_
  rintro e w3 ⟨r, rfl, hr, honA, honB, hb3⟩
  have B3 := Lib.hid (below_then B2.out B2.out.size hb3)
  have R3 := Lib.hid hr
  have OA := Lib.hid honA
  have OB := Lib.hid honB
  have W3' := Lib.hid (HW2.out.below hb3)
  have HBK3 := Lib.hid ((hb3.block _ (blk_lt HBK2.out)).trans HBK2.out)
  have HSZ3 := Lib.hid hb3.size
  have HOL2 := Lib.hid HW2.out.old
  have HNS := Lib.hid (newS_calls w3)
  clear hr honA honB hb3 HOW k0 k1 k2 k3 k4 k5
  dsimp only [hcs]
  go_wp2_with (fail)
  refine HNS.out.mono ?_
  rintro e w4 ⟨rfl, ht4, hb4⟩
  have T4 := Lib.hid ht4
  have B4 := Lib.hid (below_then B3.out B3.out.size hb4)
  have R4 := Lib.hid (R3.out.below hb4)
  have W4' := Lib.hid (W3'.out.below hb4)
  have HBK4 := Lib.hid ((hb4.block _ (blk_lt HBK3.out)).trans HBK3.out)
  have HSZ4 := Lib.hid hb4.size
  obtain ⟨gt, hgt⟩ : ∃ gt, gt = w3.heap.size := ⟨_, rfl⟩
  have HGT := Lib.hid hgt
  rw [← hgt] at T4 ⊢
  have hgt4 := T4.out.lt
  obtain ⟨W5, hW5, hg5, hb5, hsz5⟩ : ∃ W : World, W = w4.alloc (.cells (cellsN q r gw gt (.slice none 0 0)) 158) ∧ W.heap[w4.heap.size]? = some (.cells (cellsN q r gw gt (.slice none 0 0)) 158 (0, 0)) ∧ Below w4.heap.size w4 W ∧ w4.heap.size < W.heap.size := ⟨_, rfl, blk_last w4 _, below_alloc (Below.refl _ _) _, by simp⟩
  have HW5 : Hid (W5 = w4.alloc (.cells #[.int .i64 q.vr, .int .i64 q.hint, .int .i64 q.schema, .int .u64 q.zero, .slice r.A q.pos.length r.c, .slice r.B q.neg.length r.d, .pointer (some ⟨gw, 0, none⟩), .int .i64 0, .pointer (some ⟨gt, 0, none⟩), .slice none 0 0, .int .i64 0, .int .i64 0, .int .u64 0, .int .u64 0, .int .u64 0, .int .u64 0, .slice none 0 0, .slice none 0 0, .slice none 0 0, .slice none 0 0] 158)) := Lib.hid (by rw [hW5]; rfl)
  have HG5 := Lib.hid hg5
  have HB5 := Lib.hid hb5
  have HSZ5 := Lib.hid hsz5
  clear hW5 hg5 hb5 hsz5 ht4 hb4 HNS hgt hgt4
  go_wp2_with (fail)
  rw [← HW5.out]
  obtain ⟨hq1, hq2⟩ := okq_chk H0.out
  have hB45 := below_then B4.out B4.out.size HB5.out
  have HCT : Hid (∀ (A' : Option Addr) (c' : Nat) (m : List Sp), chk m = 0 → Spl W0 A' c' m → ∀ W, Below W5.heap.size W5 W → Calls Tryz.prog 99 #[.slice A' m.length c'] W fun e w' => e = .returned (.int .i64 (places m).length) ∧ Below W5.heap.size W5 w') := Lib.hid (by
    intro A' c' m hm hs W hb
    have := SpanQ.count_calls A' c' m W ((hs.below hB45).below hb).rd (by have := hs.len; omega)
    rw [if_pos hm] at this
    exact lift hb hb.size this)
  have HC1 := Lib.hid (HCT.out _ _ _ hq1 HH.out.pos)
  have HC2 := Lib.hid (HCT.out _ _ _ hq2 HH.out.neg)
  have HS5 : Hid (∀ W, Below W5.heap.size W5 W → (Below W5.heap.size W5 W ∧ W.cell? ⟨w.heap.size, 4, none⟩ = some (.slice p.A q.pos.length p.c) ∧ W.cell? ⟨w.heap.size, 5, none⟩ = some (.slice p.B q.neg.length p.d))) := Lib.hid (fun W hb => by
    have h1 := (HB5.out.block _ (blk_lt HBK4.out)).trans HBK4.out
    have h2 := (hb.block _ (blk_lt h1)).trans h1
    exact ⟨hb, obj_cell h2 rfl, obj_cell h2 rfl⟩)
  have hp1 := places_len (SpanQ.right_of hq1)
  have hp2 := places_len (SpanQ.right_of hq2)
  have HWD : Hid (width q = 3 + (places q.pos).length + (places q.neg).length) := Lib.hid rfl
  obtain ⟨a, ha⟩ : ∃ a, a = (places q.pos).length := ⟨_, rfl⟩
  obtain ⟨b, hb⟩ : ∃ b, b = (places q.neg).length := ⟨_, rfl⟩
  rw [← ha] at HC1 HWD hp1
  rw [← hb] at HC2 HWD hp2
  have hs5 := HS5.out W5 (Below.refl _ _)
  have HB45 := Lib.hid hB45
  clear ha hb hq1 hq2 hB45 HCT
  go_region_held3 (fun W => Below W5.heap.size W5 W ∧ W.cell? ⟨w.heap.size, 4, none⟩ = some (.slice p.A q.pos.length p.c) ∧ W.cell? ⟨w.heap.size, 5, none⟩ = some (.slice p.B q.neg.length p.d))
    (first | (with_reducible exact HS5.out _ (below_drew (Below.refl _ _))) | (with_reducible exact HS5.out _ hb61) | (with_reducible exact HS5.out _ hb62) | assumption)
    (first
    | (go_at_call 99; (with_reducible show Calls _ _ #[Value.slice p.A q.pos.length p.c] _ _); refine (HC1.out _ (And.left (by assumption))).mono ?_; rintro e w61 ⟨rfl, hb61⟩; have hs61 := HS5.out _ hb61)
    | (go_at_call 99; refine (HC2.out _ (And.left (by assumption))).mono ?_; rintro e w62 ⟨rfl, hb62⟩; have hs62 := HS5.out _ hb62))
  have B6 := Lib.hid hb62
  have HG6 := Lib.hid ((hb62.block _ HSZ5.out).trans HG5.out)
  have hgl6 := blk_lt HG6.out
  obtain ⟨N, hN⟩ : ∃ N, N = 3 + a + b := ⟨_, rfl⟩
  have hN2 : (3 : Int) + (a : Int) + (b : Int) = (N : Int) := by omega
  have hN3 : N ≤ 9000 := by omega
  have HNN := Lib.hid (HWD.out.trans hN.symm)
  try rw [hN2]
  clear hs5 hs61 hs62 hb61 hb62 hN
  obtain ⟨g, hgg⟩ : ∃ g, g = w4.heap.size := ⟨_, rfl⟩
  rw [← hgg] at HG6 hgl6 ⊢
  have HGG := Lib.hid hgg
  clear hgg
  go_wp2_with (fail)
  go_loopw [36] (fun i wr => ∃ (k : Nat) (v : Value) (cols : List Nat), k ≤ N ∧ i = .int .i64 k ∧ Gk g (cellsN q r gw gt) (fun _ => xr0) v cols w62 wr ∧ cols.length = k) (fun i _ => N - (intOf i).toNat)
  case atStart => exact ⟨0, .slice none 0 0, [], by omega, rfl, Gk.start HG6.out, rfl⟩
  case round =>
    obtain ⟨k, v, cols, hk, rfl, hG, hcl⟩ := hrel
    have HGK := Lib.hid hG
    have HCL := Lib.hid hcl
    by_cases hlt : k < N
    · have hb0 := Below.refl wr.heap.size wr
      have hglr := blk_lt hG.obj
      have c9 := fun W (h : Below wr.heap.size wr W) => (obj_cell ((h.block g hglr).trans hG.obj) rfl : W.cell? ⟨g, 9, none⟩ = some v)
      have hbs : w62.heap.size ≤ wr.heap.size := hG.ch.size
      have HAP : Hid (∀ wc w3 : World, Below wr.heap.size wr wc → XrS wc wr.heap.size xr0 → ∀ v1, Rep.OwX rPtr 160 w3 w62.heap.size v1 (cols ++ [wr.heap.size]) → wc.grownBy w3 v.ownBlock → w3.cell? ⟨g, 9, none⟩ = some v ∧ w3.frozen? ⟨g, 9, none⟩ = false ∧ Gk g (cellsN q r gw gt) (fun _ => xr0) v1 (cols ++ [wr.heap.size]) w62 (w3.setCell ⟨g, 9, none⟩ v1)) := Lib.hid (by
        intro wc w3 h1 h2 v1 h3 h4
        have hobj := (h1.block g hglr).trans hG.obj
        have hne : v.ownBlock ≠ some g := fun he => by have := Rep.OwX.base_ hG.row g he; have := blk_lt HG6.out; omega
        have hobj3 := ((Ch.refl (fun b => v.ownBlock = some b) wc).grown h4 fun k hk => .inl hk).blk hobj hne
        exact ⟨obj_cell hobj3 rfl, obj_free hobj3, hG.push (blk_lt HG6.out) (cellsN_set _ _ _ _ _ _) h2 (Nat.le_refl _) h1 h3 h4⟩)
      have HBL := Lib.hid (fun wc (h : Below wr.heap.size wr wc) => Nat.le_trans hbs h.size)
      have HGL := Lib.hid (fun wc (h : Below wr.heap.size wr wc) => Nat.lt_of_lt_of_le hglr h.size)
      have hcl8 : (cols.length + 1) * 8 ≤ 140737488355328 := by omega
      clear hG hcl
      go_wp2_with (fail)
      go_region_law (first
        | (refine append_ptr_step (W := wc) w62.heap.size rfl (.tmp 42) (.tmp 44) 156 160 8 rfl Tryz.underlying156 infoPtr (by decide) v cols wr.heap.size (by simp [Act.eval]) (by simp [Act.eval]) (HGK.out.row.below hbc) (HBL.out _ hbc) hcl8 ?_; intro v1 w3 ho3 hg3; obtain ⟨c93, f93, hG3⟩ := HAP.out wc w3 hbc hxc v1 ho3 hg3; obtain ⟨x1, rfl, -, -⟩ := ho3.reads)
        | (go_simp; go_at_call 100; refine (XorB.new_calls _).mono ?_; rintro e wc ⟨rfl, hxd, hbd⟩; have hbc : Below wr.heap.size wr wc := below_then (below_drew (Below.refl _ _)) (Nat.le_refl _) hbd; have hxc : XrS wc wr.heap.size xr0 := hxd; have hgc := HGL.out wc hbc; clear hxd hbd))
      all_goals (
        have HG3 := Lib.hid hG3
        clear c93 f93 hG3 ho3 hg3 hxc hbc hgc c9 hb0
        go_wp2
        go_roundw
        case rel => exact ⟨k + 1, _, _, by omega, by go_num, HG3.out, by rw [List.length_append, HCL.out]; rfl⟩
        case measure => simp [intOf]; omega)
    · obtain rfl : k = N := by omega
      have HSZ4' := HSZ4.out
      have HSZ3' := HSZ3.out
      have hgt3 := HGT.out
      have hg4 := HGG.out
      have htl := T4.out.lt
      have hz2 := B2.out.size
      have hz0 := HZ0.out
      have b46 := below_then HB5.out HB5.out.size B6.out
      have b36 : Below w4.heap.size w4 w62 := b46
      have hAlt : ∀ ad, r.A = some ad → 0 < q.pos.length → w2.heap.size ≤ ad.block ∧ ad.block < w3.heap.size := fun ad hA hp => ⟨OA.out ad hA hp, HeadD.rd_lt R3.out.pos.rd ad hA hp⟩
      have hBlt : ∀ ad, r.B = some ad → 0 < q.neg.length → w2.heap.size ≤ ad.block ∧ ad.block < w3.heap.size := fun ad hA hp => ⟨OB.out ad hA hp, HeadD.rd_lt R3.out.neg.rd ad hA hp⟩
      have hno : ∀ b, w2.heap.size ≤ b → b < w3.heap.size → ¬ S2 b ∧ b ≠ g ∧ b ≠ gt := fun b h1 h2 => ⟨fun hs => by have := HOL2.out b hs; omega, by omega, by omega⟩
      have HDN := Lib.hid (Gk.done (w := w) HGK.out (blk_lt HG6.out) (by omega) H0.out (hcl.trans HNN.out.symm) (R4.out.below b46) (fun ad hA hp => Nat.le_trans (by omega) (hAlt ad hA hp).1) (fun ad hA hp => Nat.le_trans (by omega) (hBlt ad hA hp).1)
        (W4'.out.below b46) (fun k hk => Nat.le_trans hz0 (HS2.out k hk)) (T4.out.below b46) (by omega) (fun hs => by have := HOL2.out _ hs; omega) (by omega) (fun hs => by have := HOL2.out _ hs; omega)
        (fun ad hA hp => hno _ (hAlt ad hA hp).1 (hAlt ad hA hp).2) (fun ad hA hp => hno _ (hBlt ad hA hp).1 (hBlt ad hA hp).2))
      have HBB := Lib.hid ((HEND.out _ (below_then HB45.out HB45.out.size B6.out)).trans (hG.ch.below_of (Nat.le_trans (by omega) (HEND.out _ (below_then HB45.out HB45.out.size B6.out)).size) fun k hk => by omega))
      clear hG hcl HSZ4' HSZ3' hgt3 hg4 htl hz2 hz0 b46 b36 hAlt hBlt hno
      go_wp2
      go_ret2
      obtain ⟨S, hk1, hk2⟩ := HDN.out
      exact (HPO.out _ _).mpr ⟨HBB.out, .inr (.inr ⟨H0.out, HV.out, g, S, rfl, hk1, hk2⟩)⟩

end Go.Proofs.YtjfekjbmgckkcaaGreatDoor.FcG

/- fchunk's walks: what a chunk tells: its head, its last sample, its bytes. -/
namespace Go.Proofs.YtjfekjbmgckkcaaGreatDoor.FcH
open Go.RowKit Go.Proofs.YtjfekjbmgckkcaaGreatDoorW.PrintWords
open Go.Proofs.YtjfekjbmgckkcaaGreatDoor.Bits Go.Proofs.YtjfekjbmgckkcaaGreatDoor.Base Go.Proofs.YtjfekjbmgckkcaaGreatDoor.VarPure Go.Proofs.YtjfekjbmgckkcaaGreatDoor.VarbitA Go.Proofs.YtjfekjbmgckkcaaGreatDoor.VarKit Go.Proofs.YtjfekjbmgckkcaaGreatDoor.StreamPure Go.Proofs.YtjfekjbmgckkcaaGreatDoor.StreamA Go.Proofs.YtjfekjbmgckkcaaGreatDoor.TimesPure Go.Proofs.YtjfekjbmgckkcaaGreatDoor.TimesA Go.Proofs.YtjfekjbmgckkcaaGreatDoor.Ref12 Go.Proofs.YtjfekjbmgckkcaaGreatDoor.Ref13 Go.Proofs.YtjfekjbmgckkcaaGreatDoor.SpanPure Go.Proofs.YtjfekjbmgckkcaaGreatDoor.SpanBase Go.Proofs.YtjfekjbmgckkcaaGreatDoor.HeadA Go.Proofs.YtjfekjbmgckkcaaGreatDoor.HeadB Go.Proofs.YtjfekjbmgckkcaaGreatDoor.HeadPure Go.Proofs.YtjfekjbmgckkcaaGreatDoor.XorPure Go.Proofs.YtjfekjbmgckkcaaGreatDoor.XorB Go.Proofs.YtjfekjbmgckkcaaGreatDoor.FcPure Go.Proofs.YtjfekjbmgckkcaaGreatDoor.FcObj Go.Proofs.YtjfekjbmgckkcaaGreatDoor.FcA Go.Proofs.YtjfekjbmgckkcaaGreatDoor.FcB Go.Proofs.YtjfekjbmgckkcaaGreatDoor.FcD Go.Proofs.YtjfekjbmgckkcaaGreatDoor.FcE

set_option maxHeartbeats 800000 in
theorem head_calls (g : Nat) (S : Nat → Prop) (q : Hd) (l : List FS) (x : FkL) (w : World) (hF : Fk w g S q l x) :
    Calls Tryz.prog 104 #[.pointer (some ⟨g, 0, none⟩)] w fun e w' => ∃ r : Lc, e = .returned (.agg (hcs q r).toArray) ∧ HdIn w' q r ∧ Below w.heap.size w w' := by
  have hobj := hF.obj
  rw [kcs_eq] at hobj
  have c0 : w.cell? ⟨g, 0, none⟩ = some (.int .i64 q.vr) := obj_cell hobj rfl
  have c1 : w.cell? ⟨g, 1, none⟩ = some (.int .i64 q.hint) := obj_cell hobj rfl
  have c2 : w.cell? ⟨g, 2, none⟩ = some (.int .i64 q.schema) := obj_cell hobj rfl
  have c3 : w.cell? ⟨g, 3, none⟩ = some (.int .u64 q.zero) := obj_cell hobj rfl
  have c4 : w.cell? ⟨g, 4, none⟩ = some (.slice x.p.A q.pos.length x.p.c) := obj_cell hobj rfl
  have c5 : w.cell? ⟨g, 5, none⟩ = some (.slice x.p.B q.neg.length x.p.d) := obj_cell hobj rfl
  have hgl := blk_lt hobj
  obtain ⟨W0, hW0, hz0, hal⟩ : ∃ W0 : World, W0 = w.alloc (.cells #[.int .i64 0, .int .i64 0, .int .i64 0, .int .u64 0, .slice none 0 0, .slice none 0 0] 25) ∧ W0.heap[w.heap.size]? = some (.cells #[.int .i64 0, .int .i64 0, .int .i64 0, .int .u64 0, .slice none 0 0, .slice none 0 0] 25 (0, 0)) ∧ Below w.heap.size w W0 := ⟨_, rfl, blk_last w _, below_alloc (Below.refl _ _) _⟩
  have HO := Lib.hid (FcA.own_calls q x.p W0 (hF.hd.below hal))
  have HLT := Lib.hid (blk_lt hz0)
  have HZ0 := Lib.hid hz0
  have HAL := Lib.hid hal
  have HW0 := Lib.hid hW0
  clear hF hobj hz0 hal hW0
  go_enter Tryz.func104, Tryz.ntmps104
  go_wp2_with (fail)
  rw [← HW0.out]
  refine HO.out.mono ?_
  rintro e w1 ⟨r, rfl, h1, h2, h3, h4⟩
  have hz1 := (h4.block _ HLT.out).trans HZ0.out
  have z0 : w1.cell? ⟨w.heap.size, 0, none⟩ = some (.int .i64 0) := obj_cell hz1 rfl
  have z1 : w1.cell? ⟨w.heap.size, 1, none⟩ = some (.int .i64 0) := obj_cell hz1 rfl
  have z2 : w1.cell? ⟨w.heap.size, 2, none⟩ = some (.int .i64 0) := obj_cell hz1 rfl
  have z3 : w1.cell? ⟨w.heap.size, 3, none⟩ = some (.int .u64 0) := obj_cell hz1 rfl
  have z4 : w1.cell? ⟨w.heap.size, 4, none⟩ = some (.slice none 0 0) := obj_cell hz1 rfl
  have z5 : w1.cell? ⟨w.heap.size, 5, none⟩ = some (.slice none 0 0) := obj_cell hz1 rfl
  have f0 : w1.frozen? ⟨w.heap.size, 0, none⟩ = false := obj_free hz1
  have f1 : w1.frozen? ⟨w.heap.size, 1, none⟩ = false := obj_free hz1
  have f2 : w1.frozen? ⟨w.heap.size, 2, none⟩ = false := obj_free hz1
  have f3 : w1.frozen? ⟨w.heap.size, 3, none⟩ = false := obj_free hz1
  have f4 : w1.frozen? ⟨w.heap.size, 4, none⟩ = false := obj_free hz1
  have f5 : w1.frozen? ⟨w.heap.size, 5, none⟩ = false := obj_free hz1
  have HEND : Hid (HdIn (HeadL.six w1 w.heap.size (.int .i64 q.vr) (.int .i64 q.hint) (.int .i64 q.schema) (.int .u64 q.zero) (.slice r.A q.pos.length r.c) (.slice r.B q.neg.length r.d)) q r ∧ Below w.heap.size w (HeadL.six w1 w.heap.size (.int .i64 q.vr) (.int .i64 q.hint) (.int .i64 q.schema) (.int .u64 q.zero) (.slice r.A q.pos.length r.c) (.slice r.B q.neg.length r.d))) := Lib.hid (by
    have hc := HeadL.six_ch w1 w.heap.size (.int .i64 q.vr) (.int .i64 q.hint) (.int .i64 q.schema) (.int .u64 q.zero) (.slice r.A q.pos.length r.c) (.slice r.B q.neg.length r.d)
    have hlt := HLT.out
    have hb := below_then HAL.out HAL.out.size h4
    exact ⟨⟨Spl.ch h1.pos hc h2 fun k hk he => by omega, Spl.ch h1.neg hc h3 fun k hk he => by omega, h1.z⟩, hb.trans (hc.below_of hb.size fun k hk => by omega)⟩)
  clear h1 h2 h3 h4 hz1 HO
  dsimp only [hcs]
  go_wp2
  refine bodyPost_ret (v := .agg #[.int .i64 q.vr, .int .i64 q.hint, .int .i64 q.schema, .int .u64 q.zero, .slice r.A q.pos.length r.c, .slice r.B q.neg.length r.d]) (by rw [results_cell1 rfl]; go_simp) rfl ?_
  exact ⟨r, rfl, HEND.out.1, HEND.out.2⟩

/-- what Last hands back. -/
def LastPost (q : Hd) (l : List FS) (w : World) (e : Ending) (w' : World) : Prop :=
  ∃ r : Lh, e = .returned (.tuple #[.agg (scs (lastS q l) r).toArray, .bool (decide (0 < l.length))]) ∧ FhIn w' (lastS q l).h r ∧ OnH (fun k => w.heap.size ≤ k) (lastS q l).h r ∧ Below w.heap.size w w'
theorem lastS_pos (q : Hd) (l : List FS) (h : l ≠ []) : { (lastS q l).h with pos := q.pos, neg := q.neg } = (lastS q l).h := by
  unfold lastS
  cases hl : l.getLast? with
  | none => exact absurd (List.getLast?_eq_none_iff.1 hl) h
  | some s => rfl
theorem fh_drop {w W : World} {h : FH} {r : Lh} (x : FhIn w h r) (hb : Below w.heap.size w W) : FhIn W h r := x.below hb
set_option maxRecDepth 100000 in
set_option maxHeartbeats 3200000 in
theorem last_calls (g : Nat) (S : Nat → Prop) (q : Hd) (l : List FS) (x : FkL) (w : World) (hF : Fk w g S q l x) :
    Calls Tryz.prog 95 #[.pointer (some ⟨g, 0, none⟩)] w (LastPost q l w) := by
  have HPO : Hid (∀ e w', LastPost q l w e w' = ∃ r : Lh, e = .returned (.tuple #[.agg (scs (lastS q l) r).toArray, .bool (decide (0 < l.length))]) ∧ FhIn w' (lastS q l).h r ∧ OnH (fun k => w.heap.size ≤ k) (lastS q l).h r ∧ Below w.heap.size w w') := Lib.hid (fun _ _ => rfl)
  have hobj := hF.obj
  rw [kcs_eq] at hobj
  have hgl := blk_lt hobj
  by_cases hl : l = []
  · subst hl
    have c7 : w.cell? ⟨g, 7, none⟩ = some (.int .i64 0) := obj_cell hobj rfl
    have HLA := Lib.hid (FcG.la_nil (w.alloc (.cells #[.int .i64 0, .int .i64 0, .int .u64 0, .int .u64 0, .int .u64 0, .int .u64 0, .slice none 0 0, .slice none 0 0, .slice none 0 0, .slice none 0 0] 74)))
    rw [lastS_nil] at HPO
    clear hF hobj
    go_enter Tryz.func95, Tryz.ntmps95
    go_wp2
    refine bodyPost_ret (v := .tuple #[.agg #[.int .i64 0, .int .i64 0, .int .u64 0, .int .u64 0, .int .u64 0, .int .u64 0, .slice none 0 0, .slice none 0 0, .slice none 0 0, .slice none 0 0], .bool false]) (by rw [results_cell_tmp rfl]; go_simp) rfl ?_
    exact (HPO.out _ _).mpr ⟨⟨none, 0, none, 0, none, 0, none, 0⟩, rfl, HLA.out, ⟨fun ad hA => absurd hA (by simp), fun ad hA => absurd hA (by simp), fun ad hA => absurd hA (by simp), fun ad hA => absurd hA (by simp)⟩, below_alloc (Below.refl _ _) _⟩
  have HLS := Lib.hid (lastS_pos q l hl)
  have hn : 0 < l.length := List.length_pos_iff.2 hl
  have hN := hF.la
  have hp := hF.hd.pos
  have hq := hF.hd.neg
  obtain ⟨s, hs⟩ : ∃ s, s = lastS q l := ⟨_, rfl⟩
  rw [← hs] at hobj hN HPO HLS
  obtain ⟨n, hnn⟩ : ∃ n, n = l.length := ⟨_, rfl⟩
  rw [← hnn] at hobj hn HPO
  have d0 : ((n : Int) == 0) = false := by simp; omega
  have HN0 := Lib.hid (show decide (0 < n) = true from decide_eq_true hn)
  obtain ⟨W0, hW0, hz0, hal⟩ : ∃ W0 : World, W0 = w.alloc (.cells #[.int .i64 0, .int .i64 0, .int .u64 0, .int .u64 0, .int .u64 0, .int .u64 0, .slice none 0 0, .slice none 0 0, .slice none 0 0, .slice none 0 0] 74) ∧ W0.heap[w.heap.size]? = some (.cells #[.int .i64 0, .int .i64 0, .int .u64 0, .int .u64 0, .int .u64 0, .int .u64 0, .slice none 0 0, .slice none 0 0, .slice none 0 0, .slice none 0 0] 74 (0, 0)) ∧ Below w.heap.size w W0 := ⟨_, rfl, blk_last w _, below_alloc (Below.refl _ _) _⟩
  have hg0 := (hal.block g hgl).trans hobj
  have HON := Lib.hid (on_calls s x.r q.pos q.neg x.p.A x.p.B x.p.c x.p.d W0.drew (hN.below (below_drew hal)) (hp.below (below_drew hal)) (hq.below (below_drew hal)))
  rw [HLS.out] at HON
  have HON : Hid (Calls Tryz.prog 113 #[.agg #[.int .i64 s.t, .int .i64 s.h.schema, .int .u64 s.h.zero, .int .u64 s.h.zc, .int .u64 s.h.cnt, .int .u64 s.h.sum, .slice x.r.A s.h.pos.length x.r.c, .slice x.r.B s.h.neg.length x.r.d, .slice x.r.C s.h.pc.length x.r.cc, .slice x.r.D s.h.nc.length x.r.dd], .slice x.p.A q.pos.length x.p.c, .slice x.p.B q.neg.length x.p.d] W0.drew fun e w' => ∃ r : Lh, e = .returned (.agg #[.int .i64 s.t, .int .i64 s.h.schema, .int .u64 s.h.zero, .int .u64 s.h.zc, .int .u64 s.h.cnt, .int .u64 s.h.sum, .slice r.A s.h.pos.length r.c, .slice r.B s.h.neg.length r.d, .slice r.C s.h.pc.length r.cc, .slice r.D s.h.nc.length r.dd]) ∧ FhIn w' s.h r ∧ OnH (fun k => W0.heap.size ≤ k) s.h r ∧ Below W0.heap.size W0 w') := Lib.hid (by
    refine HON.out.mono ?_
    rintro e w' ⟨r, he, h1, h2, h3⟩
    exact ⟨r, he, h1, h2, below_then (below_drew (Below.refl _ _)) (Nat.le_refl _) h3⟩)
  have e4 : W0.cell? ⟨g, 4, none⟩ = some (.slice x.p.A q.pos.length x.p.c) := obj_cell hg0 rfl
  have e5 : W0.cell? ⟨g, 5, none⟩ = some (.slice x.p.B q.neg.length x.p.d) := obj_cell hg0 rfl
  have e7 : w.cell? ⟨g, 7, none⟩ = some (.int .i64 n) := obj_cell hobj rfl
  have e10 : W0.cell? ⟨g, 10, none⟩ = some (.int .i64 s.t) := obj_cell hg0 rfl
  have e11 : W0.cell? ⟨g, 11, none⟩ = some (.int .i64 s.h.schema) := obj_cell hg0 rfl
  have e12 : W0.cell? ⟨g, 12, none⟩ = some (.int .u64 s.h.zero) := obj_cell hg0 rfl
  have e13 : W0.cell? ⟨g, 13, none⟩ = some (.int .u64 s.h.zc) := obj_cell hg0 rfl
  have e14 : W0.cell? ⟨g, 14, none⟩ = some (.int .u64 s.h.cnt) := obj_cell hg0 rfl
  have e15 : W0.cell? ⟨g, 15, none⟩ = some (.int .u64 s.h.sum) := obj_cell hg0 rfl
  have e16 : W0.cell? ⟨g, 16, none⟩ = some (.slice x.r.A s.h.pos.length x.r.c) := obj_cell hg0 rfl
  have e17 : W0.cell? ⟨g, 17, none⟩ = some (.slice x.r.B s.h.neg.length x.r.d) := obj_cell hg0 rfl
  have e18 : W0.cell? ⟨g, 18, none⟩ = some (.slice x.r.C s.h.pc.length x.r.cc) := obj_cell hg0 rfl
  have e19 : W0.cell? ⟨g, 19, none⟩ = some (.slice x.r.D s.h.nc.length x.r.dd) := obj_cell hg0 rfl
  have HZL := Lib.hid hal.size
  have HW0 := Lib.hid hW0
  have HAL := Lib.hid hal
  have HG0 := Lib.hid hg0
  have HGL := Lib.hid (blk_lt hg0)
  have HZLT := Lib.hid (blk_lt hz0)
  have hgz : g ≠ w.heap.size := by omega
  have HQT : Hid (∀ (W : World) (v0 v1 v2 v3 v4 v5 v6 v7 v8 v9 : Value), W.heap[g]? = W0.heap[g]? → ∀ W' : World, W' = ten W w.heap.size v0 v1 v2 v3 v4 v5 v6 v7 v8 v9 → (W'.cell? ⟨g, 4, none⟩ = some (.slice x.p.A q.pos.length x.p.c) ∧ W'.cell? ⟨g, 5, none⟩ = some (.slice x.p.B q.neg.length x.p.d) ∧ W'.cell? ⟨g, 10, none⟩ = some (.int .i64 s.t) ∧ W'.cell? ⟨g, 11, none⟩ = some (.int .i64 s.h.schema) ∧ W'.cell? ⟨g, 12, none⟩ = some (.int .u64 s.h.zero) ∧ W'.cell? ⟨g, 13, none⟩ = some (.int .u64 s.h.zc) ∧ W'.cell? ⟨g, 14, none⟩ = some (.int .u64 s.h.cnt) ∧ W'.cell? ⟨g, 15, none⟩ = some (.int .u64 s.h.sum) ∧ W'.cell? ⟨g, 16, none⟩ = some (.slice x.r.A s.h.pos.length x.r.c) ∧ W'.cell? ⟨g, 17, none⟩ = some (.slice x.r.B s.h.neg.length x.r.d) ∧ W'.cell? ⟨g, 18, none⟩ = some (.slice x.r.C s.h.pc.length x.r.cc) ∧ W'.cell? ⟨g, 19, none⟩ = some (.slice x.r.D s.h.nc.length x.r.dd))) := Lib.hid (fun W v0 v1 v2 v3 v4 v5 v6 v7 v8 v9 h W' hW' => by
    have hg := (ten_ch W w.heap.size v0 v1 v2 v3 v4 v5 v6 v7 v8 v9).blk (h.trans HG0.out) hgz
    rw [← hW'] at hg
    exact ⟨obj_cell hg rfl, obj_cell hg rfl, obj_cell hg rfl, obj_cell hg rfl, obj_cell hg rfl, obj_cell hg rfl, obj_cell hg rfl, obj_cell hg rfl, obj_cell hg rfl, obj_cell hg rfl, obj_cell hg rfl, obj_cell hg rfl⟩)
  have HZ0 := Lib.hid hz0
  have hglz : w.heap.size ≠ g := by omega
  clear hF hobj hN hp hq hs hnn hn hW0 hal hl hg0 hz0 HLS
  go_enter Tryz.func95, Tryz.ntmps95
  go_wp2_with (fail)
  rw [← HW0.out]
  have hq0 : (fun W : World => W.cell? ⟨g, 4, none⟩ = some (.slice x.p.A q.pos.length x.p.c) ∧ W.cell? ⟨g, 5, none⟩ = some (.slice x.p.B q.neg.length x.p.d) ∧ W.cell? ⟨g, 10, none⟩ = some (.int .i64 s.t) ∧ W.cell? ⟨g, 11, none⟩ = some (.int .i64 s.h.schema) ∧ W.cell? ⟨g, 12, none⟩ = some (.int .u64 s.h.zero) ∧ W.cell? ⟨g, 13, none⟩ = some (.int .u64 s.h.zc) ∧ W.cell? ⟨g, 14, none⟩ = some (.int .u64 s.h.cnt) ∧ W.cell? ⟨g, 15, none⟩ = some (.int .u64 s.h.sum) ∧ W.cell? ⟨g, 16, none⟩ = some (.slice x.r.A s.h.pos.length x.r.c) ∧ W.cell? ⟨g, 17, none⟩ = some (.slice x.r.B s.h.neg.length x.r.d) ∧ W.cell? ⟨g, 18, none⟩ = some (.slice x.r.C s.h.pc.length x.r.cc) ∧ W.cell? ⟨g, 19, none⟩ = some (.slice x.r.D s.h.nc.length x.r.dd)) W0.drew := ⟨e4, e5, e10, e11, e12, e13, e14, e15, e16, e17, e18, e19⟩
  have HQ : Hid (∀ W : World, W.heap[g]? = W0.heap[g]? → (W.cell? ⟨g, 4, none⟩ = some (.slice x.p.A q.pos.length x.p.c) ∧ W.cell? ⟨g, 5, none⟩ = some (.slice x.p.B q.neg.length x.p.d) ∧ W.cell? ⟨g, 10, none⟩ = some (.int .i64 s.t) ∧ W.cell? ⟨g, 11, none⟩ = some (.int .i64 s.h.schema) ∧ W.cell? ⟨g, 12, none⟩ = some (.int .u64 s.h.zero) ∧ W.cell? ⟨g, 13, none⟩ = some (.int .u64 s.h.zc) ∧ W.cell? ⟨g, 14, none⟩ = some (.int .u64 s.h.cnt) ∧ W.cell? ⟨g, 15, none⟩ = some (.int .u64 s.h.sum) ∧ W.cell? ⟨g, 16, none⟩ = some (.slice x.r.A s.h.pos.length x.r.c) ∧ W.cell? ⟨g, 17, none⟩ = some (.slice x.r.B s.h.neg.length x.r.d) ∧ W.cell? ⟨g, 18, none⟩ = some (.slice x.r.C s.h.pc.length x.r.cc) ∧ W.cell? ⟨g, 19, none⟩ = some (.slice x.r.D s.h.nc.length x.r.dd))) := Lib.hid (fun W h => by
    have hg := h.trans HG0.out
    exact ⟨obj_cell hg rfl, obj_cell hg rfl, obj_cell hg rfl, obj_cell hg rfl, obj_cell hg rfl, obj_cell hg rfl, obj_cell hg rfl, obj_cell hg rfl, obj_cell hg rfl, obj_cell hg rfl, obj_cell hg rfl, obj_cell hg rfl⟩)
  go_region_held3 (fun W => W.cell? ⟨g, 4, none⟩ = some (.slice x.p.A q.pos.length x.p.c) ∧ W.cell? ⟨g, 5, none⟩ = some (.slice x.p.B q.neg.length x.p.d) ∧ W.cell? ⟨g, 10, none⟩ = some (.int .i64 s.t) ∧ W.cell? ⟨g, 11, none⟩ = some (.int .i64 s.h.schema) ∧ W.cell? ⟨g, 12, none⟩ = some (.int .u64 s.h.zero) ∧ W.cell? ⟨g, 13, none⟩ = some (.int .u64 s.h.zc) ∧ W.cell? ⟨g, 14, none⟩ = some (.int .u64 s.h.cnt) ∧ W.cell? ⟨g, 15, none⟩ = some (.int .u64 s.h.sum) ∧ W.cell? ⟨g, 16, none⟩ = some (.slice x.r.A s.h.pos.length x.r.c) ∧ W.cell? ⟨g, 17, none⟩ = some (.slice x.r.B s.h.neg.length x.r.d) ∧ W.cell? ⟨g, 18, none⟩ = some (.slice x.r.C s.h.pc.length x.r.cc) ∧ W.cell? ⟨g, 19, none⟩ = some (.slice x.r.D s.h.nc.length x.r.dd))
    (first | (with_reducible exact hq0) | (with_reducible exact hq8) | (with_reducible exact HQT.out _ _ _ _ _ _ _ _ _ _ _ hg8 _ rfl))
    (first
    | (go_at_call 113; refine HON.out.mono ?_; rintro e w8 ⟨r, rfl, hr8, hor8, hb8⟩; have hg8 := hb8.block g HGL.out; have hz8 := (hb8.block _ HZLT.out).trans HZ0.out; have hq8 := HQ.out w8 hg8; have z0 := obj_cell (i := 0) hz8 rfl; have f0 := obj_free (i := 0) hz8; have z1 := obj_cell (i := 1) hz8 rfl; have f1 := obj_free (i := 1) hz8; have z2 := obj_cell (i := 2) hz8 rfl; have f2 := obj_free (i := 2) hz8; have z3 := obj_cell (i := 3) hz8 rfl; have f3 := obj_free (i := 3) hz8; have z4 := obj_cell (i := 4) hz8 rfl; have f4 := obj_free (i := 4) hz8; have z5 := obj_cell (i := 5) hz8 rfl; have f5 := obj_free (i := 5) hz8; have z6 := obj_cell (i := 6) hz8 rfl; have f6 := obj_free (i := 6) hz8; have z7 := obj_cell (i := 7) hz8 rfl; have f7 := obj_free (i := 7) hz8; have z8 := obj_cell (i := 8) hz8 rfl; have f8 := obj_free (i := 8) hz8; have z9 := obj_cell (i := 9) hz8 rfl; have f9 := obj_free (i := 9) hz8))
  have HEND : Hid (FhIn (ten w8 w.heap.size (.int .i64 s.t) (.int .i64 s.h.schema) (.int .u64 s.h.zero) (.int .u64 s.h.zc) (.int .u64 s.h.cnt) (.int .u64 s.h.sum) (.slice r.A s.h.pos.length r.c) (.slice r.B s.h.neg.length r.d) (.slice r.C s.h.pc.length r.cc) (.slice r.D s.h.nc.length r.dd)) s.h r ∧ OnH (fun k => w.heap.size ≤ k) s.h r ∧ Below w.heap.size w (ten w8 w.heap.size (.int .i64 s.t) (.int .i64 s.h.schema) (.int .u64 s.h.zero) (.int .u64 s.h.zc) (.int .u64 s.h.cnt) (.int .u64 s.h.sum) (.slice r.A s.h.pos.length r.c) (.slice r.B s.h.neg.length r.d) (.slice r.C s.h.pc.length r.cc) (.slice r.D s.h.nc.length r.dd))) := Lib.hid (by
    have hc := ten_ch w8 w.heap.size (.int .i64 s.t) (.int .i64 s.h.schema) (.int .u64 s.h.zero) (.int .u64 s.h.zc) (.int .u64 s.h.cnt) (.int .u64 s.h.sum) (.slice r.A s.h.pos.length r.c) (.slice r.B s.h.neg.length r.d) (.slice r.C s.h.pc.length r.cc) (.slice r.D s.h.nc.length r.dd)
    have hz := HZLT.out
    have hb := below_then HAL.out HAL.out.size hb8
    exact ⟨hr8.ch hc hor8 fun k hk he => by omega, hor8.mono fun k hk => by have := HZL.out; omega, hb.trans (hc.below_of hb.size fun k hk => by omega)⟩)
  clear hr8 hor8 hb8 hg8 hz8 hq8
  go_wp2
  refine bodyPost_ret (v := .tuple #[.agg #[.int .i64 s.t, .int .i64 s.h.schema, .int .u64 s.h.zero, .int .u64 s.h.zc, .int .u64 s.h.cnt, .int .u64 s.h.sum, .slice r.A s.h.pos.length r.c, .slice r.B s.h.neg.length r.d, .slice r.C s.h.pc.length r.cc, .slice r.D s.h.nc.length r.dd], .bool true]) (by rw [results_cell_tmp rfl]; go_simp) rfl ?_
  exact (HPO.out _ _).mpr ⟨r, by rw [HN0.out]; rfl, HEND.out.1, HEND.out.2.1, HEND.out.2.2⟩

end Go.Proofs.YtjfekjbmgckkcaaGreatDoor.FcH

/- fchunk's walks: a chunk's bytes. -/
namespace Go.Proofs.YtjfekjbmgckkcaaGreatDoor.FcI
open Go.RowKit Go.Proofs.YtjfekjbmgckkcaaGreatDoorW.PrintWords
open Go.Proofs.YtjfekjbmgckkcaaGreatDoor.Bits Go.Proofs.YtjfekjbmgckkcaaGreatDoor.Base Go.Proofs.YtjfekjbmgckkcaaGreatDoor.VarPure Go.Proofs.YtjfekjbmgckkcaaGreatDoor.VarbitA Go.Proofs.YtjfekjbmgckkcaaGreatDoor.VarKit Go.Proofs.YtjfekjbmgckkcaaGreatDoor.StreamPure Go.Proofs.YtjfekjbmgckkcaaGreatDoor.StreamA Go.Proofs.YtjfekjbmgckkcaaGreatDoor.TimesPure Go.Proofs.YtjfekjbmgckkcaaGreatDoor.TimesA Go.Proofs.YtjfekjbmgckkcaaGreatDoor.Ref12 Go.Proofs.YtjfekjbmgckkcaaGreatDoor.Ref13 Go.Proofs.YtjfekjbmgckkcaaGreatDoor.SpanPure Go.Proofs.YtjfekjbmgckkcaaGreatDoor.SpanBase Go.Proofs.YtjfekjbmgckkcaaGreatDoor.HeadA Go.Proofs.YtjfekjbmgckkcaaGreatDoor.HeadB Go.Proofs.YtjfekjbmgckkcaaGreatDoor.HeadPure Go.Proofs.YtjfekjbmgckkcaaGreatDoor.XorPure Go.Proofs.YtjfekjbmgckkcaaGreatDoor.XorB Go.Proofs.YtjfekjbmgckkcaaGreatDoor.FcPure Go.Proofs.YtjfekjbmgckkcaaGreatDoor.FcObj Go.Proofs.YtjfekjbmgckkcaaGreatDoor.FcA Go.Proofs.YtjfekjbmgckkcaaGreatDoor.FcB Go.Proofs.YtjfekjbmgckkcaaGreatDoor.FcD Go.Proofs.YtjfekjbmgckkcaaGreatDoor.FcE

theorem enc_pos (q : Hd) : 0 < (chunkB q []).length := by
  unfold chunkB encH
  simp only [List.length_append, nb_length]
  omega
theorem chunk_pos (q : Hd) (l : List FS) : 0 < (chunkB q l).length := by
  have := enc_pos q
  unfold chunkB at this ⊢
  rw [List.length_append] at this ⊢
  rw [bitsB_nil] at this
  simp at this
  omega
/-- all bits of a chunk: how many samples, head, samples. -/
def allBits (q : Hd) (l : List FS) : List Bool := nb l.length 16 ++ chunkB q l
theorem own_news {e : Nat} {w : World} {base : Nat} {v : Value} {l : List UInt8} (h : OwB e w base v l) (hp : 0 < l.length) : ∃ ad c, v = .slice (some ad) l.length c ∧ ∀ j u, (nums .u8 (ints l))[j]? = some u → w.cell? (ad.add j) = some u := by
  obtain ⟨A, c, rfl, -, hr⟩ := h.reads
  obtain ⟨ad, rfl⟩ := RdI.some_ hr (by rw [ints_length]; exact hp)
  refine ⟨ad, c, rfl, fun j u hj => ?_⟩
  obtain ⟨hj1, hj2⟩ := List.getElem?_eq_some_iff.1 hj
  rw [nums_length] at hj1
  rw [← hj2, hr.at_some j hj1]
  simp [nums]
theorem ints_one (l : List UInt8) : ∀ u ∈ nums .u8 (ints l), u.oneCell' = true := by
  intro u hu
  simp only [nums, List.mem_map] at hu
  obtain ⟨y, _, rfl⟩ := hu
  rfl
set_option maxRecDepth 100000 in
set_option maxHeartbeats 3200000 in
theorem bytes_calls (g : Nat) (S : Nat → Prop) (q : Hd) (l : List FS) (x : FkL) (w : World) (hF : Fk w g S q l x) (hm : (chunkB q l).length ≤ 1000000000) (hl : l.length ≤ 60000) :
    Calls Tryz.prog 51 #[.pointer (some ⟨g, 0, none⟩)] w fun e w' => ∃ v, e = .returned v ∧ OwB 5 w' w.heap.size v (pack (allBits q l)) ∧ Below w.heap.size w w' := by
  have hobj := hF.obj
  rw [kcs_eq] at hobj
  have hgl := blk_lt hobj
  have HNW := Lib.hid (newWriter_calls none 0 0 [] w (RdI.nil .u8 _ _) (by decide) (by decide) (fun _ => rfl) (by decide))
  rw [show (bts []).take 0 = [] from rfl] at HNW
  have HWR := Lib.hid (fun W (hb : Below w.heap.size w W) => StreamA.bytes_calls x.gw x.Sw _ W (hF.wr.below hb) (by unfold chunkB at hm; omega))
  have HOB := Lib.hid hobj
  have HPK := Lib.hid (show pack (allBits q l) = pack (nb l.length 16) ++ pack (chunkB q l) from pack_append8 _ _ (by rw [nb_length]))
  rw [show encH q ++ bitsB l = chunkB q l from rfl] at HWR
  have hpos := chunk_pos q l
  have hpl := pack_length (chunkB q l)
  have hpn := pack_length (nb l.length 16)
  rw [nb_length] at hpn
  obtain ⟨n, hn⟩ : ∃ n, n = l.length := ⟨_, rfl⟩
  rw [← hn] at hl hpn HPK
  have HN := Lib.hid hn
  have HG := Lib.hid hgl
  clear hF hobj hn
  go_enter Tryz.func51, Tryz.ntmps51
  go_wp2_with (fail)
  refine HNW.out.mono ?_
  rintro e w1 ⟨ga, Sa, rfl, hwa, hSa, hb1⟩
  have hg1 := (hb1.block g HG.out).trans HOB.out
  have c7 : w1.cell? ⟨g, 7, none⟩ = some (.int .i64 n) := by rw [HN.out]; exact obj_cell hg1 rfl
  have HPU : Hid (Calls Tryz.prog 72 #[.pointer (some ⟨ga, 0, none⟩), .int .u64 n, .int .i64 16] w1 fun e w' => e = .returned (.tuple #[]) ∧ Upd (fun w S => Wr w ga S ([] ++ nb n 16)) Sa w1 w') := Lib.hid (StreamBit.put_calls ga Sa [] n 16 w1 hwa (by decide) (by decide) (by omega))
  have B1 := Lib.hid hb1
  have HSA := Lib.hid hSa
  clear hwa hSa hb1 hg1 HNW
  go_wp2_with (fail)
  refine HPU.out.mono ?_
  rintro e w2 ⟨rfl, S2, hw2, hs2, hc2⟩
  rw [List.nil_append] at hw2
  have B2 := Lib.hid (ch_new B1.out B1.out.size HSA.out hc2)
  have hg2 := (B2.out.block g HG.out).trans HOB.out
  have hgl2 := blk_lt hg2
  have HBA := Lib.hid (StreamA.bytes_calls ga S2 _ w2.drew hw2 (by rw [nb_length]; decide))
  have c6 := fun W (h : Below w2.heap.size w2 W) => (obj_cell ((h.block g hgl2).trans hg2) rfl : W.cell? ⟨g, 6, none⟩ = some (.pointer (some ⟨x.gw, 0, none⟩)))
  have hb0 := Below.refl w2.heap.size w2
  have HPS := Lib.hid hpos
  have HLN := Lib.hid (show (pack (chunkB q l)).length = ((chunkB q l).length + 7) / 8 from hpl)
  clear hw2 hs2 hc2 HPU hpos hpl c7
  go_wp2_with (fail)
  obtain ⟨i0, hi, hz0, hz1, hz2⟩ := info_parts StreamA.info
  have hmx : (pack (nb n 16)).length + (pack (chunkB q l)).length ≤ 1000000000 := by rw [hpn, HLN.out]; omega
  have hpo : 0 < (pack (chunkB q l)).length := by rw [HLN.out]; have := HPS.out; omega
  go_region_law (first
    | (refine step_append_lies (w := w4) rfl (.tmp 17) (.tmp 22) 51 rfl w.heap.size 5 i0 (.int .u8 0) 1 1 Tryz.underlying51 hi hz0 hz1 hz2 rfl (by decide) v1 (pack (nb n 16)).length (nums .u8 (ints (pack (nb n 16)))) (by simp [Act.eval]) ho14 ad2 (pack (chunkB q l)).length c2 (nums .u8 (ints (pack (chunkB q l)))) (by simp [Act.eval]) (by rw [nums_length, ints_length, Nat.mul_one]) hnews2 (ints_one _) hpo (by unfold maxLen; omega) (by omega) hbs4 w4.heap.size rfl ?_; intro gn cap w5 ho5 hg5 hat5 hlt5)
    | (go_simp; go_at_call 26; (with_reducible show Calls _ _ #[Value.pointer (some ⟨ga, 0, none⟩)] _ _); refine HBA.out.mono ?_; rintro e w3 ⟨v1, rfl, ho1, hb3d⟩; have hb3 : Below w2.heap.size w2 w3 := below_then (below_drew (Below.refl _ _)) (Nat.le_refl _) hb3d; have hb34 := below_then B2.out B2.out.size hb3)
    | (go_simp; go_at_call 26; refine (HWR.out _ ?_).mono ?_; (first | exact hb34); rintro e w4 ⟨v2, rfl, ho2, hb4⟩; obtain ⟨ad2, c2, rfl, hnews2⟩ := own_news ho2 hpo; have ho14 : w4.ownsRow w.heap.size 5 1 v1 (pack (nb n 16)).length (nums .u8 (ints (pack (nb n 16)))) := (by have h := OwI.lower (OwI.below ho1 hb4) (show w.heap.size ≤ w2.drew.heap.size from B2.out.size); unfold OwI at h; rw [ints_length] at h; exact h); have hb44 := below_then hb34 hb34.size hb4; have hbs4 := hb44.size))
  all_goals (
    have HRES : Hid (OwB 5 w5 w.heap.size (.slice (some ⟨gn, 0, none⟩) (2 + (pack (chunkB q l)).length) cap) (pack (allBits q l))) := Lib.hid (by
      rw [hpn] at ho5
      rw [HPK.out]
      unfold OwB OwI
      rw [ints_append, List.length_append, ints_length, ints_length, hpn]
      simpa [nums] using ho5)
    have HBB := Lib.hid (hb44.grown hg5 hbs4 fun k hk => (World.ownsRow.lt ho14 k hk).1)
    clear ho5 hg5 hat5 hlt5 ho14 ho1 ho2 hb3 hb3d hb34 hb4 hb44 hbs4 hnews2
    go_wp2
    go_ret
    exact ⟨_, rfl, HRES.out, HBB.out⟩)
end Go.Proofs.YtjfekjbmgckkcaaGreatDoor.FcI

/- law 18: awake. -/
namespace Go.Proofs.YtjfekjbmgckkcaaGreatDoor.Law18C
open Go.RowKit Go.Proofs.YtjfekjbmgckkcaaGreatDoorW.PrintWords
open Go.Proofs.YtjfekjbmgckkcaaGreatDoor.Bits Go.Proofs.YtjfekjbmgckkcaaGreatDoor.Base Go.Proofs.YtjfekjbmgckkcaaGreatDoor.VarPure Go.Proofs.YtjfekjbmgckkcaaGreatDoor.VarbitA Go.Proofs.YtjfekjbmgckkcaaGreatDoor.VarKit Go.Proofs.YtjfekjbmgckkcaaGreatDoor.StreamA Go.Proofs.YtjfekjbmgckkcaaGreatDoor.TimesPure Go.Proofs.YtjfekjbmgckkcaaGreatDoor.Ref13 Go.Proofs.YtjfekjbmgckkcaaGreatDoor.SpanPure Go.Proofs.YtjfekjbmgckkcaaGreatDoor.SpanBase Go.Proofs.YtjfekjbmgckkcaaGreatDoor.FailAs Go.Proofs.YtjfekjbmgckkcaaGreatDoor.FailB Go.Proofs.YtjfekjbmgckkcaaGreatDoor.FailC Go.Proofs.YtjfekjbmgckkcaaGreatDoor.HeadA Go.Proofs.YtjfekjbmgckkcaaGreatDoor.HeadB Go.Proofs.YtjfekjbmgckkcaaGreatDoor.HeadE Go.Proofs.YtjfekjbmgckkcaaGreatDoor.HeadPure Go.Proofs.YtjfekjbmgckkcaaGreatDoor.XorPure Go.Proofs.YtjfekjbmgckkcaaGreatDoor.XorA Go.Proofs.YtjfekjbmgckkcaaGreatDoor.FcPure Go.Proofs.YtjfekjbmgckkcaaGreatDoor.FcObj Go.Proofs.YtjfekjbmgckkcaaGreatDoor.FcD Go.Proofs.YtjfekjbmgckkcaaGreatDoor.FcF Go.Proofs.YtjfekjbmgckkcaaGreatDoor.FcG Go.Proofs.YtjfekjbmgckkcaaGreatDoor.FcH

def q1 : Hd := ⟨1, 0, 0, 0, [], []⟩
def q0 : Hd := ⟨0, 0, 0, 0, [], []⟩
def s0 : FS := ⟨0, ⟨0, 0, 0, 0, 0, [], [], [], []⟩⟩
def s4 : FS := ⟨4, ⟨0, 0, 0, 0, 0, [], [], [], []⟩⟩
def lc0 : Lc := ⟨none, 0, none, 0⟩
def lh0 : Lh := ⟨none, 0, none, 0, none, 0, none, 0⟩
theorem err_q1 : (headErr q1).1 = 0 := by decide +kernel
theorem err_q0 : (headErr q0).1 = 0 := by decide +kernel
theorem wr_0 : (wrongF q1 [] s0).1 = 0 := by decide +kernel
theorem wr_1 : wrongF q1 [s0] s0 = (24, pTime) := by decide +kernel
theorem wr_4 : (wrongF q1 [s0] s4).1 = 0 := by decide +kernel
theorem len_4 : (lastB [s0] s4).length = 8 := by decide +kernel
theorem bits_1 : 16 + (chunkB q1 [s0]).length = 228 := by decide +kernel
theorem len_c0 : (chunkB q1 []).length ≤ 100 := by decide +kernel
theorem in_0 : In64S s0 := ⟨by decide, by decide, ⟨by decide, by decide, by decide, by decide, fun v hv => absurd hv (by simp [s0]), fun v hv => absurd hv (by simp [s0])⟩⟩
theorem in_4 : In64S s4 := ⟨by decide, by decide, ⟨by decide, by decide, by decide, by decide, fun v hv => absurd hv (by simp [s4]), fun v hv => absurd hv (by simp [s4])⟩⟩
theorem room_0 : Room q1 [] := by
  have h1 := len_c0
  have h2 : width q1 = 3 := rfl
  unfold Room
  rw [h2]
  generalize (chunkB q1 []).length = a at *
  exact ⟨by omega, by simp⟩
theorem room_1 : Room q1 [s0] := by
  have h1 := bits_1
  have h2 : width q1 = 3 := rfl
  unfold Room
  rw [h2]
  generalize (chunkB q1 [s0]).length = a at *
  exact ⟨by omega, by simp⟩
theorem off_0 (T : Nat → Prop) (s : FS) (h : s.h = ⟨0, 0, 0, 0, 0, [], [], [], []⟩) : OnH T s.h lh0 := by
  rw [h]
  exact ⟨fun ad hA => absurd hA (by simp [lh0]), fun ad hA => absurd hA (by simp [lh0]), fun ad hA => absurd hA (by simp [lh0]), fun ad hA => absurd hA (by simp [lh0])⟩
set_option maxRecDepth 100000 in
set_option maxHeartbeats 6400000 in
theorem awake_calls (w : World) (hT : Tab w) (hE : GlE w) (hZ : Tz w) :
    Calls Tryz.prog 35 #[] w fun e w' => e = .returned (.bool true) ∧ Below w.heap.size w w' := by
  have HT := Lib.hid (fun W (h : Below w.heap.size w W) => hT.below h)
  have HE := Lib.hid (fun W (h : Below w.heap.size w W) => gle_below hE h)
  have HZ := Lib.hid (fun W (h : Below w.heap.size w W) => hZ.below h)
  have hlt1 := hT.lt
  have hlt2 := hZ.lt
  have HN1 := Lib.hid (new_calls q1 lc0 w (Law14B.hdin_nil w 1 0 0 0 (by decide)) hE hT)
  clear hT hE hZ
  go_enter Tryz.func35, Tryz.ntmps35
  go_wp2_with (fail)
  refine HN1.out.mono ?_
  rintro e w1 ⟨hb1, hc1⟩
  obtain ⟨g, S, rfl, hk1, hS1⟩ : ∃ g S, e = .returned (.tuple #[.pointer (some ⟨g, 0, none⟩), .nilIface]) ∧ Ck w1 g S q1 [] ∧ ∀ k, S k → w.heap.size ≤ k := by
    rcases hc1 with ⟨h, -⟩ | ⟨-, h, -⟩ | ⟨-, -, h⟩
    · exact absurd err_q1 h
    · exact absurd rfl h
    · exact h
  have B1 := Lib.hid hb1
  have K1 := Lib.hid hk1
  have HS1 := Lib.hid hS1
  have HN0 := Lib.hid (new_calls q0 lc0 w1 (Law14B.hdin_nil w1 0 0 0 0 (by decide)) (HE.out _ hb1) (HT.out _ hb1))
  clear hb1 hc1 hk1 hS1 HN1
  go_wp2_with (fail)
  refine HN0.out.mono ?_
  rintro e w2 ⟨hb2, hc2⟩
  obtain ⟨v, rfl, he2⟩ : ∃ v, e = .returned (.tuple #[.pointer none, v]) ∧ Err w2 v (plc (25 : Nat) pVariant 0) .nilIface := by
    rcases hc2 with ⟨h, -⟩ | ⟨-, -, h⟩ | ⟨-, h, -⟩
    · exact absurd err_q0 h
    · exact h
    · exact absurd h (by decide)
  have B2 := Lib.hid (below_then B1.out B1.out.size hb2)
  have K2 := Lib.hid (K1.out.below hb2)
  have HCO := Lib.hid (code_calls he2)
  rw [show codeOf (plc (25 : Nat) pVariant 0) .nilIface = 25 from rfl] at HCO
  obtain ⟨ge, rfl⟩ := err_some (by decide) he2
  clear hb2 hc2 he2 HN0
  go_wp2_with (fail)
  refine HCO.out.mono ?_
  rintro e w3 ⟨rfl, hb3⟩
  have B3 := Lib.hid (below_then B2.out B2.out.size hb3)
  have K3 := Lib.hid (K2.out.below hb3)
  clear hb3 HCO
  obtain ⟨x3, hx3⟩ := K3.out
  have HA1 := Lib.hid (append_calls g S q1 [] x3 s0 lh0 w3 hx3 (la_nil w3) (off_0 _ s0 rfl) in_0 room_0 (HE.out _ B3.out) (HT.out _ B3.out) (HZ.out _ B3.out) (fun h => by have := HS1.out _ h; omega) (fun h => by have := HS1.out _ h; omega))
  clear hx3
  go_wp2_with (fail)
  refine HA1.out.mono ?_
  rintro e w4 hap
  obtain ⟨rfl, S4, hk4, hs4, hc4⟩ : e = .returned .nilIface ∧ Upd (fun W S => Ck W g S q1 ([] ++ [s0])) S w3 w4 := by
    rcases hap with ⟨h, -⟩ | ⟨-, h⟩
    · exact absurd wr_0 h
    · exact h
  rw [List.nil_append] at hk4
  have B4 := Lib.hid (ch_new B3.out B3.out.size HS1.out hc4)
  have HS4 : Hid (∀ k, S4 k → w.heap.size ≤ k) := Lib.hid (fun k hk => by
    rcases hs4 k hk with h | h
    · exact HS1.out k h
    · exact Nat.le_trans B3.out.size h)
  have K4 := Lib.hid hk4
  clear hap hk4 hs4 hc4 HA1
  obtain ⟨x4, hx4⟩ := K4.out
  have HA2 := Lib.hid (append_calls g S4 q1 [s0] x4 s0 lh0 w4 hx4 (la_nil w4) (off_0 _ s0 rfl) in_0 room_1 (HE.out _ B4.out) (HT.out _ B4.out) (HZ.out _ B4.out) (fun h => by have := HS4.out _ h; omega) (fun h => by have := HS4.out _ h; omega))
  clear hx4
  go_wp2_with (fail)
  refine HA2.out.mono ?_
  rintro e w5 hap
  obtain ⟨⟨v5, rfl, he5⟩, hb5⟩ : (∃ v, e = .returned v ∧ Err w5 v (plc (24 : Nat) pTime (1 : Nat)) .nilIface) ∧ Below w4.heap.size w4 w5 := by
    rcases hap with ⟨-, h⟩ | ⟨h, -⟩
    · rw [wr_1] at h
      exact h
    · rw [wr_1] at h
      cases h
  have B5 := Lib.hid (below_then B4.out B4.out.size hb5)
  have K5 := Lib.hid (K4.out.below hb5)
  have E5 := Lib.hid he5
  obtain ⟨ge5, rfl⟩ := err_some (by decide) he5
  clear hap hb5 he5 HA2
  obtain ⟨x5, hx5⟩ := K5.out
  have HC5 := Lib.hid (cost_calls g S4 q1 [s0] x5 s4 lh0 w5 hx5 (la_nil w5) in_4 room_1 (HE.out _ B5.out) (HT.out _ B5.out) (HZ.out _ B5.out))
  clear hx5
  go_wp2_with (fail)
  refine HC5.out.mono ?_
  rintro e w6 ⟨hb6, hc6⟩
  obtain rfl : e = .returned (.tuple #[.int .i64 8, .nilIface]) := by
    rcases hc6 with ⟨h, -⟩ | ⟨-, h⟩
    · exact absurd wr_4 h
    · rw [len_4] at h
      exact h
  have B6 := Lib.hid (below_then B5.out B5.out.size hb6)
  have K6 := Lib.hid (K5.out.below hb6)
  have E6 := Lib.hid (E5.out.below hb6)
  have HAT := Lib.hid (FailE.at_calls pTime (E5.out.below hb6))
  rw [show FailE.atF (plc (24 : Nat) pTime (1 : Nat)) pTime = (1, true) from by decide +kernel] at HAT
  clear hb6 hc6 HC5
  go_wp2_with (fail)
  refine HAT.out.mono ?_
  rintro e w7 ⟨rfl, hb7⟩
  have B7 := Lib.hid (below_then B6.out B6.out.size hb7)
  have K7 := Lib.hid (K6.out.below hb7)
  have E7 := Lib.hid (E6.out.below hb7)
  clear hb7 HAT
  obtain ⟨x7, hx7⟩ := K7.out
  have HLA := Lib.hid (last_calls g S4 q1 [s0] x7 w7 hx7)
  clear hx7
  go_wp2_with (fail)
  refine HLA.out.mono ?_
  rintro e w8 ⟨r, rfl, -, -, hb8⟩
  rw [show (Ending.returned (.tuple #[.agg (scs (lastS q1 [s0]) r).toArray, .bool (decide (0 < [s0].length))])) = Ending.returned (.tuple #[.agg #[.int .i64 0, .int .i64 0, .int .u64 0, .int .u64 0, .int .u64 0, .int .u64 0, .slice r.A 0 r.c, .slice r.B 0 r.d, .slice r.C 0 r.cc, .slice r.D 0 r.dd], .bool true]) from rfl]
  obtain ⟨W8, hW8, hal⟩ : ∃ W : World, W = w8.alloc (.cells #[.int .i64 0, .int .i64 0, .int .u64 0, .int .u64 0, .int .u64 0, .int .u64 0, .slice r.A 0 r.c, .slice r.B 0 r.d, .slice r.C 0 r.cc, .slice r.D 0 r.dd] 74) ∧ Below w7.heap.size w7 W := ⟨_, rfl, hb8.alloc hb8.size _⟩
  have HW8 := Lib.hid hW8
  have B8 := Lib.hid (below_then B7.out B7.out.size hal)
  have K8 := Lib.hid (K7.out.below hal)
  have HCO := Lib.hid (code_calls (E7.out.below hal))
  rw [show codeOf (plc (24 : Nat) pTime (1 : Nat)) .nilIface = 24 from rfl] at HCO
  clear hb8 hal hW8 HLA
  go_wp2_with (fail)
  rw [← HW8.out]
  refine HCO.out.mono ?_
  rintro e w9 ⟨rfl, hb9⟩
  have B9 := Lib.hid (below_then B8.out B8.out.size hb9)
  obtain ⟨x9, hx9⟩ := K8.out.below hb9
  have HBI := Lib.hid (FcD.bits_calls g S4 q1 [s0] x9 w9 hx9 (by have := bits_1; omega))
  rw [bits_1] at HBI
  have HLE := Lib.hid (FcD.len_calls g S4 q1 [s0] x9 w9 hx9)
  rw [show [s0].length = 1 from rfl] at HLE
  clear hb9 hx9 HCO
  go_wp2_with (fail)
  refine HBI.out.mono ?_
  rintro e w' ⟨rfl, rfl⟩
  go_wp2_with (fail)
  refine HLE.out.mono ?_
  rintro e w' ⟨rfl, rfl⟩
  go_wp2
  go_ret
  exact ⟨rfl, B9.out⟩
end Go.Proofs.YtjfekjbmgckkcaaGreatDoor.Law18C

/- the reference of layer 14: the bits of spans, of a head. -/
namespace Go.Proofs.YtjfekjbmgckkcaaGreatDoor.Ref14B
open Go.RowKit Go.Proofs.YtjfekjbmgckkcaaGreatDoorW.PrintWords
open Go.Proofs.YtjfekjbmgckkcaaGreatDoor.Bits Go.Proofs.YtjfekjbmgckkcaaGreatDoor.Base Go.Proofs.YtjfekjbmgckkcaaGreatDoor.VarPure Go.Proofs.YtjfekjbmgckkcaaGreatDoor.VarKit Go.Proofs.YtjfekjbmgckkcaaGreatDoor.StreamA Go.Proofs.YtjfekjbmgckkcaaGreatDoor.SpanPure Go.Proofs.YtjfekjbmgckkcaaGreatDoor.SpanBase Go.Proofs.YtjfekjbmgckkcaaGreatDoor.ThrPure Go.Proofs.YtjfekjbmgckkcaaGreatDoor.HeadA Go.Proofs.YtjfekjbmgckkcaaGreatDoor.HeadB Go.Proofs.YtjfekjbmgckkcaaGreatDoor.HeadPure Go.Proofs.YtjfekjbmgckkcaaGreatDoor.HeadD Go.Proofs.YtjfekjbmgckkcaaGreatDoor.HeadE Go.Proofs.YtjfekjbmgckkcaaGreatDoor.Ref01 Go.Proofs.YtjfekjbmgckkcaaGreatDoor.Ref04 Go.Proofs.YtjfekjbmgckkcaaGreatDoor.Ref12

set_option maxRecDepth 100000 in
set_option maxHeartbeats 3200000 in
theorem Spans_calls (A : Option Addr) (c : Nat) (l : List Sp) (w : World) (hr : RdSp w A l) (hm : l.length ≤ 1024) (hin : ∀ s ∈ l, -2097153 ≤ s.1 ∧ s.1 ≤ 2097152 ∧ 0 ≤ s.2 ∧ s.2 ≤ 4096) :
    Calls Tryz.prog 83 #[.slice A l.length c] w fun e w' => e = .returned (.string (txt (encSp l))) ∧ Below w.heap.size w w' := by
  have HR := Lib.hid hr
  have HIN := Lib.hid hin
  have HUL := Lib.hid (U_calls l.length w (by omega))
  have HU := Lib.hid (fun x W (hb : Below w.heap.size w W) (hx : x < 18446744073709551616) => lift hb hb.size (U_calls x W hx))
  have HSS := Lib.hid (fun v W (hb : Below w.heap.size w W) (h1 : -9223372036854775808 ≤ v) (h2 : v ≤ 9223372036854775807) => lift hb hb.size (S_calls v W h1 h2))
  clear hr hin
  go_enter Tryz.func83, Tryz.ntmps83
  go_wp2_with (fail)
  refine HUL.out.mono ?_
  rintro e w1 ⟨rfl, hb1⟩
  have HB1 := Lib.hid hb1
  clear hb1 HUL
  go_wp2
  go_loopw [3, 4] (fun v i wr => ∃ k : Nat, k ≤ l.length ∧ i = .int .i64 k ∧ v = .string (txt (encU l.length ++ encSps (l.take k))) ∧ Below w.heap.size w wr) (fun _ i _ => l.length - (intOf i).toNat)
  case atStart => exact ⟨0, by omega, rfl, by simp [encSps], HB1.out⟩
  case round =>
    obtain ⟨k, hk, rfl, rfl, hb⟩ := hrel
    have HB := Lib.hid hb
    by_cases hlt : k < l.length
    · obtain ⟨ad, hA, c0, c1⟩ := (HR.out.below hb).at_ k hlt
      subst hA
      obtain ⟨h1, h2, h3, h4⟩ := HIN.out l[k] (List.getElem_mem hlt)
      have HSF := Lib.hid (fun W (h : Below w.heap.size w W) => by
        obtain ⟨ad', hA, c0', c1'⟩ := (HR.out.below h).at_ k hlt
        injection hA with hA
        subst hA
        exact ⟨h, c0', c1'⟩ : ∀ W, Below w.heap.size w W → (Below w.heap.size w W ∧ W.cell? (ad.add (k * 2)) = some (.int .i64 l[k].1) ∧ W.cell? ⟨(ad.add (k * 2)).block, (ad.add (k * 2)).off + 1, none⟩ = some (.int .i64 l[k].2)))
      have HT := Lib.hid (encSps_take l k hlt)
      have hl1 := encSps_le (l.take k)
      have hlt2 : (l.take k).length ≤ 1024 := by rw [List.length_take]; omega
      have hl2 := encU_le l.length
      have hl3 := encU_le l[k].2.toNat
      have hl4 := encS_le l[k].1
      obtain ⟨s, hs⟩ : ∃ s, s = l[k] := ⟨_, rfl⟩
      rw [← hs] at c0 c1 h1 h2 h3 h4 HSF HT hl3 hl4
      obtain ⟨o, q⟩ := s
      simp only at c0 c1 h1 h2 h3 h4 HSF HT hl3 hl4
      obtain ⟨n, rfl⟩ := Int.eq_ofNat_of_zero_le h3
      rw [Int.toNat_natCast] at hl3
      have HUK := Lib.hid (fun W hb => HU.out n W hb (by omega))
      have HSK := Lib.hid (fun W hb => HSS.out o W hb (by omega) (by omega))
      obtain ⟨X, hX⟩ : ∃ X, X = encU l.length ++ encSps (l.take k) := ⟨_, rfl⟩
      have hXl : X.length ≤ 1000000 := by rw [hX, List.length_append]; omega
      have HN : Hid (txt (encU l.length ++ encSps (l.take (k + 1))) = txt X ++ (txt (encU n) ++ txt (encS o))) := Lib.hid (by
        rw [HT.out, hX, ← txt_append, ← txt_append]
        simp [encSp1, List.append_assoc])
      rw [← hX]
      have z1 : (txt X).size ≤ 1000000 := by rw [txt_size]; exact hXl
      have z2 : (txt (encU n)).size ≤ 72 := by rw [txt_size]; exact hl3
      have z3 : (txt (encS o)).size ≤ 72 := by rw [txt_size]; exact hl4
      have hwn : IntKind.u64.wrap (n : Int) = (n : Int) := by rw [IntKind.wrap_u64]; omega
      obtain ⟨sX, hsX⟩ : ∃ s, s = txt X := ⟨_, rfl⟩
      obtain ⟨sU, hsU⟩ : ∃ s, s = txt (encU n) := ⟨_, rfl⟩
      obtain ⟨sS, hsS⟩ : ∃ s, s = txt (encS o) := ⟨_, rfl⟩
      rw [← hsX] at z1 HN ⊢
      rw [← hsU] at z2 HN HUK
      rw [← hsS] at z3 HN HSK
      have n1 : ¬ (9223372036854775807 < sU.size + sS.size) := by omega
      have n2 : ¬ (9223372036854775807 < sX.size + (sU.size + sS.size)) := by omega
      have n3 : ¬ (9223372036854775807 < sX.size + (sU ++ sS).size) := by rw [ByteArray.size_append]; omega
      have hcells := HSF.out _ hb
      clear hsX hsU hsS hX hXl hl1 hl2 hl3 hl4 hlt2 hs h1 h2 h3 h4 hb HT
      go_wp2_with (fail)
      go_region_held3 (fun W => Below w.heap.size w W ∧ W.cell? (ad.add (k * 2)) = some (.int .i64 o) ∧ W.cell? ⟨(ad.add (k * 2)).block, (ad.add (k * 2)).off + 1, none⟩ = some (.int .i64 (n : Int)))
        (first | (with_reducible exact HSF.out _ (below_drew HB.out)) | (with_reducible exact HSF.out _ hbs) | (with_reducible exact HSF.out _ hbu))
        (first
        | (go_at_call 156; refine (HUK.out _ (And.left (by assumption))).mono ?_; rintro e w2 ⟨rfl, hbu⟩; have hcells := HSF.out _ hbu)
        | (go_at_call 81; refine (HSK.out _ (And.left (by assumption))).mono ?_; rintro e w3 ⟨rfl, hbs⟩; have hcells := HSF.out _ hbs))
      all_goals go_wp2
      all_goals
        go_roundw
        case rel => exact ⟨k + 1, by omega, by go_num, by rw [HN.out], by assumption⟩
        case measure => simp [intOf]; omega
    · obtain rfl : k = l.length := by omega
      have HF : Hid (txt (encSp l) = txt (encU l.length ++ encSps (l.take l.length))) := Lib.hid (by rw [List.take_length]; rfl)
      clear hb
      go_wp2
      go_ret
      exact ⟨by rw [HF.out]; rfl, HB.out⟩
theorem flags_bits (I V : Nat) (hI : I < 4) (hV : V < 2) : nb I 2 ++ nb V 1 ++ [false, false, false, false, false] = nb ((2 * I + V) * 32) 8 := by
  have h : ∀ (i : Fin 4) (v : Fin 2), nb i.val 2 ++ nb v.val 1 ++ [false, false, false, false, false] = nb ((2 * i.val + v.val) * 32) 8 := by decide +kernel
  exact h ⟨I, hI⟩ ⟨V, hV⟩
structure Sb (w : World) (o : Obj) (W : World) : Prop where
  b : Below w.heap.size w W
  o : W.heap[w.heap.size]? = some o
theorem Sb.drew {w W : World} {o : Obj} (h : Sb w o W) : Sb w o W.drew := ⟨below_drew h.b, h.o⟩
theorem Sb.below {w W W2 : World} {o : Obj} (h : Sb w o W) (hb : Below W.heap.size W W2) : Sb w o W2 := ⟨below_then h.b h.b.size hb, (Ch.of_below (S := fun _ => False) hb).blk h.o (fun x => x)⟩
set_option maxRecDepth 100000 in
set_option maxHeartbeats 3200000 in
theorem Bits14_calls (h : Hd) (p : Lc) (w : World) (hh : HdIn w h p) (he : (headErr h).1 = 0) :
    Calls Tryz.prog 23 #[.agg (hcs h p).toArray] w fun e w' => e = .returned (.string (txt (encH h))) ∧ Below w.heap.size w w' := by
  obtain ⟨hv, hi0, hi3, hs0, hs8, -, hsp, hsn⟩ := err_zero he
  obtain ⟨vr, hint, schema, zt, pos, neg⟩ := h
  obtain ⟨A, c, B, d⟩ := p
  obtain ⟨hp, hn, hz⟩ := hh
  simp only at *
  obtain ⟨V, rfl⟩ := Int.eq_ofNat_of_zero_le (show 0 ≤ vr by omega)
  obtain ⟨I, rfl⟩ := Int.eq_ofNat_of_zero_le hi0
  show Calls Tryz.prog 23 #[.agg #[.int .i64 V, .int .i64 I, .int .i64 schema, .int .u64 zt, .slice A pos.length c, .slice B neg.length d]] w _
  obtain ⟨o1, ho1, hs1⟩ : ∃ o1 : Obj, o1 = (.cells #[.int .i64 V, .int .i64 I, .int .i64 schema, .int .u64 zt, .slice A pos.length c, .slice B neg.length d] 41 (0, 0)) ∧ Sb w o1 (w.alloc (.cells #[.int .i64 V, .int .i64 I, .int .i64 schema, .int .u64 zt, .slice A pos.length c, .slice B neg.length d] 41)) := ⟨_, rfl, below_alloc (Below.refl _ _) _, blk_last w _⟩
  have HSF : Hid (∀ W, Sb w o1 W → (Sb w o1 W ∧ W.cell? ⟨w.heap.size, 0, none⟩ = some (.int .i64 (V : Int)) ∧ W.cell? ⟨w.heap.size, 1, none⟩ = some (.int .i64 (I : Int)) ∧ W.cell? ⟨w.heap.size, 2, none⟩ = some (.int .i64 schema) ∧ W.cell? ⟨w.heap.size, 3, none⟩ = some (.int .u64 zt) ∧ W.cell? ⟨w.heap.size, 4, none⟩ = some (.slice A pos.length c) ∧ W.cell? ⟨w.heap.size, 5, none⟩ = some (.slice B neg.length d))) := Lib.hid (fun W h => by
    subst ho1
    exact ⟨h, obj_cell h.o rfl, obj_cell h.o rfl, obj_cell h.o rfl, obj_cell h.o rfl, obj_cell h.o rfl, obj_cell h.o rfl⟩)
  have HS0 := Lib.hid hs1
  have HNI := Lib.hid (fun W => number_calls I 2 W (by omega) (by decide))
  have HNV := Lib.hid (fun W => number_calls V 1 W (by omega) (by decide))
  have HSC : Hid (∀ W, Sb w o1 W → Calls Tryz.prog 81 #[.int .i64 schema] W fun e w' => e = .returned (.string (txt (encS schema))) ∧ Sb w o1 w') := Lib.hid (fun W h => (S_calls schema W (by omega) (by omega)).mono fun e w' ⟨a, b⟩ => ⟨a, h.below b⟩)
  have HZC := Lib.hid (fun W => Bits12_calls zt W hz)
  have HPC : Hid (∀ W, Sb w o1 W → Calls Tryz.prog 83 #[.slice A pos.length c] W fun e w' => e = .returned (.string (txt (encSp pos))) ∧ Sb w o1 w') := Lib.hid (fun W h => (Spans_calls A c pos W (hp.below h.b).rd (sides_in hsp).1 (sides_in hsp).2).mono fun e w' ⟨a, b⟩ => ⟨a, h.below b⟩)
  have HNC : Hid (∀ W, Sb w o1 W → Calls Tryz.prog 83 #[.slice B neg.length d] W fun e w' => e = .returned (.string (txt (encSp neg))) ∧ Sb w o1 w') := Lib.hid (fun W h => (Spans_calls B d neg W (hn.below h.b).rd (sides_in hsn).1 (sides_in hsn).2).mono fun e w' ⟨a, b⟩ => ⟨a, h.below b⟩)
  have HE : Hid (txt (encH ⟨(V : Int), (I : Int), schema, zt, pos, neg⟩) = txt (nb I 2) ++ txt (nb V 1) ++ ⟨#[48, 48, 48, 48, 48]⟩ ++ txt (encS schema) ++ txt (encT zt) ++ txt (encSp pos) ++ txt (encSp neg)) := Lib.hid (by
    have h5 : (⟨#[48, 48, 48, 48, 48]⟩ : ByteArray) = txt [false, false, false, false, false] := rfl
    rw [h5, ← txt_append, ← txt_append, ← txt_append, ← txt_append, ← txt_append, ← txt_append, flags_bits I V (by omega) (by omega)]
    simp [encH])
  have l1 : (txt (nb I 2)).size ≤ 2 := by rw [txt_size, nb_length]; exact Nat.le_refl _
  have l2 : (txt (nb V 1)).size ≤ 1 := by rw [txt_size, nb_length]; exact Nat.le_refl _
  have l3 : (txt (encS schema)).size ≤ 72 := by rw [txt_size]; exact encS_le _
  have l4 : (txt (encT zt)).size ≤ 72 := by rw [txt_size]; exact encT_length _
  have l5 : (txt (encSp pos)).size ≤ 200000 := by rw [txt_size]; have h1 := encSp_le pos; have h2 := (sides_in hsp).1; omega
  have l6 : (txt (encSp neg)).size ≤ 200000 := by rw [txt_size]; have h1 := encSp_le neg; have h2 := (sides_in hsn).1; omega
  have hwI : IntKind.u64.wrap (I : Int) = (I : Int) := by rw [IntKind.wrap_u64]; omega
  have hwV : IntKind.u64.wrap (V : Int) = (V : Int) := by rw [IntKind.wrap_u64]; omega
  obtain ⟨sI, hsI⟩ : ∃ s, s = txt (nb I 2) := ⟨_, rfl⟩
  obtain ⟨sV, hsV⟩ : ∃ s, s = txt (nb V 1) := ⟨_, rfl⟩
  obtain ⟨sS, hsS⟩ : ∃ s, s = txt (encS schema) := ⟨_, rfl⟩
  obtain ⟨sZ, hsZ⟩ : ∃ s, s = txt (encT zt) := ⟨_, rfl⟩
  obtain ⟨sP, hsP⟩ : ∃ s, s = txt (encSp pos) := ⟨_, rfl⟩
  obtain ⟨sN, hsN⟩ : ∃ s, s = txt (encSp neg) := ⟨_, rfl⟩
  rw [← hsI] at HNI HE l1
  rw [← hsV] at HNV HE l2
  rw [← hsS] at HSC HE l3
  rw [← hsZ] at HZC HE l4
  rw [← hsP] at HPC HE l5
  rw [← hsN] at HNC HE l6
  have hz5 : (⟨#[48, 48, 48, 48, 48]⟩ : ByteArray).size = 5 := rfl
  have a0 : ¬ (9223372036854775807 < sI.size + sV.size) := by omega
  have a1 : ¬ (9223372036854775807 < sI.size + sV.size + 5) := by omega
  have a2 : ¬ (9223372036854775807 < sI.size + sV.size + 5 + sS.size) := by omega
  have a3 : ¬ (9223372036854775807 < sI.size + sV.size + 5 + sS.size + sZ.size) := by omega
  have a4 : ¬ (9223372036854775807 < sI.size + sV.size + 5 + sS.size + sZ.size + sP.size) := by omega
  have a5 : ¬ (9223372036854775807 < sI.size + sV.size + 5 + sS.size + sZ.size + sP.size + sN.size) := by omega
  clear hv hi0 hi3 hs0 hs8 hsp hsn hp hn hz he ho1 hs1 hsI hsV hsS hsZ hsP hsN
  go_enter Tryz.func23, Tryz.ntmps23
  go_wp2_with (fail)
  go_region_held3 (fun W => Sb w o1 W ∧ W.cell? ⟨w.heap.size, 0, none⟩ = some (.int .i64 (V : Int)) ∧ W.cell? ⟨w.heap.size, 1, none⟩ = some (.int .i64 (I : Int)) ∧ W.cell? ⟨w.heap.size, 2, none⟩ = some (.int .i64 schema) ∧ W.cell? ⟨w.heap.size, 3, none⟩ = some (.int .u64 zt) ∧ W.cell? ⟨w.heap.size, 4, none⟩ = some (.slice A pos.length c) ∧ W.cell? ⟨w.heap.size, 5, none⟩ = some (.slice B neg.length d))
    (first | (with_reducible exact HSF.out _ (Sb.drew HS0.out)) | (with_reducible exact HSF.out _ hst))
    (first
    | (go_at_call 80; (with_reducible show Calls _ _ #[_, Value.int .i64 2] _ _); refine (HNI.out _).mono ?_; rintro e w2 ⟨rfl, rfl⟩; have hst := Sb.drew HS0.out; have hcells := HSF.out _ hst)
    | (go_at_call 80; (with_reducible show Calls _ _ #[_, Value.int .i64 1] _ _); refine (HNV.out _).mono ?_; rintro e w2 ⟨rfl, rfl⟩)
    | (go_at_call 81; refine (HSC.out _ (by first | (with_reducible exact hst) | (with_reducible exact Sb.drew HS0.out))).mono ?_; rintro e w3 ⟨rfl, hst⟩; have hcells := HSF.out _ hst)
    | (go_at_call 82; refine (HZC.out _).mono ?_; rintro e w4 ⟨rfl, rfl⟩)
    | (go_at_call 83; (with_reducible show Calls _ _ #[Value.slice A pos.length c] _ _); refine (HPC.out _ hst).mono ?_; rintro e w5 ⟨rfl, hst⟩; have hcells := HSF.out _ hst)
    | (go_at_call 83; refine (HNC.out _ hst).mono ?_; rintro e w6 ⟨rfl, hst⟩; have hcells := HSF.out _ hst))
  have HF := Lib.hid hst.b
  go_wp2
  go_ret
  exact ⟨by rw [HE.out]; rfl, HF.out⟩
end Go.Proofs.YtjfekjbmgckkcaaGreatDoor.Ref14B

/- the reference of layer 1: bytes of a text of bits. -/
namespace Go.Proofs.YtjfekjbmgckkcaaGreatDoor.Ref01
open Go.RowKit Go.Proofs.YtjfekjbmgckkcaaGreatDoorW.PrintWords
open Go.Proofs.YtjfekjbmgckkcaaGreatDoor.Bits Go.Proofs.YtjfekjbmgckkcaaGreatDoor.Base

set_option maxHeartbeats 1600000 in
theorem bytes_calls (l : List Bool) (w : World) (hn : l.length ≤ 1000000000) :
    Calls Tryz.prog 103 #[.string (txt l)] w fun e w' => e = .returned (.string (str (pack l))) ∧ Below w.heap.size w w' := by
  have hs := txt_size l
  obtain ⟨s, hS⟩ : ∃ s, s = txt l := ⟨_, rfl⟩
  have hat := fun (k : Nat) (h : k < l.length) (h' : k < s.size) => show (s[k]'h').toNat = (sign l[k]).toNat by subst hS; exact txt_at l k h h'
  rw [← hS] at hs ⊢
  clear hS
  have HS := Lib.hid hs
  have hsl : s.size ≤ 1000000000 := by omega
  have HAT := Lib.hid hat
  have HP := Lib.hid (pack_length l)
  clear hs hat
  go_enter Tryz.func103, Tryz.ntmps103
  go_wp2
  go_loopw [3, 4] (fun x i wr => ∃ j : Nat, 8 * j ≤ s.size + 7 ∧ i = .int .i64 ((8 * j : Nat) : Int) ∧ x = .string (str ((pack l).take j)) ∧ Below w.heap.size w wr) (fun _ i _ => s.size + 8 - (intOf i).toNat)
  case atStart => exact ⟨0, by omega, rfl, rfl, Below.refl _ _⟩
  case round =>
    obtain ⟨j, hj, rfl, rfl, hb⟩ := hrel
    have HB := Lib.hid hb
    have hb0 := hb.size
    clear hb
    have hjj : ((8 * j : Nat) : Int) = 8 * (j : Int) := by omega
    rw [hjj]
    clear hjj
    by_cases hlt : 8 * j < s.size
    · obtain ⟨wo, hwo⟩ : ∃ wo : World, wo = wr := ⟨_, rfl⟩
      subst hwo
      have hdj : decide (8 * (j : Int) < (s.size : Int)) = true := by simp; omega
      have hst : (str ((pack l).take j)).size ≤ 1000000000 := by rw [str_size, List.length_take]; have := HP.out; have := HS.out; omega
      go_wp2
      go_loop [5, 6] (fun x i => ∃ k : Nat, k ≤ 8 ∧ i = .int .i64 k ∧ x = .int .u8 (val ((eight l j).take k))) (fun _ i => 8 - (intOf i).toNat)
      case atStart => exact ⟨0, by omega, rfl, rfl⟩
      case round =>
        obtain ⟨k, hk, rfl, rfl⟩ := hrel
        by_cases hk8 : k < 8
        · have h3 := eight_lt l j (k + 1) (by omega)
          by_cases hin : 8 * j + k < s.size
          · have hkl : 8 * j + k < l.length := by have := HS.out; omega
            have h1 := HAT.out (8 * j + k) hkl hin
            have h2 := eight_take l j k (eight_in l j k hkl)
            obtain ⟨q, hq⟩ : ∃ q, q = val ((eight l j).take k) := ⟨_, rfl⟩
            rw [← hq] at h2 ⊢
            have hd : decide (8 * (j : Int) + (k : Int) < (s.size : Int)) = true := by simp; omega
            clear hq
            cases hv : l[8 * j + k] with
            | true =>
              rw [hv] at h1 h2
              have h5 : (((s[8 * j + k]'hin).toNat : Int) == 49) = true := by rw [h1]; rfl
              have hq1 : 2 * q + 1 < 256 := by simp at h2; omega
              have H2 := Lib.hid h2
              clear h1 h2 h3 hv
              go_wp2
              go_round
              case rel => exact ⟨k + 1, by omega, by go_num, by rw [H2.out]; rfl⟩
              case measure => simp [intOf]; omega
            | false =>
              rw [hv] at h1 h2
              have h5 : (((s[8 * j + k]'hin).toNat : Int) == 49) = false := by rw [h1]; rfl
              have hq1 : 2 * q < 256 := by simp at h2; omega
              have H2 := Lib.hid h2
              clear h1 h2 h3 hv
              go_wp2
              go_round
              case rel => exact ⟨k + 1, by omega, by go_num, by rw [H2.out]; rfl⟩
              case measure => simp [intOf]; omega
          · have h2 := eight_take l j k (eight_out l j k (by have := HS.out; omega) (by have := HS.out; omega) hk8)
            obtain ⟨q, hq⟩ : ∃ q, q = val ((eight l j).take k) := ⟨_, rfl⟩
            rw [← hq] at h2 ⊢
            have hd : decide (8 * (j : Int) + (k : Int) < (s.size : Int)) = false := by simp; omega
            have hq1 : 2 * q < 256 := by simp at h2; omega
            have H2 := Lib.hid h2
            clear h2 h3 hq
            go_wp2
            go_round
            case rel => exact ⟨k + 1, by omega, by go_num, by rw [H2.out]; rfl⟩
            case measure => simp [intOf]; omega
        · obtain rfl : k = 8 := by omega
          have h3 := eight_lt l j 8 (by omega)
          obtain ⟨q, hq⟩ : ∃ q, q = val ((eight l j).take 8) := ⟨_, rfl⟩
          rw [← hq] at h3 ⊢
          have hc : (q : Int) = ((byte ((eight l j).take 8)).toNat : Int) := by rw [byte, UInt8.toNat_ofNat', ← hq]; omega
          have hcv := string_one (P := Tryz.prog) (src := 51) (dst := 9) (e := 5) (q : Int) _ hc Tryz.underlying51 Tryz.underlying5 Tryz.underlying9 wo
          obtain ⟨b, hbq⟩ : ∃ b, b = byte ((eight l j).take 8) := ⟨_, rfl⟩
          rw [← hbq] at hcv
          have hsb : (str [b]).size = 1 := str_size [b]
          have HG := Lib.hid (pack_get j l (by have := HS.out; omega))
          have HBQ := Lib.hid hbq
          clear hq hc h3 hbq
          go_wp2
          go_roundw
          case rel => exact ⟨j + 1, by omega, by go_num, by rw [take_byte HG.out, str_append]; rw [HBQ.out]; rfl, below_alloc HB.out _⟩
          case measure => simp [intOf]; omega
    · have hfull : (pack l).take j = pack l := List.take_of_length_le (by have := HP.out; have := HS.out; omega)
      rw [hfull]
      go_wp2
      go_ret
      exact ⟨rfl, HB.out⟩
end Go.Proofs.YtjfekjbmgckkcaaGreatDoor.Ref01

/- a head that comes in as a law's argument. -/
namespace Go.Proofs.YtjfekjbmgckkcaaGreatDoor.HdArg
open Go.RowKit Go.Proofs.YtjfekjbmgckkcaaGreatDoorW.PrintWords
open Go.Proofs.YtjfekjbmgckkcaaGreatDoor.Base Go.Proofs.YtjfekjbmgckkcaaGreatDoor.SpanPure Go.Proofs.YtjfekjbmgckkcaaGreatDoor.SpanBase Go.Proofs.YtjfekjbmgckkcaaGreatDoor.HeadA Go.Proofs.YtjfekjbmgckkcaaGreatDoor.HeadB Go.Proofs.YtjfekjbmgckkcaaGreatDoor.Law14A Go.Proofs.YtjfekjbmgckkcaaGreatDoor.LawBase

/-- a head that came in. -/
structure HdRd (w : World) (h : Hd) (p : Lc) : Prop where
  pos : RdSp w p.A h.pos
  neg : RdSp w p.B h.neg
  lp : h.pos.length ≤ 9223372036854775807
  ln : h.neg.length ≤ 9223372036854775807
theorem HdRd.below {w W : World} {h : Hd} {p : Lc} (x : HdRd w h p) (hb : Below w.heap.size w W) : HdRd W h p := ⟨x.pos.below hb, x.neg.below hb, x.lp, x.ln⟩
/-- spans that lie in memory. -/
theorem rd_sp {w : World} {A : Option Addr} {l : List (Int × Int)} (h : RdC w A (Rep.all (Rep.pair (Rep.int .i64) (Rep.int .i64)) l)) : RdSp w A l := h
abbrev rSp : Rep.Rep (Int × Int) := Rep.pair (Rep.int .i64) (Rep.int .i64)
abbrev rHd : Rep.Rep (Int × Int × Int × Int × Rep.Sl (Int × Int) × Rep.Sl (Int × Int)) := Rep.pair (Rep.int .i64) (Rep.pair (Rep.int .i64) (Rep.pair (Rep.int .i64) (Rep.pair (Rep.int .u64) (Rep.pair (Rep.slice rSp) (Rep.slice rSp)))))
/-- a head that came in, as the row hands it. -/
def hdOf (x : Int × Int × Int × Int × Rep.Sl (Int × Int) × Rep.Sl (Int × Int)) : Hd := ⟨x.1, x.2.1, x.2.2.1, x.2.2.2.1.toNat, x.2.2.2.2.1.l, x.2.2.2.2.2.l⟩
def lcOf (x : Int × Int × Int × Int × Rep.Sl (Int × Int) × Rep.Sl (Int × Int)) : Lc := ⟨x.2.2.2.2.1.at_, x.2.2.2.2.1.cap, x.2.2.2.2.2.at_, x.2.2.2.2.2.cap⟩
theorem u64_in {n : Int} (h : (Lit.int .u64 n).wf = true) : 0 ≤ n ∧ n < 18446744073709551616 := by
  simp [Lit.wf, IntKind.min, IntKind.max, IntKind.bits, IntKind.signed] at h
  omega
theorem enc_hd {w : World} {x : Int × Int × Int × Int × Rep.Sl (Int × Int) × Rep.Sl (Int × Int)} (h : rHd.ok w x) : rHd.enc x = hcs (hdOf x) (lcOf x) ∧ HdRd w (hdOf x) (lcOf x) ∧ (hdOf x).zero < 18446744073709551616 ∧
    (x.2.2.2.2.1.l.length ≤ x.2.2.2.2.1.cap ∧ (x.2.2.2.2.1.at_ = none → x.2.2.2.2.1.cap = 0)) ∧ (x.2.2.2.2.2.l.length ≤ x.2.2.2.2.2.cap ∧ (x.2.2.2.2.2.at_ = none → x.2.2.2.2.2.cap = 0)) := by
  obtain ⟨v, i, s, z, p, q⟩ := x
  obtain ⟨h1, h2, h3, h4, ⟨h5, -⟩, ⟨h6, -⟩⟩ := h
  have hz := u64_in h4
  have e1 := h5.le
  have e2 := h5.max
  have e3 := h6.le
  have e4 := h6.max
  unfold maxLen at e2 e4
  simp only at e1 e2 e3 e4 hz
  refine ⟨?_, ⟨rd_sp h5.rd, rd_sp h6.rd, ?_, ?_⟩, ?_, ⟨h5.le, h5.nil⟩, ⟨h6.le, h6.nil⟩⟩
  · show [Value.int .i64 v, .int .i64 i, .int .i64 s, .int .u64 z, .slice p.at_ p.l.length p.cap, .slice q.at_ q.l.length q.cap] = [Value.int .i64 v, .int .i64 i, .int .i64 s, .int .u64 (z.toNat : Int), .slice p.at_ p.l.length p.cap, .slice q.at_ q.l.length q.cap]
    rw [Int.toNat_of_nonneg hz.1]
  · show p.l.length ≤ _
    omega
  · show q.l.length ≤ _
    omega
  · show z.toNat < _
    omega
theorem hdin_of {w : World} {x : Int × Int × Int × Int × Rep.Sl (Int × Int) × Rep.Sl (Int × Int)} (h : rHd.ok w x) (h1 : few (hdOf x).pos = true) (h2 : few (hdOf x).neg = true) : HdIn w (hdOf x) (lcOf x) := by
  obtain ⟨-, ⟨g1, g2, -, -⟩, g5, g6, g7⟩ := enc_hd h
  exact ⟨⟨g1, Nat.le_trans (few_len h1) (by decide), g6.1, g6.2⟩, ⟨g2, Nat.le_trans (few_len h2) (by decide), g7.1, g7.2⟩, g5⟩

end Go.Proofs.YtjfekjbmgckkcaaGreatDoor.HdArg

/- law 18, of chunks without samples: small; the document's bits; is it just this chunk. -/
namespace Go.Proofs.YtjfekjbmgckkcaaGreatDoor.Law18D
open Go.RowKit Go.Proofs.YtjfekjbmgckkcaaGreatDoorW.PrintWords
open Go.Proofs.YtjfekjbmgckkcaaGreatDoor.Bits Go.Proofs.YtjfekjbmgckkcaaGreatDoor.Base Go.Proofs.YtjfekjbmgckkcaaGreatDoor.VarPure Go.Proofs.YtjfekjbmgckkcaaGreatDoor.VarbitA Go.Proofs.YtjfekjbmgckkcaaGreatDoor.VarKit Go.Proofs.YtjfekjbmgckkcaaGreatDoor.StreamA Go.Proofs.YtjfekjbmgckkcaaGreatDoor.TimesPure Go.Proofs.YtjfekjbmgckkcaaGreatDoor.Ref01 Go.Proofs.YtjfekjbmgckkcaaGreatDoor.Ref13 Go.Proofs.YtjfekjbmgckkcaaGreatDoor.Ref14B Go.Proofs.YtjfekjbmgckkcaaGreatDoor.SpanPure Go.Proofs.YtjfekjbmgckkcaaGreatDoor.SpanBase Go.Proofs.YtjfekjbmgckkcaaGreatDoor.FailAs Go.Proofs.YtjfekjbmgckkcaaGreatDoor.FailB Go.Proofs.YtjfekjbmgckkcaaGreatDoor.FailC Go.Proofs.YtjfekjbmgckkcaaGreatDoor.HeadA Go.Proofs.YtjfekjbmgckkcaaGreatDoor.HeadB Go.Proofs.YtjfekjbmgckkcaaGreatDoor.HeadC Go.Proofs.YtjfekjbmgckkcaaGreatDoor.HeadE Go.Proofs.YtjfekjbmgckkcaaGreatDoor.HeadPure Go.Proofs.YtjfekjbmgckkcaaGreatDoor.FcPure Go.Proofs.YtjfekjbmgckkcaaGreatDoor.FcObj Go.Proofs.YtjfekjbmgckkcaaGreatDoor.FcD Go.Proofs.YtjfekjbmgckkcaaGreatDoor.FcG Go.Proofs.YtjfekjbmgckkcaaGreatDoor.FcH Go.Proofs.YtjfekjbmgckkcaaGreatDoor.FcI Go.Proofs.YtjfekjbmgckkcaaGreatDoor.Law14A Go.Proofs.YtjfekjbmgckkcaaGreatDoor.HdArg

set_option maxRecDepth 100000 in
set_option maxHeartbeats 3200000 in
theorem small0_calls (q : Hd) (p : Lc) (w : World) (hx : HdRd w q p) :
    Calls Tryz.prog 34 #[.agg (hcs q p).toArray, .slice none 0 0] w fun e w' => e = .returned (.bool (few q.pos && few q.neg)) ∧ Below w.heap.size w w' := by
  obtain ⟨vr, hint, schema, zt, pos, neg⟩ := q
  obtain ⟨A, c, B, d⟩ := p
  show Calls Tryz.prog 34 #[.agg #[.int .i64 vr, .int .i64 hint, .int .i64 schema, .int .u64 zt, .slice A pos.length c, .slice B neg.length d], .slice none 0 0] w _
  obtain ⟨W0, hW0, hbk, hal⟩ : ∃ W0 : World, W0 = w.alloc (.cells #[.int .i64 vr, .int .i64 hint, .int .i64 schema, .int .u64 zt, .slice A pos.length c, .slice B neg.length d] 25) ∧ W0.heap[w.heap.size]? = some (.cells #[.int .i64 vr, .int .i64 hint, .int .i64 schema, .int .u64 zt, .slice A pos.length c, .slice B neg.length d] 25 (0, 0)) ∧ Below w.heap.size w W0 := ⟨_, rfl, blk_last w _, below_alloc (Below.refl _ _) _⟩
  have HCEL : Hid (∀ W : World, Below W0.heap.size W0 W → (W.cell? ⟨w.heap.size, 0, none⟩ = some (.int .i64 vr) ∧ W.cell? ⟨w.heap.size, 1, none⟩ = some (.int .i64 hint) ∧ W.cell? ⟨w.heap.size, 2, none⟩ = some (.int .i64 schema) ∧ W.cell? ⟨w.heap.size, 3, none⟩ = some (.int .u64 zt) ∧ W.cell? ⟨w.heap.size, 4, none⟩ = some (.slice A pos.length c) ∧ W.cell? ⟨w.heap.size, 5, none⟩ = some (.slice B neg.length d))) := Lib.hid (fun W h => by
    have hb := (h.block _ (blk_lt hbk)).trans hbk
    exact ⟨obj_cell hb rfl, obj_cell hb rfl, obj_cell hb rfl, obj_cell hb rfl, obj_cell hb rfl, obj_cell hb rfl⟩)
  have HP := Lib.hid (fun W (h : Below W0.heap.size W0 W) => Law18A.few_calls A c pos W ((hx.below hal).below h).pos hx.lp)
  have HN := Lib.hid (fun W (h : Below W0.heap.size W0 W) => Law18A.few_calls B d neg W ((hx.below hal).below h).neg hx.ln)
  have HW0 := Lib.hid hW0
  have HAL := Lib.hid hal
  obtain ⟨k0, k1, k2, k3, k4, k5⟩ := HCEL.out W0 (Below.refl _ _)
  have B0 := Lib.hid (Below.refl W0.heap.size W0)
  clear hx hbk hal hW0
  simp only at HP HN ⊢
  cases h1 : few pos with
  | false =>
    rw [h1] at HP
    clear h1
    go_enter Tryz.func34, Tryz.ntmps34
    go_wp2_with (fail)
    rw [← HW0.out]
    refine (HP.out _ B0.out).mono ?_
    rintro e w1 ⟨rfl, hb1⟩
    have B1 := Lib.hid (below_then HAL.out HAL.out.size hb1)
    clear hb1
    go_wp2
    go_ret
    exact ⟨rfl, B1.out⟩
  | true =>
    rw [h1] at HP
    clear h1
    cases h2 : few neg with
    | false =>
      rw [h2] at HN
      clear h2
      go_enter Tryz.func34, Tryz.ntmps34
      go_wp2_with (fail)
      rw [← HW0.out]
      refine (HP.out _ B0.out).mono ?_
      rintro e w1 ⟨rfl, hb1⟩
      have B1 := Lib.hid hb1
      obtain ⟨k0, k1, k2, k3, k4, k5⟩ := HCEL.out w1 hb1
      clear hb1
      go_wp2_with (fail)
      refine (HN.out _ B1.out).mono ?_
      rintro e w2 ⟨rfl, hb2⟩
      have B2 := Lib.hid (below_then HAL.out HAL.out.size (below_then B1.out B1.out.size hb2))
      clear hb2
      go_wp2
      go_ret
      exact ⟨rfl, B2.out⟩
    | true =>
      rw [h2] at HN
      clear h2
      go_enter Tryz.func34, Tryz.ntmps34
      go_wp2_with (fail)
      rw [← HW0.out]
      refine (HP.out _ B0.out).mono ?_
      rintro e w1 ⟨rfl, hb1⟩
      have B1 := Lib.hid hb1
      obtain ⟨k0, k1, k2, k3, k4, k5⟩ := HCEL.out w1 hb1
      clear hb1
      go_wp2_with (fail)
      refine (HN.out _ B1.out).mono ?_
      rintro e w2 ⟨rfl, hb2⟩
      have B2 := Lib.hid (below_then HAL.out HAL.out.size (below_then B1.out B1.out.size hb2))
      clear hb2
      go_wp2_with (fail)
      go_loopw [6, 24] (fun _ i wr => i = .int .i64 0 ∧ Below w.heap.size w wr) (fun _ _ _ => 0)
      case atStart => exact ⟨rfl, B2.out⟩
      case round =>
        obtain ⟨rfl, hb⟩ := hrel
        have BB := Lib.hid hb
        clear hb
        go_wp2
        go_ret
        exact ⟨rfl, BB.out⟩

set_option maxRecDepth 100000 in
set_option maxHeartbeats 3200000 in
theorem bits0_calls (q : Hd) (p : Lc) (w : World) (hx : HdIn w q p) (he : (headErr q).1 = 0) :
    Calls Tryz.prog 102 #[.agg (hcs q p).toArray, .slice none 0 0] w fun e w' => e = .returned (.string (txt (allBits q []))) ∧ Below w.heap.size w w' := by
  have HTX : Hid (txt (allBits q []) = txt (nb 0 16) ++ txt (encH q)) := Lib.hid (by
    rw [← txt_append]
    unfold allBits chunkB
    rw [bitsB_nil, List.append_nil]
    rfl)
  rw [HTX.out]
  have hle : (encH q).length ≤ 400000 := by
    obtain ⟨-, -, -, -, -, -, g7, g8⟩ := err_zero he
    have h1 := encSp_le q.pos
    have h2 := encSp_le q.neg
    have h3 := encS_le q.schema
    have h4 := ThrPure.encT_length q.zero
    have h5 := (sides_in g7).1
    have h6 := (sides_in g8).1
    simp only [encH, List.length_append, nb_length]
    omega
  have z1 := txt_size (nb 0 16)
  have z2 := txt_size (encH q)
  rw [nb_length] at z1
  have HB := Lib.hid (fun W (h : Below w.heap.size w W) => Bits14_calls q p W (hx.below h) he)
  have HNU : Hid (∀ W, Calls Tryz.prog 80 #[.int .u64 0, .int .i64 16] W fun e w' => e = .returned (.string (txt (nb 0 16))) ∧ W = w') := Lib.hid (fun W => number_calls 0 16 W (by decide) (by decide))
  obtain ⟨sN, hN⟩ : ∃ s, s = txt (nb 0 16) := ⟨_, rfl⟩
  obtain ⟨sE, hE⟩ : ∃ s, s = txt (encH q) := ⟨_, rfl⟩
  rw [← hN] at z1 HNU ⊢
  rw [← hE] at z2 HB ⊢
  have n1 : ¬ (9223372036854775807 < sN.size + sE.size) := by omega
  obtain ⟨vr, hint, schema, zt, pos, neg⟩ := q
  obtain ⟨A, c, B, d⟩ := p
  obtain ⟨W0, hW0, hbk, hal⟩ : ∃ W0 : World, W0 = w.alloc (.cells #[.int .i64 vr, .int .i64 hint, .int .i64 schema, .int .u64 zt, .slice A pos.length c, .slice B neg.length d] 41) ∧ W0.heap[w.heap.size]? = some (.cells #[.int .i64 vr, .int .i64 hint, .int .i64 schema, .int .u64 zt, .slice A pos.length c, .slice B neg.length d] 41 (0, 0)) ∧ Below w.heap.size w W0 := ⟨_, rfl, blk_last w _, below_alloc (Below.refl _ _) _⟩
  have HS : Hid (∀ W : World, Below W0.heap.size W0 W → (Below W0.heap.size W0 W ∧ W.cell? ⟨w.heap.size, 0, none⟩ = some (.int .i64 vr) ∧ W.cell? ⟨w.heap.size, 1, none⟩ = some (.int .i64 hint) ∧ W.cell? ⟨w.heap.size, 2, none⟩ = some (.int .i64 schema) ∧ W.cell? ⟨w.heap.size, 3, none⟩ = some (.int .u64 zt) ∧ W.cell? ⟨w.heap.size, 4, none⟩ = some (.slice A pos.length c) ∧ W.cell? ⟨w.heap.size, 5, none⟩ = some (.slice B neg.length d))) := Lib.hid (fun W h => by
    have hb := (h.block _ (blk_lt hbk)).trans hbk
    exact ⟨h, obj_cell hb rfl, obj_cell hb rfl, obj_cell hb rfl, obj_cell hb rfl, obj_cell hb rfl, obj_cell hb rfl⟩)
  have HB : Hid (∀ W, Below W0.heap.size W0 W → Calls Tryz.prog 23 #[.agg #[.int .i64 vr, .int .i64 hint, .int .i64 schema, .int .u64 zt, .slice A pos.length c, .slice B neg.length d]] W fun e w' => e = .returned (.string sE) ∧ Below W0.heap.size W0 w') := Lib.hid (fun W h => lift h h.size (HB.out W (below_then hal hal.size h)))
  have HW0 := Lib.hid hW0
  have HAL := Lib.hid hal
  have hs0 := HS.out W0 (Below.refl _ _)
  clear hx he hN hE hbk hal hW0 hle z1 z2 HTX
  show Calls Tryz.prog 102 #[.agg #[.int .i64 vr, .int .i64 hint, .int .i64 schema, .int .u64 zt, .slice A pos.length c, .slice B neg.length d], .slice none 0 0] w _
  go_enter Tryz.func102, Tryz.ntmps102
  go_wp2_with (fail)
  rw [← HW0.out]
  go_region_held3 (fun W => Below W0.heap.size W0 W ∧ W.cell? ⟨w.heap.size, 0, none⟩ = some (.int .i64 vr) ∧ W.cell? ⟨w.heap.size, 1, none⟩ = some (.int .i64 hint) ∧ W.cell? ⟨w.heap.size, 2, none⟩ = some (.int .i64 schema) ∧ W.cell? ⟨w.heap.size, 3, none⟩ = some (.int .u64 zt) ∧ W.cell? ⟨w.heap.size, 4, none⟩ = some (.slice A pos.length c) ∧ W.cell? ⟨w.heap.size, 5, none⟩ = some (.slice B neg.length d))
    (first | (with_reducible exact HS.out _ (below_drew (Below.refl _ _))) | (with_reducible exact HS.out _ hb2) | assumption)
    (first
    | (go_at_call 80; refine (HNU.out _).mono ?_; rintro e w1 ⟨rfl, rfl⟩)
    | (go_at_call 23; refine (HB.out _ (And.left (by assumption))).mono ?_; rintro e w2 ⟨rfl, hb2⟩; have hs2 := HS.out _ hb2))
  have B2 := Lib.hid (below_then HAL.out HAL.out.size hb2)
  clear hb2 hs2 hs0
  go_wp2
  go_loopw [5, 6] (fun t i wr => t = .string (sN ++ sE) ∧ i = .int .i64 0 ∧ Below w.heap.size w wr) (fun _ _ _ => 0)
  case atStart => exact ⟨rfl, rfl, B2.out⟩
  case round =>
    obtain ⟨rfl, rfl, hb⟩ := hrel
    have BB := Lib.hid hb
    clear hb
    go_wp2
    go_ret
    exact ⟨rfl, BB.out⟩

set_option maxRecDepth 100000 in
set_option maxHeartbeats 6400000 in
theorem is0_calls (g : Nat) (S : Nat → Prop) (q : Hd) (p : Lc) (w : World) (hk : Ck w g S q []) (hx : HdIn w q p) (he : (headErr q).1 = 0) :
    Calls Tryz.prog 39 #[.pointer (some ⟨g, 0, none⟩), .agg (hcs q p).toArray, .slice none 0 0] w fun e w' => e = .returned (.bool true) ∧ Below w.heap.size w w' := by
  have hle : (encH q).length ≤ 400000 := by
    obtain ⟨-, -, -, -, -, -, g7, g8⟩ := err_zero he
    have h1 := encSp_le q.pos
    have h2 := encSp_le q.neg
    have h3 := encS_le q.schema
    have h4 := ThrPure.encT_length q.zero
    have h5 := (sides_in g7).1
    have h6 := (sides_in g8).1
    simp only [encH, List.length_append, nb_length]
    omega
  have hcb : (chunkB q []).length = (encH q).length := by unfold chunkB; rw [bitsB_nil, List.append_nil]
  have hsz := txt_size (allBits q [])
  have hab : (allBits q []).length = 16 + (chunkB q []).length := by unfold allBits; rw [List.length_append, nb_length]
  have HHD := Lib.hid (fun W (h : Below w.heap.size w W) => Law18B.heads_calls q p W (hx.below h))
  have HBT := Lib.hid (fun W (r : Lc) (h : HdIn W q r) => bits0_calls q r W h he)
  obtain ⟨x, hF⟩ := hk
  have HLA := Lib.hid (fun W (h : Below w.heap.size w W) => last_calls g S q [] x W (hF.below h))
  have HLE := Lib.hid (fun W (h : Below w.heap.size w W) => FcD.len_calls g S q [] x W (hF.below h))
  have HBI := Lib.hid (fun W (h : Below w.heap.size w W) => FcD.bits_calls g S q [] x W (hF.below h) (by omega))
  have HBY := Lib.hid (fun W (h : Below w.heap.size w W) => FcI.bytes_calls g S q [] x W (hF.below h) (by omega) (by decide))
  have HRB := Lib.hid (fun W => Ref01.bytes_calls (allBits q []) W (by omega))
  have HHE := Lib.hid (fun W (h : Below w.heap.size w W) => head_calls g S q [] x W (hF.below h))
  have HEQ := Lib.hid (fun W (h : Below w.heap.size w W) (r : Lc) (hr : HdIn W q r) => Equal_calls q q r p W hr (hx.below h))
  rw [show eqH q q = true from decide_eq_true rfl] at HEQ
  obtain ⟨n, hn⟩ : ∃ n, n = (chunkB q []).length := ⟨_, rfl⟩
  rw [← hn] at HBI hab hcb
  rw [hab] at hsz
  obtain ⟨sT, hT⟩ : ∃ s, s = txt (allBits q []) := ⟨_, rfl⟩
  obtain ⟨sB, hB⟩ : ∃ s, s = str (pack (allBits q [])) := ⟨_, rfl⟩
  have HRS := Lib.hid (fun (A : Option Addr) (c : Nat) W (hr : RdB W A (pack (allBits q []))) => RdB.string (P := Tryz.prog) (src := 51) (dst := 9) (e := 5) (c := c) hr rfl Tryz.underlying51 Tryz.underlying5 Tryz.underlying9)
  rw [← hT] at HBT HRB hsz
  rw [← hB] at HRB HRS
  obtain ⟨m16, hm16⟩ : ∃ m, m = 16 + n := ⟨_, rfl⟩
  rw [← hm16] at HBI hsz
  have d1 : ((m16 : Int) != (sT.size : Int)) = false := by rw [hsz]; simp
  have d1' : ((m16 : Int) == (sT.size : Int)) = true := by rw [hsz]; simp
  have hm17 : m16 ≤ 500000 := by omega
  have HD1 := Lib.hid hsz
  clear hle hcb hab hn hT hB hm16 he hF hsz
  obtain ⟨vr, hint, schema, zt, pos, neg⟩ := q
  obtain ⟨A, c, B, d⟩ := p
  obtain ⟨W0, hW0, hbk, hal⟩ : ∃ W0 : World, W0 = w.alloc (.cells #[.int .i64 vr, .int .i64 hint, .int .i64 schema, .int .u64 zt, .slice A pos.length c, .slice B neg.length d] 25) ∧ W0.heap[w.heap.size]? = some (.cells #[.int .i64 vr, .int .i64 hint, .int .i64 schema, .int .u64 zt, .slice A pos.length c, .slice B neg.length d] 25 (0, 0)) ∧ Below w.heap.size w W0 := ⟨_, rfl, blk_last w _, below_alloc (Below.refl _ _) _⟩
  have HCEL : Hid (∀ W : World, Below W0.heap.size W0 W → (W.cell? ⟨w.heap.size, 0, none⟩ = some (.int .i64 vr) ∧ W.cell? ⟨w.heap.size, 1, none⟩ = some (.int .i64 hint) ∧ W.cell? ⟨w.heap.size, 2, none⟩ = some (.int .i64 schema) ∧ W.cell? ⟨w.heap.size, 3, none⟩ = some (.int .u64 zt) ∧ W.cell? ⟨w.heap.size, 4, none⟩ = some (.slice A pos.length c) ∧ W.cell? ⟨w.heap.size, 5, none⟩ = some (.slice B neg.length d))) := Lib.hid (fun W h => by
    have hb := (h.block _ (blk_lt hbk)).trans hbk
    exact ⟨obj_cell hb rfl, obj_cell hb rfl, obj_cell hb rfl, obj_cell hb rfl, obj_cell hb rfl, obj_cell hb rfl⟩)
  have HEND := Lib.hid (fun W (hb : Below W0.heap.size W0 W) => below_then hal hal.size hb)
  have HW0 := Lib.hid hW0
  have HAL := Lib.hid hal
  have HXX := Lib.hid hx
  obtain ⟨k0, k1, k2, k3, k4, k5⟩ := HCEL.out W0 (Below.refl _ _)
  clear hx hbk hal hW0
  show Calls Tryz.prog 39 #[.pointer (some ⟨g, 0, none⟩), .agg #[.int .i64 vr, .int .i64 hint, .int .i64 schema, .int .u64 zt, .slice A pos.length c, .slice B neg.length d], .slice none 0 0] w _
  go_enter Tryz.func39, Tryz.ntmps39
  go_wp2_with (fail)
  rw [← HW0.out]
  refine (HHD.out _ HAL.out).mono ?_
  rintro e w1 ⟨r, rfl, hr, hb1⟩
  obtain ⟨A1, c1, B1, d1⟩ := r
  have HBX := Lib.hid (HBT.out w1 _ hr)
  have X1 := Lib.hid hb1
  clear hr hb1 k0 k1 k2 k3 k4 k5
  dsimp only [hcs]
  go_wp2_with (fail)
  refine HBX.out.mono ?_
  rintro e w2 ⟨rfl, hb2⟩
  have X2 := Lib.hid (below_then X1.out X1.out.size hb2)
  clear hb2 HBX
  go_wp2_with (fail)
  refine (HLA.out _ (HEND.out _ X2.out)).mono ?_
  rintro e w3 ⟨r, rfl, -, -, hb3⟩
  rw [lastS_nil, show (Ending.returned (.tuple #[.agg (scs ⟨0, ⟨0, 0, 0, 0, 0, [], [], [], []⟩⟩ r).toArray, .bool (decide (0 < ([] : List FS).length))])) = Ending.returned (.tuple #[.agg #[.int .i64 0, .int .i64 0, .int .u64 0, .int .u64 0, .int .u64 0, .int .u64 0, .slice r.A 0 r.c, .slice r.B 0 r.d, .slice r.C 0 r.cc, .slice r.D 0 r.dd], .bool false]) from rfl]
  obtain ⟨W3, hW3, hg3, hb3'⟩ : ∃ W : World, W = w3.alloc (.cells #[.int .i64 0, .int .i64 0, .int .u64 0, .int .u64 0, .int .u64 0, .int .u64 0, .slice r.A 0 r.c, .slice r.B 0 r.d, .slice r.C 0 r.cc, .slice r.D 0 r.dd] 74) ∧ W.heap[w3.heap.size]? = some (.cells #[.int .i64 0, .int .i64 0, .int .u64 0, .int .u64 0, .int .u64 0, .int .u64 0, .slice r.A 0 r.c, .slice r.B 0 r.d, .slice r.C 0 r.cc, .slice r.D 0 r.dd] 74 (0, 0)) ∧ Below W0.heap.size W0 W := ⟨_, rfl, blk_last w3 _, (below_then X2.out X2.out.size hb3).alloc (below_then X2.out X2.out.size hb3).size _⟩
  have HW3 := Lib.hid hW3
  have X3 := Lib.hid hb3'
  have HG3 := Lib.hid hg3
  have HS : Hid (∀ W : World, Below W3.heap.size W3 W → (Below W3.heap.size W3 W ∧ W.cell? ⟨w.heap.size, 0, none⟩ = some (.int .i64 vr) ∧ W.cell? ⟨w.heap.size, 1, none⟩ = some (.int .i64 hint) ∧ W.cell? ⟨w.heap.size, 2, none⟩ = some (.int .i64 schema) ∧ W.cell? ⟨w.heap.size, 3, none⟩ = some (.int .u64 zt) ∧ W.cell? ⟨w.heap.size, 4, none⟩ = some (.slice A pos.length c) ∧ W.cell? ⟨w.heap.size, 5, none⟩ = some (.slice B neg.length d))) := Lib.hid (fun W h => ⟨h, HCEL.out W (below_then hb3' hb3'.size h)⟩)
  have HEN3 := Lib.hid (fun W (h : Below W3.heap.size W3 W) => HEND.out W (below_then hb3' hb3'.size h))
  have hs0 := HS.out W3 (Below.refl _ _)
  have HLE : Hid (∀ W, Below W3.heap.size W3 W → Calls Tryz.prog 48 #[.pointer (some ⟨g, 0, none⟩)] W fun e w' => e = .returned (.int .i64 0) ∧ W = w') := Lib.hid (fun W h => HLE.out W (HEN3.out W h))
  have HBI := Lib.hid (fun W (h : Below W3.heap.size W3 W) => HBI.out W (HEN3.out W h))
  have HBY := Lib.hid (fun W (h : Below W3.heap.size W3 W) => HBY.out W (HEN3.out W h))
  have HHE := Lib.hid (fun W (h : Below W3.heap.size W3 W) => HHE.out W (HEN3.out W h))
  have HEQ := Lib.hid (fun W (h : Below W3.heap.size W3 W) r hr => HEQ.out W (HEN3.out W h) r hr)
  clear hb3 hW3 hg3 hb3'
  go_wp2_with (fail)
  rw [← HW3.out]
  go_region_held_law (fun W => Below W3.heap.size W3 W ∧ W.cell? ⟨w.heap.size, 0, none⟩ = some (.int .i64 vr) ∧ W.cell? ⟨w.heap.size, 1, none⟩ = some (.int .i64 hint) ∧ W.cell? ⟨w.heap.size, 2, none⟩ = some (.int .i64 schema) ∧ W.cell? ⟨w.heap.size, 3, none⟩ = some (.int .u64 zt) ∧ W.cell? ⟨w.heap.size, 4, none⟩ = some (.slice A pos.length c) ∧ W.cell? ⟨w.heap.size, 5, none⟩ = some (.slice B neg.length d))
    (first | (with_reducible exact HS.out _ (below_drew (Below.refl _ _))) | (with_reducible exact HS.out _ hb63) | (with_reducible exact HS.out _ hb62) | (with_reducible exact HS.out _ hb61) | (with_reducible exact HS.out _ hb60) | assumption)
    (first
    | (go_at_call 48; refine (HLE.out _ (And.left (by assumption))).mono ?_; rintro e w58 ⟨rfl, rfl⟩)
    | (go_at_call 40; refine (HBI.out _ (And.left (by assumption))).mono ?_; rintro e w59 ⟨rfl, rfl⟩)
    | (go_at_call 51; refine (HBY.out _ (And.left (by assumption))).mono ?_; rintro e w60 ⟨v, rfl, ho, hbx⟩; have hb60 : Below W3.heap.size W3 w60 := below_then (And.left (by assumption)) (And.left (by assumption) : Below W3.heap.size W3 _).size hbx; obtain ⟨Dv, dv, rfl, -, hrv⟩ := ho.reads; have hcv := fun W (h : Below w60.heap.size w60 W) => HRS.out Dv dv W (hrv.below h); have hb6060 := Below.refl w60.heap.size w60)
    | (go_at_call 103; refine (HRB.out _).mono ?_; rintro e w61 ⟨rfl, hby⟩; have hb61 : Below W3.heap.size W3 w61 := below_then hb60 hb60.size hby)
    | (go_at_call 104; refine (HHE.out _ hb61).mono ?_; rintro e w62 ⟨⟨A5, c5, B5, d5⟩, rfl, hr62, hbz⟩; have hb62 : Below W3.heap.size W3 w62 := below_then hb61 hb61.size hbz)
    | (go_at_call 29; refine (HEQ.out _ hb62 _ hr62).mono ?_; rintro e w63 ⟨rfl, hbu⟩; have hb63 : Below W3.heap.size W3 w63 := below_then hb62 hb62.size hbu))
  all_goals (
    have X9 := Lib.hid (HEN3.out _ hb63)
    have hgz := (hb63.block _ (blk_lt HG3.out)).trans HG3.out
    have z0 : w63.cell? ⟨w3.heap.size, 0, none⟩ = some (.int .i64 0) := obj_cell hgz rfl
    have z4 : w63.cell? ⟨w3.heap.size, 4, none⟩ = some (.int .u64 0) := obj_cell hgz rfl
    have z6 : w63.cell? ⟨w3.heap.size, 6, none⟩ = some (.slice r.A 0 r.c) := obj_cell hgz rfl
    clear hb63 hb62 hb61 hb60 hbx hby hbz hbu hr62 hcv hb6060 hrv ho hgz
    go_wp2
    go_ret
    exact ⟨rfl, X9.out⟩)
end Go.Proofs.YtjfekjbmgckkcaaGreatDoor.Law18D

/- what head asks of the world, out of the row's condition. -/
namespace Go.Proofs.YtjfekjbmgckkcaaGreatDoor.HeadLaid
open Go.RowKit Go.Proofs.YtjfekjbmgckkcaaGreatDoorW.PrintWords
open Go.Proofs.YtjfekjbmgckkcaaGreatDoor.Base Go.Proofs.YtjfekjbmgckkcaaGreatDoor.VarPure Go.Proofs.YtjfekjbmgckkcaaGreatDoor.VarbitA Go.Proofs.YtjfekjbmgckkcaaGreatDoor.FailAs Go.Proofs.YtjfekjbmgckkcaaGreatDoor.FailD

abbrev laidAll : List (String × DataW Unit) := [("errors.errorType", Rows.laid_errors_errorType), ("tidepole/varbit.behinds", Rows.laid_tidepole_varbit_behinds)]
theorem rt : (Tryz.prog.cutTypes.find? (·.1 == "internal/reflectlite.rtype")).map (·.2) = some 290 := by kernel_rfl
theorem gEt : Tryz.prog.globalNamed "errors.errorType" = some 0 := by kernel_rfl
theorem oneRow : ((List.range 373).filter fun t => Tryz.prog.rowNamed t [101, 114, 114, 111, 114]) = [34] := by kernel_rfl
theorem tySize : Tryz.prog.types.size = 373 := by kernel_rfl
theorem split_laid (w : World) : laidMetH Tryz.prog laidAll w = (laidMet Tryz.prog [("tidepole/varbit.behinds", Rows.laid_tidepole_varbit_behinds)] w ∧ handlesMet Tryz.prog [("errors.errorType", Rows.laid_errors_errorType)] w) := by kernel_rfl
theorem handle_of {w : World} (h : handlesMet Tryz.prog [("errors.errorType", Rows.laid_errors_errorType)] w) : GlE w := by
  have h1 : ∃ name u ty, (Rows.laid_errors_errorType (H := Unit)).handleName? = some name ∧ (Tryz.prog.cutTypes.find? (·.1 == "internal/reflectlite.rtype")).map (·.2) = some u ∧ ty < Tryz.prog.types.size ∧ Tryz.prog.rowNamed ty name = true ∧ w.var? Tryz.prog "errors.errorType" = some #[.iface u (.agg #[typeHandle Tryz.prog ty])] := h _ (List.mem_singleton.2 rfl)
  obtain ⟨name, u, ty, e1, e2, e3, e4, e5⟩ := h1
  have en : name = [101, 114, 114, 111, 114] := (Option.some.inj e1).symm
  subst en
  obtain rfl := Option.some.inj (rt.symm.trans e2)
  have hm : ty ∈ (List.range 373).filter fun t => Tryz.prog.rowNamed t [101, 114, 114, 111, 114] := List.mem_filter.2 ⟨List.mem_range.2 (by rw [← tySize]; exact e3), e4⟩
  rw [oneRow] at hm
  obtain rfl := List.mem_singleton.1 hm
  have hh : typeHandle Tryz.prog 34 = .pointer (some ⟨3, 34, none⟩) := by kernel_rfl
  rw [hh] at e5
  simpa [GlE] using World.var?_cell gEt e5 0
theorem tab_met {w : World} (h2 : laidMet Tryz.prog [("tidepole/varbit.behinds", Lib.tabData .i64 ([0, 3, 6, 9, 12, 18, 25, 56, 64].map Int.ofNat))] w) : Tab w := by
  have hv := Lib.tabIs_of_head gTab tTab Tryz.underlying269 Tryz.underlying3 cEl cTab h2
  intro j hj
  have := World.var?_cell gTab hv j
  rw [this]
  have : j = 0 ∨ j = 1 ∨ j = 2 ∨ j = 3 ∨ j = 4 ∨ j = 5 ∨ j = 6 ∨ j = 7 ∨ j = 8 := by omega
  rcases this with rfl | rfl | rfl | rfl | rfl | rfl | rfl | rfl | rfl <;> rfl
theorem of_laid {w : World} (h : laidMetH Tryz.prog laidAll w) : Tab w ∧ GlE w := by
  rw [split_laid] at h
  exact ⟨tab_met h.1, handle_of h.2⟩
theorem wf_in {n : Int} (h : (Lit.int .i64 n).wf = true) : -9223372036854775808 ≤ n ∧ n ≤ 9223372036854775807 := by
  simp [Lit.wf, IntKind.min, IntKind.max, IntKind.bits, IntKind.signed] at h
  omega
end Go.Proofs.YtjfekjbmgckkcaaGreatDoor.HeadLaid

/- what fchunk asks of the world, out of the row's condition. -/
namespace Go.Proofs.YtjfekjbmgckkcaaGreatDoor.Law18L
open Go.RowKit Go.Proofs.YtjfekjbmgckkcaaGreatDoorW.PrintWords
open Go.Proofs.YtjfekjbmgckkcaaGreatDoor.Base Go.Proofs.YtjfekjbmgckkcaaGreatDoor.VarPure Go.Proofs.YtjfekjbmgckkcaaGreatDoor.VarbitA Go.Proofs.YtjfekjbmgckkcaaGreatDoor.FailAs Go.Proofs.YtjfekjbmgckkcaaGreatDoor.FailD Go.Proofs.YtjfekjbmgckkcaaGreatDoor.HeadLaid Go.Proofs.YtjfekjbmgckkcaaGreatDoor.XorA

abbrev laidF : List (String × DataW Unit) := [("math/bits.deBruijn64tab", Rows.laid_math_bits_deBruijn64tab), ("errors.errorType", Rows.laid_errors_errorType), ("tidepole/varbit.behinds", Rows.laid_tidepole_varbit_behinds)]
theorem gDb : Tryz.prog.globalNamed "math/bits.deBruijn64tab" = some 2 := by kernel_rfl
theorem tDb : (Tryz.prog.globals[2]?).map (·.type) = some 318 := by kernel_rfl
theorem cDb : Tryz.prog.cellsOf 318 = 64 := by kernel_rfl
theorem cU8 : Tryz.prog.cellsOf 5 = 1 := by kernel_rfl
theorem split_laidF (w : World) : laidMetH Tryz.prog laidF w = (laidMet Tryz.prog [("math/bits.deBruijn64tab", Rows.laid_math_bits_deBruijn64tab), ("tidepole/varbit.behinds", Rows.laid_tidepole_varbit_behinds)] w ∧ handlesMet Tryz.prog [("errors.errorType", Rows.laid_errors_errorType)] w) := by kernel_rfl
theorem db_data : (Rows.laid_math_bits_deBruijn64tab : DataW Unit) = Lib.tabData .u8 (Lib.deBruijn64tab.map Int.ofNat) := by kernel_rfl
theorem tz_met {w : World} (h : laidMet Tryz.prog (("math/bits.deBruijn64tab", Lib.tabData .u8 (Lib.deBruijn64tab.map Int.ofNat)) :: [("tidepole/varbit.behinds", Rows.laid_tidepole_varbit_behinds)]) w) : Tz w := by
  have hv := Lib.tabIs_of_head gDb tDb Tryz.underlying318 Tryz.underlying5 cU8 cDb h
  intro j hj
  have := World.var?_cell gDb hv j
  rw [this]
  have hl : Lib.deBruijn64tab.length = 64 := by decide
  simp [List.getD_eq_getElem?_getD, hl, hj]
theorem of_laidF {w : World} (h : laidMetH Tryz.prog laidF w) : Tab w ∧ GlE w ∧ Tz w := by
  rw [split_laidF] at h
  obtain ⟨h1, h2⟩ := h
  have h3 := h1
  rw [db_data] at h3
  exact ⟨tab_met h1.tail, handle_of h2, tz_met h3⟩
end Go.Proofs.YtjfekjbmgckkcaaGreatDoor.Law18L

/- law 18: any head that is right, and of floats, makes a chunk with just its bits; others are refused. -/
namespace Go.Proofs.YtjfekjbmgckkcaaGreatDoor.FchunkMakes
open Go.RowKit Go.Proofs.YtjfekjbmgckkcaaGreatDoorW.PrintWords
open Go.Proofs.YtjfekjbmgckkcaaGreatDoor.Bits Go.Proofs.YtjfekjbmgckkcaaGreatDoor.Base Go.Proofs.YtjfekjbmgckkcaaGreatDoor.VarPure Go.Proofs.YtjfekjbmgckkcaaGreatDoor.VarbitA Go.Proofs.YtjfekjbmgckkcaaGreatDoor.VarKit Go.Proofs.YtjfekjbmgckkcaaGreatDoor.StreamA Go.Proofs.YtjfekjbmgckkcaaGreatDoor.SpanPure Go.Proofs.YtjfekjbmgckkcaaGreatDoor.SpanBase Go.Proofs.YtjfekjbmgckkcaaGreatDoor.FailAs Go.Proofs.YtjfekjbmgckkcaaGreatDoor.FailB Go.Proofs.YtjfekjbmgckkcaaGreatDoor.FailC Go.Proofs.YtjfekjbmgckkcaaGreatDoor.HeadA Go.Proofs.YtjfekjbmgckkcaaGreatDoor.HeadB Go.Proofs.YtjfekjbmgckkcaaGreatDoor.HeadC Go.Proofs.YtjfekjbmgckkcaaGreatDoor.HeadE Go.Proofs.YtjfekjbmgckkcaaGreatDoor.HeadPure Go.Proofs.YtjfekjbmgckkcaaGreatDoor.Ref12 Go.Proofs.YtjfekjbmgckkcaaGreatDoor.Ref14A Go.Proofs.YtjfekjbmgckkcaaGreatDoor.XorA Go.Proofs.YtjfekjbmgckkcaaGreatDoor.FcObj Go.Proofs.YtjfekjbmgckkcaaGreatDoor.FcG Go.Proofs.YtjfekjbmgckkcaaGreatDoor.Law14A Go.Proofs.YtjfekjbmgckkcaaGreatDoor.Law18B Go.Proofs.YtjfekjbmgckkcaaGreatDoor.Law18C Go.Proofs.YtjfekjbmgckkcaaGreatDoor.Law18D Go.Proofs.YtjfekjbmgckkcaaGreatDoor.Law18L Go.Proofs.YtjfekjbmgckkcaaGreatDoor.HdArg Go.Proofs.YtjfekjbmgckkcaaGreatDoor.HeadLaid Go.Proofs.YtjfekjbmgckkcaaGreatDoor.LawBase

/-- inputs that are too great. -/
theorem narrow (q : Hd) (p : Lc) (w : World) (hT : Tab w) (hE : GlE w) (hZ : Tz w) (hx : HdRd w q p) (hf : (few q.pos && few q.neg) = false) :
    Calls Tryz.prog 5 #[.agg (hcs q p).toArray] w fun e w' => e = .returned (.bool true) ∧ Below w.heap.size w w' := by
  obtain ⟨vr, hint, schema, zt, pos, neg⟩ := q
  obtain ⟨A, c, B, d⟩ := p
  show Calls Tryz.prog 5 #[.agg #[.int .i64 vr, .int .i64 hint, .int .i64 schema, .int .u64 zt, .slice A pos.length c, .slice B neg.length d]] w _
  obtain ⟨W0, hW0, hbk, hal⟩ : ∃ W0 : World, W0 = w.alloc (.cells #[.int .i64 vr, .int .i64 hint, .int .i64 schema, .int .u64 zt, .slice A pos.length c, .slice B neg.length d] 25) ∧ W0.heap[w.heap.size]? = some (.cells #[.int .i64 vr, .int .i64 hint, .int .i64 schema, .int .u64 zt, .slice A pos.length c, .slice B neg.length d] 25 (0, 0)) ∧ Below w.heap.size w W0 := ⟨_, rfl, blk_last w _, below_alloc (Below.refl _ _) _⟩
  have HCEL : Hid (∀ W : World, Below W0.heap.size W0 W → (W.cell? ⟨w.heap.size, 0, none⟩ = some (.int .i64 vr) ∧ W.cell? ⟨w.heap.size, 1, none⟩ = some (.int .i64 hint) ∧ W.cell? ⟨w.heap.size, 2, none⟩ = some (.int .i64 schema) ∧ W.cell? ⟨w.heap.size, 3, none⟩ = some (.int .u64 zt) ∧ W.cell? ⟨w.heap.size, 4, none⟩ = some (.slice A pos.length c) ∧ W.cell? ⟨w.heap.size, 5, none⟩ = some (.slice B neg.length d))) := Lib.hid (fun W h => by
    have hb := (h.block _ (blk_lt hbk)).trans hbk
    exact ⟨obj_cell hb rfl, obj_cell hb rfl, obj_cell hb rfl, obj_cell hb rfl, obj_cell hb rfl, obj_cell hb rfl⟩)
  have HEND := Lib.hid (fun W (hb : Below W0.heap.size W0 W) => below_then hal hal.size hb)
  have HSM := Lib.hid (small0_calls ⟨vr, hint, schema, zt, pos, neg⟩ ⟨A, c, B, d⟩ W0 ((hx.below hal)))
  have HAW := Lib.hid (fun W (hb : Below W0.heap.size W0 W) => Law18C.awake_calls W (hT.below (below_then hal hal.size hb)) (gle_below hE (below_then hal hal.size hb)) (hZ.below (below_then hal hal.size hb)))
  have HW0 := Lib.hid hW0
  simp only at hf HSM
  rw [hf] at HSM
  obtain ⟨k0, k1, k2, k3, k4, k5⟩ := HCEL.out _ (Below.refl _ _)
  clear hx hf hbk hal hW0 hT hE hZ
  go_enter Tryz.func5, Tryz.ntmps5
  go_wp2_with (fail)
  rw [← HW0.out]
  refine HSM.out.mono ?_
  rintro e w1 ⟨rfl, hb⟩
  have B1 := Lib.hid hb
  obtain ⟨k0, k1, k2, k3, k4, k5⟩ := HCEL.out _ hb
  clear hb HSM
  clear k0 k1 k2 k3 k4 k5
  go_wp2_with (fail)
  refine (HAW.out _ B1.out).mono ?_
  rintro e w2 ⟨rfl, hb⟩
  have B2 := Lib.hid (HEND.out _ (below_then B1.out B1.out.size hb))
  clear hb
  go_wp2
  go_ret
  exact ⟨rfl, B2.out⟩
set_option maxRecDepth 100000 in
set_option maxHeartbeats 1600000 in
theorem core (q : Hd) (p : Lc) (w : World) (hT : Tab w) (hE : GlE w) (hZ : Tz w) (hx : HdIn w q p) (hd : HdRd w q p) (hf : (few q.pos && few q.neg) = true) :
    Calls Tryz.prog 5 #[.agg (hcs q p).toArray] w fun e w' => e = .returned (.bool true) ∧ Below w.heap.size w w' := by
  obtain ⟨vr, hint, schema, zt, pos, neg⟩ := q
  obtain ⟨A, c, B, d⟩ := p
  show Calls Tryz.prog 5 #[.agg #[.int .i64 vr, .int .i64 hint, .int .i64 schema, .int .u64 zt, .slice A pos.length c, .slice B neg.length d]] w _
  obtain ⟨W0, hW0, hbk, hal⟩ : ∃ W0 : World, W0 = w.alloc (.cells #[.int .i64 vr, .int .i64 hint, .int .i64 schema, .int .u64 zt, .slice A pos.length c, .slice B neg.length d] 25) ∧ W0.heap[w.heap.size]? = some (.cells #[.int .i64 vr, .int .i64 hint, .int .i64 schema, .int .u64 zt, .slice A pos.length c, .slice B neg.length d] 25 (0, 0)) ∧ Below w.heap.size w W0 := ⟨_, rfl, blk_last w _, below_alloc (Below.refl _ _) _⟩
  have HCEL : Hid (∀ W : World, Below W0.heap.size W0 W → (W.cell? ⟨w.heap.size, 0, none⟩ = some (.int .i64 vr) ∧ W.cell? ⟨w.heap.size, 1, none⟩ = some (.int .i64 hint) ∧ W.cell? ⟨w.heap.size, 2, none⟩ = some (.int .i64 schema) ∧ W.cell? ⟨w.heap.size, 3, none⟩ = some (.int .u64 zt) ∧ W.cell? ⟨w.heap.size, 4, none⟩ = some (.slice A pos.length c) ∧ W.cell? ⟨w.heap.size, 5, none⟩ = some (.slice B neg.length d))) := Lib.hid (fun W h => by
    have hb := (h.block _ (blk_lt hbk)).trans hbk
    exact ⟨obj_cell hb rfl, obj_cell hb rfl, obj_cell hb rfl, obj_cell hb rfl, obj_cell hb rfl, obj_cell hb rfl⟩)
  have HEND := Lib.hid (fun W (hb : Below W0.heap.size W0 W) => below_then hal hal.size hb)
  have HSM := Lib.hid (small0_calls ⟨vr, hint, schema, zt, pos, neg⟩ ⟨A, c, B, d⟩ W0 ((hd.below hal)))
  have HAW := Lib.hid (fun W (hb : Below W0.heap.size W0 W) => Law18C.awake_calls W (hT.below (below_then hal hal.size hb)) (gle_below hE (below_then hal hal.size hb)) (hZ.below (below_then hal hal.size hb)))
  have HW0 := Lib.hid hW0
  simp only at hf HSM
  rw [hf] at HSM
  have HNEW := Lib.hid (fun W (h : Below W0.heap.size W0 W) => new_calls ⟨vr, hint, schema, zt, pos, neg⟩ ⟨A, c, B, d⟩ W ((hx.below hal).below h) (gle_below hE (below_then hal hal.size h)) (hT.below (below_then hal hal.size h)))
  have HHD := Lib.hid (fun W (h : Below W0.heap.size W0 W) => heads_calls ⟨vr, hint, schema, zt, pos, neg⟩ ⟨A, c, B, d⟩ W ((hx.below hal).below h))
  have HXX := Lib.hid (fun W (h : Below W0.heap.size W0 W) => (hx.below hal).below h)
  obtain ⟨k0, k1, k2, k3, k4, k5⟩ := HCEL.out _ (Below.refl _ _)
  clear hx hd hf hbk hal hW0 hT hE hZ
  go_enter Tryz.func5, Tryz.ntmps5
  go_wp2_with (fail)
  rw [← HW0.out]
  refine HSM.out.mono ?_
  rintro e w1 ⟨rfl, hb⟩
  have B1 := Lib.hid hb
  obtain ⟨k0, k1, k2, k3, k4, k5⟩ := HCEL.out _ hb
  clear hb HSM
  go_wp2_with (fail)
  refine (HNEW.out _ B1.out).mono ?_
  rintro e w2 ⟨hb2, hcase⟩
  have B2 := Lib.hid (below_then B1.out B1.out.size hb2)
  clear hb2 k0 k1 k2 k3 k4 k5
  rcases hcase with ⟨h0, v, rfl, he⟩ | ⟨h0, hv, v, rfl, he⟩ | ⟨h0, hv, g, S, rfl, hk, -⟩
  · have E2 := Lib.hid he
    have HRE := Lib.hid (HHD.out _ B2.out)
    obtain ⟨k0, k1, k2, k3, k4, k5⟩ := HCEL.out _ B2.out
    go_wp2_with (fail)
    refine HRE.out.mono ?_
    rintro e w3 ⟨⟨qa, qc, qb, qd⟩, rfl, hq, hb⟩
    have B3 := Lib.hid (below_then B2.out B2.out.size hb)
    have C3 := Lib.hid hb
    have HC := Lib.hid (Check14_calls ⟨vr, hint, schema, zt, pos, neg⟩ ⟨qa, qc, qb, qd⟩ w3 hq)
    clear hq hb HRE k0 k1 k2 k3 k4 k5
    dsimp only [hcs]
    go_wp2_with (fail)
    refine HC.out.mono ?_
    rintro e w4 ⟨rfl, hb⟩
    have C4 := Lib.hid (below_then C3.out C3.out.size hb)
    have B4 := Lib.hid (below_then B3.out B3.out.size hb)
    clear hb HC
    obtain ⟨ep, hep⟩ : ∃ ep, ep = headErr ⟨vr, hint, schema, zt, pos, neg⟩ := ⟨_, rfl⟩
    rw [← hep] at E2 h0 ⊢
    obtain ⟨ec, en⟩ := ep
    simp only at E2 h0 ⊢
    rw [show Ref14A.wr ec en 0 = .agg #[.int .i64 ec, .string en, .int .i64 0] from if_neg h0]
    obtain ⟨W5, hW5, hg5, hb5⟩ : ∃ W : World, W = w4.alloc (.cells #[.int .i64 ec, .string en, .int .i64 0] 37) ∧ W.heap[w4.heap.size]? = some (.cells #[.int .i64 ec, .string en, .int .i64 0] 37 (0, 0)) ∧ Below w4.heap.size w4 W := ⟨_, rfl, blk_last w4 _, below_alloc (Below.refl _ _) _⟩
    have B5 := Lib.hid (below_then B4.out B4.out.size hb5)
    have C5 := Lib.hid (below_then C4.out C4.out.size hb5)
    have he5 := E2.out.below C5.out
    have HTL : Hid (Calls Tryz.prog 38 #[v, .agg #[.int .i64 ec, .string en, .int .i64 0]] W5 fun e w' => e = .returned (.bool true) ∧ Below W5.heap.size W5 w') := Lib.hid (Law18A.tells_calls v ec en 0 W5 he5 h0)
    obtain ⟨ge, rfl⟩ := err_some (by omega) he5
    have d0 : ((ec : Int) == 0) = false := by simp; omega
    have d0' : ((ec : Int) != 0) = true := by simp; omega
    have HW5 := Lib.hid hW5
    have r0 : (w4.alloc (.cells #[.int .i64 ec, .string en, .int .i64 0] 37)).heap.size = w4.heap.size + 1 := by simp
    clear hep he he5 h0 hW5 hg5 hb5 r0 E2
    go_wp2_with (fail)
    rw [← HW5.out]
    refine HTL.out.mono ?_
    rintro e w6 ⟨rfl, hb⟩
    have B6 := Lib.hid (below_then B5.out B5.out.size hb)
    clear hb HTL
    go_wp2_with (fail)
    refine (HAW.out _ B6.out).mono ?_
    rintro e w7 ⟨rfl, hb⟩
    have B7 := Lib.hid (HEND.out _ (below_then B6.out B6.out.size hb))
    clear hb
    go_wp2
    go_ret
    exact ⟨rfl, B7.out⟩
  · have E2 := Lib.hid he
    have e1 : (vr != 1) = true := by simpa using hv
    have H0 := Lib.hid h0
    have HRE := Lib.hid (HHD.out _ B2.out)
    obtain ⟨k0, k1, k2, k3, k4, k5⟩ := HCEL.out _ B2.out
    go_wp2_with (fail)
    refine HRE.out.mono ?_
    rintro e w3 ⟨⟨qa, qc, qb, qd⟩, rfl, hq, hb⟩
    have B3 := Lib.hid (below_then B2.out B2.out.size hb)
    have C3 := Lib.hid hb
    have HC := Lib.hid (Check14_calls ⟨vr, hint, schema, zt, pos, neg⟩ ⟨qa, qc, qb, qd⟩ w3 hq)
    clear hq hb HRE k0 k1 k2 k3 k4 k5
    dsimp only [hcs]
    go_wp2_with (fail)
    refine HC.out.mono ?_
    rintro e w4 ⟨rfl, hb⟩
    have C4 := Lib.hid (below_then C3.out C3.out.size hb)
    have B4 := Lib.hid (below_then B3.out B3.out.size hb)
    clear hb HC
    rw [H0.out, show Ref14A.wr 0 (headErr ⟨vr, hint, schema, zt, pos, neg⟩).2 0 = .agg #[.int .i64 0, .string ⟨#[]⟩, .int .i64 0] from rfl]
    obtain ⟨W5, hW5, hb5⟩ : ∃ W : World, W = w4.alloc (.cells #[.int .i64 25, .string ⟨#[118, 97, 114, 105, 97, 110, 116]⟩, .int .i64 0] 37) ∧ Below w4.heap.size w4 W := ⟨_, rfl, below_alloc (Below.refl _ _) _⟩
    have B5 := Lib.hid (below_then B4.out B4.out.size hb5)
    have C5 := Lib.hid (below_then C4.out C4.out.size hb5)
    have HTL : Hid (Calls Tryz.prog 38 #[v, .agg #[.int .i64 25, .string ⟨#[118, 97, 114, 105, 97, 110, 116]⟩, .int .i64 0]] W5 fun e w' => e = .returned (.bool true) ∧ Below W5.heap.size W5 w') := Lib.hid (Law18A.tells_calls v 25 pVariant 0 W5 (E2.out.below C5.out) (by decide))
    have HW5 := Lib.hid hW5
    obtain ⟨k0, k1, k2, k3, k4, k5⟩ := HCEL.out _ B4.out
    have hw4 : w.heap.size < w4.heap.size := Nat.lt_of_lt_of_le (World.block_lt_of_cell? W0 _ (HCEL.out _ (Below.refl _ _)).1) B4.out.size
    obtain ⟨ge, rfl⟩ := err_some (by decide) E2.out
    clear hW5 hb5 h0 hv he E2
    go_wp2_with (fail)
    rw [← HW5.out]
    refine HTL.out.mono ?_
    rintro e w6 ⟨rfl, hb⟩
    have B6 := Lib.hid (below_then B5.out B5.out.size hb)
    clear hb HTL k0 k1 k2 k3 k4 k5
    go_wp2_with (fail)
    refine (HAW.out _ B6.out).mono ?_
    rintro e w7 ⟨rfl, hb⟩
    have B7 := Lib.hid (HEND.out _ (below_then B6.out B6.out.size hb))
    clear hb
    go_wp2
    go_ret
    exact ⟨rfl, B7.out⟩
  · have K2 := Lib.hid hk
    have e1 : (vr != 1) = false := by simpa using hv
    have H0 := Lib.hid h0
    clear hv
    have HRE := Lib.hid (HHD.out _ B2.out)
    obtain ⟨k0, k1, k2, k3, k4, k5⟩ := HCEL.out _ B2.out
    go_wp2_with (fail)
    refine HRE.out.mono ?_
    rintro e w3 ⟨⟨qa, qc, qb, qd⟩, rfl, hq, hb⟩
    have B3 := Lib.hid (below_then B2.out B2.out.size hb)
    have C3 := Lib.hid hb
    have HC := Lib.hid (Check14_calls ⟨vr, hint, schema, zt, pos, neg⟩ ⟨qa, qc, qb, qd⟩ w3 hq)
    clear hq hb HRE k0 k1 k2 k3 k4 k5
    dsimp only [hcs]
    go_wp2_with (fail)
    refine HC.out.mono ?_
    rintro e w4 ⟨rfl, hb⟩
    have C4 := Lib.hid (below_then C3.out C3.out.size hb)
    have B4 := Lib.hid (below_then B3.out B3.out.size hb)
    clear hb HC
    rw [H0.out, show Ref14A.wr 0 (headErr ⟨vr, hint, schema, zt, pos, neg⟩).2 0 = .agg #[.int .i64 0, .string ⟨#[]⟩, .int .i64 0] from rfl]
    obtain ⟨W5, hW5, hb5⟩ : ∃ W : World, W = w4.alloc (.cells #[.int .i64 0, .string ⟨#[]⟩, .int .i64 0] 37) ∧ Below w4.heap.size w4 W := ⟨_, rfl, below_alloc (Below.refl _ _) _⟩
    have B5 := Lib.hid (below_then B4.out B4.out.size hb5)
    have C5 := Lib.hid (below_then C4.out C4.out.size hb5)
    have HIS := Lib.hid (is0_calls g S ⟨vr, hint, schema, zt, pos, neg⟩ ⟨A, c, B, d⟩ W5 (K2.out.below C5.out) (HXX.out _ B5.out) h0)
    have HW5 := Lib.hid hW5
    obtain ⟨k0, k1, k2, k3, k4, k5⟩ := HCEL.out _ B4.out
    have hw4 : w.heap.size < w4.heap.size := Nat.lt_of_lt_of_le (World.block_lt_of_cell? W0 _ (HCEL.out _ (Below.refl _ _)).1) B4.out.size
    clear hW5 hb5 h0 hk
    go_wp2_with (fail)
    rw [← HW5.out]
    refine HIS.out.mono ?_
    rintro e w6 ⟨rfl, hb⟩
    have B6 := Lib.hid (below_then B5.out B5.out.size hb)
    clear hb HIS k0 k1 k2 k3 k4 k5
    go_wp2_with (fail)
    refine (HAW.out _ B6.out).mono ?_
    rintro e w7 ⟨rfl, hb⟩
    have B7 := Lib.hid (HEND.out _ (below_then B6.out B6.out.size hb))
    clear hb
    go_wp2
    go_ret
    exact ⟨rfl, B7.out⟩
theorem walk (x : Int × Int × Int × Int × Rep.Sl (Int × Int) × Rep.Sl (Int × Int)) (w : World) (hx : rHd.ok w x) (hL : laidMetH Tryz.prog laidF w) :
    Calls Tryz.prog 5 #[.agg (rHd.enc x).toArray] w fun e w' => e = .returned (.bool true) ∧ Below w.heap.size w w' := by
  obtain ⟨hT, hE, hZ⟩ := of_laidF hL
  obtain ⟨e1, x1, -⟩ := enc_hd hx
  rw [e1]
  cases f1 : few (hdOf x).pos with
  | false => exact narrow _ _ w hT hE hZ x1 (by rw [f1]; rfl)
  | true =>
    cases f2 : few (hdOf x).neg with
    | false => exact narrow _ _ w hT hE hZ x1 (by rw [f1, f2]; rfl)
    | true => exact core _ _ w hT hE hZ (hdin_of hx f1 f2) x1 (by rw [f1, f2]; rfl)
end Go.Proofs.YtjfekjbmgckkcaaGreatDoor.FchunkMakes
