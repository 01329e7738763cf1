/- what FchunkStill stands on, part 3. -/
import Derived.Test.YtjfekjbmgckkcaaGreatDoorPartFchunkStillB
import Derived.Test.YtjfekjbmgckkcaaGreatDoorPartFchunkStillA
import Derived.Test.YtjfekjbmgckkcaaGreatDoorProg
import Derived.ProofKit
import Derived.LaidMore
import Derived.Lib.LaidTab
import Derived.Test.YtjfekjbmgckkcaaGreatDoorRows
import Derived.Stop.LaidErr
import Derived.OwnWalk
namespace Go.Proofs.YtjfekjbmgckkcaaGreatDoor.FcH
open Go.RowKit Go.Proofs.YtjfekjbmgckkcaaGreatDoorW.PrintWords
open Go.Proofs.YtjfekjbmgckkcaaGreatDoor.Bits Go.Proofs.YtjfekjbmgckkcaaGreatDoor.Base Go.Proofs.YtjfekjbmgckkcaaGreatDoor.VarPure Go.Proofs.YtjfekjbmgckkcaaGreatDoor.VarbitA Go.Proofs.YtjfekjbmgckkcaaGreatDoor.VarKit Go.Proofs.YtjfekjbmgckkcaaGreatDoor.StreamPure Go.Proofs.YtjfekjbmgckkcaaGreatDoor.StreamA Go.Proofs.YtjfekjbmgckkcaaGreatDoor.TimesPure Go.Proofs.YtjfekjbmgckkcaaGreatDoor.TimesA Go.Proofs.YtjfekjbmgckkcaaGreatDoor.Ref12 Go.Proofs.YtjfekjbmgckkcaaGreatDoor.Ref13 Go.Proofs.YtjfekjbmgckkcaaGreatDoor.SpanPure Go.Proofs.YtjfekjbmgckkcaaGreatDoor.SpanBase Go.Proofs.YtjfekjbmgckkcaaGreatDoor.HeadA Go.Proofs.YtjfekjbmgckkcaaGreatDoor.HeadB Go.Proofs.YtjfekjbmgckkcaaGreatDoor.HeadPure Go.Proofs.YtjfekjbmgckkcaaGreatDoor.XorPure Go.Proofs.YtjfekjbmgckkcaaGreatDoor.XorB Go.Proofs.YtjfekjbmgckkcaaGreatDoor.FcPure Go.Proofs.YtjfekjbmgckkcaaGreatDoor.FcObj Go.Proofs.YtjfekjbmgckkcaaGreatDoor.FcA Go.Proofs.YtjfekjbmgckkcaaGreatDoor.FcB Go.Proofs.YtjfekjbmgckkcaaGreatDoor.FcD Go.Proofs.YtjfekjbmgckkcaaGreatDoor.FcE
set_option maxHeartbeats 800000 in
theorem head_calls (g : Nat) (S : Nat → Prop) (q : Hd) (l : List FS) (x : FkL) (w : World) (hF : Fk w g S q l x) :
    Calls Tryz.prog 104 #[.pointer (some ⟨g, 0, none⟩)] w fun e w' => ∃ r : Lc, e = .returned (.agg (hcs q r).toArray) ∧ HdIn w' q r ∧ Below w.heap.size w w' := by
  have hobj := hF.obj
  rw [kcs_eq] at hobj
  have c0 : w.cell? ⟨g, 0, none⟩ = some (.int .i64 q.vr) := obj_cell hobj rfl
  have c1 : w.cell? ⟨g, 1, none⟩ = some (.int .i64 q.hint) := obj_cell hobj rfl
  have c2 : w.cell? ⟨g, 2, none⟩ = some (.int .i64 q.schema) := obj_cell hobj rfl
  have c3 : w.cell? ⟨g, 3, none⟩ = some (.int .u64 q.zero) := obj_cell hobj rfl
  have c4 : w.cell? ⟨g, 4, none⟩ = some (.slice x.p.A q.pos.length x.p.c) := obj_cell hobj rfl
  have c5 : w.cell? ⟨g, 5, none⟩ = some (.slice x.p.B q.neg.length x.p.d) := obj_cell hobj rfl
  have hgl := blk_lt hobj
  obtain ⟨W0, hW0, hz0, hal⟩ : ∃ W0 : World, W0 = w.alloc (.cells #[.int .i64 0, .int .i64 0, .int .i64 0, .int .u64 0, .slice none 0 0, .slice none 0 0] 25) ∧ W0.heap[w.heap.size]? = some (.cells #[.int .i64 0, .int .i64 0, .int .i64 0, .int .u64 0, .slice none 0 0, .slice none 0 0] 25 (0, 0)) ∧ Below w.heap.size w W0 := ⟨_, rfl, blk_last w _, below_alloc (Below.refl _ _) _⟩
  have HO := Lib.hid (FcA.own_calls q x.p W0 (hF.hd.below hal))
  have HLT := Lib.hid (blk_lt hz0)
  have HZ0 := Lib.hid hz0
  have HAL := Lib.hid hal
  have HW0 := Lib.hid hW0
  clear hF hobj hz0 hal hW0
  go_enter Tryz.func104, Tryz.ntmps104
  go_wp2_with (fail)
  rw [← HW0.out]
  refine HO.out.mono ?_
  rintro e w1 ⟨r, rfl, h1, h2, h3, h4⟩
  have hz1 := (h4.block _ HLT.out).trans HZ0.out
  have z0 : w1.cell? ⟨w.heap.size, 0, none⟩ = some (.int .i64 0) := obj_cell hz1 rfl
  have z1 : w1.cell? ⟨w.heap.size, 1, none⟩ = some (.int .i64 0) := obj_cell hz1 rfl
  have z2 : w1.cell? ⟨w.heap.size, 2, none⟩ = some (.int .i64 0) := obj_cell hz1 rfl
  have z3 : w1.cell? ⟨w.heap.size, 3, none⟩ = some (.int .u64 0) := obj_cell hz1 rfl
  have z4 : w1.cell? ⟨w.heap.size, 4, none⟩ = some (.slice none 0 0) := obj_cell hz1 rfl
  have z5 : w1.cell? ⟨w.heap.size, 5, none⟩ = some (.slice none 0 0) := obj_cell hz1 rfl
  have f0 : w1.frozen? ⟨w.heap.size, 0, none⟩ = false := obj_free hz1
  have f1 : w1.frozen? ⟨w.heap.size, 1, none⟩ = false := obj_free hz1
  have f2 : w1.frozen? ⟨w.heap.size, 2, none⟩ = false := obj_free hz1
  have f3 : w1.frozen? ⟨w.heap.size, 3, none⟩ = false := obj_free hz1
  have f4 : w1.frozen? ⟨w.heap.size, 4, none⟩ = false := obj_free hz1
  have f5 : w1.frozen? ⟨w.heap.size, 5, none⟩ = false := obj_free hz1
  have HEND : Hid (HdIn (HeadL.six w1 w.heap.size (.int .i64 q.vr) (.int .i64 q.hint) (.int .i64 q.schema) (.int .u64 q.zero) (.slice r.A q.pos.length r.c) (.slice r.B q.neg.length r.d)) q r ∧ Below w.heap.size w (HeadL.six w1 w.heap.size (.int .i64 q.vr) (.int .i64 q.hint) (.int .i64 q.schema) (.int .u64 q.zero) (.slice r.A q.pos.length r.c) (.slice r.B q.neg.length r.d))) := Lib.hid (by
    have hc := HeadL.six_ch w1 w.heap.size (.int .i64 q.vr) (.int .i64 q.hint) (.int .i64 q.schema) (.int .u64 q.zero) (.slice r.A q.pos.length r.c) (.slice r.B q.neg.length r.d)
    have hlt := HLT.out
    have hb := below_then HAL.out HAL.out.size h4
    exact ⟨⟨Spl.ch h1.pos hc h2 fun k hk he => by omega, Spl.ch h1.neg hc h3 fun k hk he => by omega, h1.z⟩, hb.trans (hc.below_of hb.size fun k hk => by omega)⟩)
  clear h1 h2 h3 h4 hz1 HO
  dsimp only [hcs]
  go_wp2
  refine bodyPost_ret (v := .agg #[.int .i64 q.vr, .int .i64 q.hint, .int .i64 q.schema, .int .u64 q.zero, .slice r.A q.pos.length r.c, .slice r.B q.neg.length r.d]) (by rw [results_cell1 rfl]; go_simp) rfl ?_
  exact ⟨r, rfl, HEND.out.1, HEND.out.2⟩
def LastPost (q : Hd) (l : List FS) (w : World) (e : Ending) (w' : World) : Prop :=
  ∃ r : Lh, e = .returned (.tuple #[.agg (scs (lastS q l) r).toArray, .bool (decide (0 < l.length))]) ∧ FhIn w' (lastS q l).h r ∧ OnH (fun k => w.heap.size ≤ k) (lastS q l).h r ∧ Below w.heap.size w w'
theorem lastS_pos (q : Hd) (l : List FS) (h : l ≠ []) : { (lastS q l).h with pos := q.pos, neg := q.neg } = (lastS q l).h := by
  unfold lastS
  cases hl : l.getLast? with
  | none => exact absurd (List.getLast?_eq_none_iff.1 hl) h
  | some s => rfl
set_option maxRecDepth 100000 in
set_option maxHeartbeats 3200000 in
theorem last_calls (g : Nat) (S : Nat → Prop) (q : Hd) (l : List FS) (x : FkL) (w : World) (hF : Fk w g S q l x) :
    Calls Tryz.prog 95 #[.pointer (some ⟨g, 0, none⟩)] w (LastPost q l w) := by
  have HPO : Hid (∀ e w', LastPost q l w e w' = ∃ r : Lh, e = .returned (.tuple #[.agg (scs (lastS q l) r).toArray, .bool (decide (0 < l.length))]) ∧ FhIn w' (lastS q l).h r ∧ OnH (fun k => w.heap.size ≤ k) (lastS q l).h r ∧ Below w.heap.size w w') := Lib.hid (fun _ _ => rfl)
  have hobj := hF.obj
  rw [kcs_eq] at hobj
  have hgl := blk_lt hobj
  by_cases hl : l = []
  · subst hl
    have c7 : w.cell? ⟨g, 7, none⟩ = some (.int .i64 0) := obj_cell hobj rfl
    have HLA := Lib.hid (FcG.la_nil (w.alloc (.cells #[.int .i64 0, .int .i64 0, .int .u64 0, .int .u64 0, .int .u64 0, .int .u64 0, .slice none 0 0, .slice none 0 0, .slice none 0 0, .slice none 0 0] 74)))
    rw [lastS_nil] at HPO
    clear hF hobj
    go_enter Tryz.func95, Tryz.ntmps95
    go_wp2
    refine bodyPost_ret (v := .tuple #[.agg #[.int .i64 0, .int .i64 0, .int .u64 0, .int .u64 0, .int .u64 0, .int .u64 0, .slice none 0 0, .slice none 0 0, .slice none 0 0, .slice none 0 0], .bool false]) (by rw [results_cell_tmp rfl]; go_simp) rfl ?_
    exact (HPO.out _ _).mpr ⟨⟨none, 0, none, 0, none, 0, none, 0⟩, rfl, HLA.out, ⟨fun ad hA => absurd hA (by simp), fun ad hA => absurd hA (by simp), fun ad hA => absurd hA (by simp), fun ad hA => absurd hA (by simp)⟩, below_alloc (Below.refl _ _) _⟩
  have HLS := Lib.hid (lastS_pos q l hl)
  have hn : 0 < l.length := List.length_pos_iff.2 hl
  have hN := hF.la
  have hp := hF.hd.pos
  have hq := hF.hd.neg
  obtain ⟨s, hs⟩ : ∃ s, s = lastS q l := ⟨_, rfl⟩
  rw [← hs] at hobj hN HPO HLS
  obtain ⟨n, hnn⟩ : ∃ n, n = l.length := ⟨_, rfl⟩
  rw [← hnn] at hobj hn HPO
  have d0 : ((n : Int) == 0) = false := by simp; omega
  have HN0 := Lib.hid (show decide (0 < n) = true from decide_eq_true hn)
  obtain ⟨W0, hW0, hz0, hal⟩ : ∃ W0 : World, W0 = w.alloc (.cells #[.int .i64 0, .int .i64 0, .int .u64 0, .int .u64 0, .int .u64 0, .int .u64 0, .slice none 0 0, .slice none 0 0, .slice none 0 0, .slice none 0 0] 74) ∧ W0.heap[w.heap.size]? = some (.cells #[.int .i64 0, .int .i64 0, .int .u64 0, .int .u64 0, .int .u64 0, .int .u64 0, .slice none 0 0, .slice none 0 0, .slice none 0 0, .slice none 0 0] 74 (0, 0)) ∧ Below w.heap.size w W0 := ⟨_, rfl, blk_last w _, below_alloc (Below.refl _ _) _⟩
  have hg0 := (hal.block g hgl).trans hobj
  have HON := Lib.hid (on_calls s x.r q.pos q.neg x.p.A x.p.B x.p.c x.p.d W0.drew (hN.below (below_drew hal)) (hp.below (below_drew hal)) (hq.below (below_drew hal)))
  rw [HLS.out] at HON
  have HON : Hid (Calls Tryz.prog 113 #[.agg #[.int .i64 s.t, .int .i64 s.h.schema, .int .u64 s.h.zero, .int .u64 s.h.zc, .int .u64 s.h.cnt, .int .u64 s.h.sum, .slice x.r.A s.h.pos.length x.r.c, .slice x.r.B s.h.neg.length x.r.d, .slice x.r.C s.h.pc.length x.r.cc, .slice x.r.D s.h.nc.length x.r.dd], .slice x.p.A q.pos.length x.p.c, .slice x.p.B q.neg.length x.p.d] W0.drew fun e w' => ∃ r : Lh, e = .returned (.agg #[.int .i64 s.t, .int .i64 s.h.schema, .int .u64 s.h.zero, .int .u64 s.h.zc, .int .u64 s.h.cnt, .int .u64 s.h.sum, .slice r.A s.h.pos.length r.c, .slice r.B s.h.neg.length r.d, .slice r.C s.h.pc.length r.cc, .slice r.D s.h.nc.length r.dd]) ∧ FhIn w' s.h r ∧ OnH (fun k => W0.heap.size ≤ k) s.h r ∧ Below W0.heap.size W0 w') := Lib.hid (by
    refine HON.out.mono ?_
    rintro e w' ⟨r, he, h1, h2, h3⟩
    exact ⟨r, he, h1, h2, below_then (below_drew (Below.refl _ _)) (Nat.le_refl _) h3⟩)
  have e4 : W0.cell? ⟨g, 4, none⟩ = some (.slice x.p.A q.pos.length x.p.c) := obj_cell hg0 rfl
  have e5 : W0.cell? ⟨g, 5, none⟩ = some (.slice x.p.B q.neg.length x.p.d) := obj_cell hg0 rfl
  have e7 : w.cell? ⟨g, 7, none⟩ = some (.int .i64 n) := obj_cell hobj rfl
  have e10 : W0.cell? ⟨g, 10, none⟩ = some (.int .i64 s.t) := obj_cell hg0 rfl
  have e11 : W0.cell? ⟨g, 11, none⟩ = some (.int .i64 s.h.schema) := obj_cell hg0 rfl
  have e12 : W0.cell? ⟨g, 12, none⟩ = some (.int .u64 s.h.zero) := obj_cell hg0 rfl
  have e13 : W0.cell? ⟨g, 13, none⟩ = some (.int .u64 s.h.zc) := obj_cell hg0 rfl
  have e14 : W0.cell? ⟨g, 14, none⟩ = some (.int .u64 s.h.cnt) := obj_cell hg0 rfl
  have e15 : W0.cell? ⟨g, 15, none⟩ = some (.int .u64 s.h.sum) := obj_cell hg0 rfl
  have e16 : W0.cell? ⟨g, 16, none⟩ = some (.slice x.r.A s.h.pos.length x.r.c) := obj_cell hg0 rfl
  have e17 : W0.cell? ⟨g, 17, none⟩ = some (.slice x.r.B s.h.neg.length x.r.d) := obj_cell hg0 rfl
  have e18 : W0.cell? ⟨g, 18, none⟩ = some (.slice x.r.C s.h.pc.length x.r.cc) := obj_cell hg0 rfl
  have e19 : W0.cell? ⟨g, 19, none⟩ = some (.slice x.r.D s.h.nc.length x.r.dd) := obj_cell hg0 rfl
  have HZL := Lib.hid hal.size
  have HW0 := Lib.hid hW0
  have HAL := Lib.hid hal
  have HG0 := Lib.hid hg0
  have HGL := Lib.hid (blk_lt hg0)
  have HZLT := Lib.hid (blk_lt hz0)
  have hgz : g ≠ w.heap.size := by omega
  have HQT : Hid (∀ (W : World) (v0 v1 v2 v3 v4 v5 v6 v7 v8 v9 : Value), W.heap[g]? = W0.heap[g]? → ∀ W' : World, W' = ten W w.heap.size v0 v1 v2 v3 v4 v5 v6 v7 v8 v9 → (W'.cell? ⟨g, 4, none⟩ = some (.slice x.p.A q.pos.length x.p.c) ∧ W'.cell? ⟨g, 5, none⟩ = some (.slice x.p.B q.neg.length x.p.d) ∧ W'.cell? ⟨g, 10, none⟩ = some (.int .i64 s.t) ∧ W'.cell? ⟨g, 11, none⟩ = some (.int .i64 s.h.schema) ∧ W'.cell? ⟨g, 12, none⟩ = some (.int .u64 s.h.zero) ∧ W'.cell? ⟨g, 13, none⟩ = some (.int .u64 s.h.zc) ∧ W'.cell? ⟨g, 14, none⟩ = some (.int .u64 s.h.cnt) ∧ W'.cell? ⟨g, 15, none⟩ = some (.int .u64 s.h.sum) ∧ W'.cell? ⟨g, 16, none⟩ = some (.slice x.r.A s.h.pos.length x.r.c) ∧ W'.cell? ⟨g, 17, none⟩ = some (.slice x.r.B s.h.neg.length x.r.d) ∧ W'.cell? ⟨g, 18, none⟩ = some (.slice x.r.C s.h.pc.length x.r.cc) ∧ W'.cell? ⟨g, 19, none⟩ = some (.slice x.r.D s.h.nc.length x.r.dd))) := Lib.hid (fun W v0 v1 v2 v3 v4 v5 v6 v7 v8 v9 h W' hW' => by
    have hg := (ten_ch W w.heap.size v0 v1 v2 v3 v4 v5 v6 v7 v8 v9).blk (h.trans HG0.out) hgz
    rw [← hW'] at hg
    exact ⟨obj_cell hg rfl, obj_cell hg rfl, obj_cell hg rfl, obj_cell hg rfl, obj_cell hg rfl, obj_cell hg rfl, obj_cell hg rfl, obj_cell hg rfl, obj_cell hg rfl, obj_cell hg rfl, obj_cell hg rfl, obj_cell hg rfl⟩)
  have HZ0 := Lib.hid hz0
  have hglz : w.heap.size ≠ g := by omega
  clear hF hobj hN hp hq hs hnn hn hW0 hal hl hg0 hz0 HLS
  go_enter Tryz.func95, Tryz.ntmps95
  go_wp2_with (fail)
  rw [← HW0.out]
  have hq0 : (fun W : World => W.cell? ⟨g, 4, none⟩ = some (.slice x.p.A q.pos.length x.p.c) ∧ W.cell? ⟨g, 5, none⟩ = some (.slice x.p.B q.neg.length x.p.d) ∧ W.cell? ⟨g, 10, none⟩ = some (.int .i64 s.t) ∧ W.cell? ⟨g, 11, none⟩ = some (.int .i64 s.h.schema) ∧ W.cell? ⟨g, 12, none⟩ = some (.int .u64 s.h.zero) ∧ W.cell? ⟨g, 13, none⟩ = some (.int .u64 s.h.zc) ∧ W.cell? ⟨g, 14, none⟩ = some (.int .u64 s.h.cnt) ∧ W.cell? ⟨g, 15, none⟩ = some (.int .u64 s.h.sum) ∧ W.cell? ⟨g, 16, none⟩ = some (.slice x.r.A s.h.pos.length x.r.c) ∧ W.cell? ⟨g, 17, none⟩ = some (.slice x.r.B s.h.neg.length x.r.d) ∧ W.cell? ⟨g, 18, none⟩ = some (.slice x.r.C s.h.pc.length x.r.cc) ∧ W.cell? ⟨g, 19, none⟩ = some (.slice x.r.D s.h.nc.length x.r.dd)) W0.drew := ⟨e4, e5, e10, e11, e12, e13, e14, e15, e16, e17, e18, e19⟩
  have HQ : Hid (∀ W : World, W.heap[g]? = W0.heap[g]? → (W.cell? ⟨g, 4, none⟩ = some (.slice x.p.A q.pos.length x.p.c) ∧ W.cell? ⟨g, 5, none⟩ = some (.slice x.p.B q.neg.length x.p.d) ∧ W.cell? ⟨g, 10, none⟩ = some (.int .i64 s.t) ∧ W.cell? ⟨g, 11, none⟩ = some (.int .i64 s.h.schema) ∧ W.cell? ⟨g, 12, none⟩ = some (.int .u64 s.h.zero) ∧ W.cell? ⟨g, 13, none⟩ = some (.int .u64 s.h.zc) ∧ W.cell? ⟨g, 14, none⟩ = some (.int .u64 s.h.cnt) ∧ W.cell? ⟨g, 15, none⟩ = some (.int .u64 s.h.sum) ∧ W.cell? ⟨g, 16, none⟩ = some (.slice x.r.A s.h.pos.length x.r.c) ∧ W.cell? ⟨g, 17, none⟩ = some (.slice x.r.B s.h.neg.length x.r.d) ∧ W.cell? ⟨g, 18, none⟩ = some (.slice x.r.C s.h.pc.length x.r.cc) ∧ W.cell? ⟨g, 19, none⟩ = some (.slice x.r.D s.h.nc.length x.r.dd))) := Lib.hid (fun W h => by
    have hg := h.trans HG0.out
    exact ⟨obj_cell hg rfl, obj_cell hg rfl, obj_cell hg rfl, obj_cell hg rfl, obj_cell hg rfl, obj_cell hg rfl, obj_cell hg rfl, obj_cell hg rfl, obj_cell hg rfl, obj_cell hg rfl, obj_cell hg rfl, obj_cell hg rfl⟩)
  go_region_held3 (fun W => W.cell? ⟨g, 4, none⟩ = some (.slice x.p.A q.pos.length x.p.c) ∧ W.cell? ⟨g, 5, none⟩ = some (.slice x.p.B q.neg.length x.p.d) ∧ W.cell? ⟨g, 10, none⟩ = some (.int .i64 s.t) ∧ W.cell? ⟨g, 11, none⟩ = some (.int .i64 s.h.schema) ∧ W.cell? ⟨g, 12, none⟩ = some (.int .u64 s.h.zero) ∧ W.cell? ⟨g, 13, none⟩ = some (.int .u64 s.h.zc) ∧ W.cell? ⟨g, 14, none⟩ = some (.int .u64 s.h.cnt) ∧ W.cell? ⟨g, 15, none⟩ = some (.int .u64 s.h.sum) ∧ W.cell? ⟨g, 16, none⟩ = some (.slice x.r.A s.h.pos.length x.r.c) ∧ W.cell? ⟨g, 17, none⟩ = some (.slice x.r.B s.h.neg.length x.r.d) ∧ W.cell? ⟨g, 18, none⟩ = some (.slice x.r.C s.h.pc.length x.r.cc) ∧ W.cell? ⟨g, 19, none⟩ = some (.slice x.r.D s.h.nc.length x.r.dd))
    (first | (with_reducible exact hq0) | (with_reducible exact hq8) | (with_reducible exact HQT.out _ _ _ _ _ _ _ _ _ _ _ hg8 _ rfl))
    (first
    | (go_at_call 113; refine HON.out.mono ?_; rintro e w8 ⟨r, rfl, hr8, hor8, hb8⟩; have hg8 := hb8.block g HGL.out; have hz8 := (hb8.block _ HZLT.out).trans HZ0.out; have hq8 := HQ.out w8 hg8; have z0 := obj_cell (i := 0) hz8 rfl; have f0 := obj_free (i := 0) hz8; have z1 := obj_cell (i := 1) hz8 rfl; have f1 := obj_free (i := 1) hz8; have z2 := obj_cell (i := 2) hz8 rfl; have f2 := obj_free (i := 2) hz8; have z3 := obj_cell (i := 3) hz8 rfl; have f3 := obj_free (i := 3) hz8; have z4 := obj_cell (i := 4) hz8 rfl; have f4 := obj_free (i := 4) hz8; have z5 := obj_cell (i := 5) hz8 rfl; have f5 := obj_free (i := 5) hz8; have z6 := obj_cell (i := 6) hz8 rfl; have f6 := obj_free (i := 6) hz8; have z7 := obj_cell (i := 7) hz8 rfl; have f7 := obj_free (i := 7) hz8; have z8 := obj_cell (i := 8) hz8 rfl; have f8 := obj_free (i := 8) hz8; have z9 := obj_cell (i := 9) hz8 rfl; have f9 := obj_free (i := 9) hz8))
  have HEND : Hid (FhIn (ten w8 w.heap.size (.int .i64 s.t) (.int .i64 s.h.schema) (.int .u64 s.h.zero) (.int .u64 s.h.zc) (.int .u64 s.h.cnt) (.int .u64 s.h.sum) (.slice r.A s.h.pos.length r.c) (.slice r.B s.h.neg.length r.d) (.slice r.C s.h.pc.length r.cc) (.slice r.D s.h.nc.length r.dd)) s.h r ∧ OnH (fun k => w.heap.size ≤ k) s.h r ∧ Below w.heap.size w (ten w8 w.heap.size (.int .i64 s.t) (.int .i64 s.h.schema) (.int .u64 s.h.zero) (.int .u64 s.h.zc) (.int .u64 s.h.cnt) (.int .u64 s.h.sum) (.slice r.A s.h.pos.length r.c) (.slice r.B s.h.neg.length r.d) (.slice r.C s.h.pc.length r.cc) (.slice r.D s.h.nc.length r.dd))) := Lib.hid (by
    have hc := ten_ch w8 w.heap.size (.int .i64 s.t) (.int .i64 s.h.schema) (.int .u64 s.h.zero) (.int .u64 s.h.zc) (.int .u64 s.h.cnt) (.int .u64 s.h.sum) (.slice r.A s.h.pos.length r.c) (.slice r.B s.h.neg.length r.d) (.slice r.C s.h.pc.length r.cc) (.slice r.D s.h.nc.length r.dd)
    have hz := HZLT.out
    have hb := below_then HAL.out HAL.out.size hb8
    exact ⟨hr8.ch hc hor8 fun k hk he => by omega, hor8.mono fun k hk => by have := HZL.out; omega, hb.trans (hc.below_of hb.size fun k hk => by omega)⟩)
  clear hr8 hor8 hb8 hg8 hz8 hq8
  go_wp2
  refine bodyPost_ret (v := .tuple #[.agg #[.int .i64 s.t, .int .i64 s.h.schema, .int .u64 s.h.zero, .int .u64 s.h.zc, .int .u64 s.h.cnt, .int .u64 s.h.sum, .slice r.A s.h.pos.length r.c, .slice r.B s.h.neg.length r.d, .slice r.C s.h.pc.length r.cc, .slice r.D s.h.nc.length r.dd], .bool true]) (by rw [results_cell_tmp rfl]; go_simp) rfl ?_
  exact (HPO.out _ _).mpr ⟨r, by rw [HN0.out]; rfl, HEND.out.1, HEND.out.2.1, HEND.out.2.2⟩
end Go.Proofs.YtjfekjbmgckkcaaGreatDoor.FcH
namespace Go.Proofs.YtjfekjbmgckkcaaGreatDoor.Law18C
open Go.RowKit Go.Proofs.YtjfekjbmgckkcaaGreatDoorW.PrintWords
open Go.Proofs.YtjfekjbmgckkcaaGreatDoor.Bits Go.Proofs.YtjfekjbmgckkcaaGreatDoor.Base Go.Proofs.YtjfekjbmgckkcaaGreatDoor.VarPure Go.Proofs.YtjfekjbmgckkcaaGreatDoor.VarbitA Go.Proofs.YtjfekjbmgckkcaaGreatDoor.VarKit Go.Proofs.YtjfekjbmgckkcaaGreatDoor.StreamA Go.Proofs.YtjfekjbmgckkcaaGreatDoor.TimesPure Go.Proofs.YtjfekjbmgckkcaaGreatDoor.Ref13 Go.Proofs.YtjfekjbmgckkcaaGreatDoor.SpanPure Go.Proofs.YtjfekjbmgckkcaaGreatDoor.SpanBase Go.Proofs.YtjfekjbmgckkcaaGreatDoor.FailAs Go.Proofs.YtjfekjbmgckkcaaGreatDoor.FailB Go.Proofs.YtjfekjbmgckkcaaGreatDoor.FailC Go.Proofs.YtjfekjbmgckkcaaGreatDoor.HeadA Go.Proofs.YtjfekjbmgckkcaaGreatDoor.HeadB Go.Proofs.YtjfekjbmgckkcaaGreatDoor.HeadE Go.Proofs.YtjfekjbmgckkcaaGreatDoor.HeadPure Go.Proofs.YtjfekjbmgckkcaaGreatDoor.XorPure Go.Proofs.YtjfekjbmgckkcaaGreatDoor.XorA Go.Proofs.YtjfekjbmgckkcaaGreatDoor.FcPure Go.Proofs.YtjfekjbmgckkcaaGreatDoor.FcObj Go.Proofs.YtjfekjbmgckkcaaGreatDoor.FcD Go.Proofs.YtjfekjbmgckkcaaGreatDoor.FcF Go.Proofs.YtjfekjbmgckkcaaGreatDoor.FcG Go.Proofs.YtjfekjbmgckkcaaGreatDoor.FcH
def q1 : Hd := ⟨1, 0, 0, 0, [], []⟩
def q0 : Hd := ⟨0, 0, 0, 0, [], []⟩
def s0 : FS := ⟨0, ⟨0, 0, 0, 0, 0, [], [], [], []⟩⟩
def s4 : FS := ⟨4, ⟨0, 0, 0, 0, 0, [], [], [], []⟩⟩
def lc0 : Lc := ⟨none, 0, none, 0⟩
def lh0 : Lh := ⟨none, 0, none, 0, none, 0, none, 0⟩
theorem err_q1 : (headErr q1).1 = 0 := by decide +kernel
theorem err_q0 : (headErr q0).1 = 0 := by decide +kernel
theorem wr_0 : (wrongF q1 [] s0).1 = 0 := by decide +kernel
theorem wr_1 : wrongF q1 [s0] s0 = (24, pTime) := by decide +kernel
theorem wr_4 : (wrongF q1 [s0] s4).1 = 0 := by decide +kernel
theorem len_4 : (lastB [s0] s4).length = 8 := by decide +kernel
theorem bits_1 : 16 + (chunkB q1 [s0]).length = 228 := by decide +kernel
theorem len_c0 : (chunkB q1 []).length ≤ 100 := by decide +kernel
theorem in_0 : In64S s0 := ⟨by decide, by decide, ⟨by decide, by decide, by decide, by decide, fun v hv => absurd hv (by simp [s0]), fun v hv => absurd hv (by simp [s0])⟩⟩
theorem in_4 : In64S s4 := ⟨by decide, by decide, ⟨by decide, by decide, by decide, by decide, fun v hv => absurd hv (by simp [s4]), fun v hv => absurd hv (by simp [s4])⟩⟩
theorem room_0 : Room q1 [] := by
  have h1 := len_c0
  have h2 : width q1 = 3 := rfl
  unfold Room
  rw [h2]
  generalize (chunkB q1 []).length = a at *
  exact ⟨by omega, by simp⟩
theorem room_1 : Room q1 [s0] := by
  have h1 := bits_1
  have h2 : width q1 = 3 := rfl
  unfold Room
  rw [h2]
  generalize (chunkB q1 [s0]).length = a at *
  exact ⟨by omega, by simp⟩
theorem off_0 (T : Nat → Prop) (s : FS) (h : s.h = ⟨0, 0, 0, 0, 0, [], [], [], []⟩) : OnH T s.h lh0 := by
  rw [h]
  exact ⟨fun ad hA => absurd hA (by simp [lh0]), fun ad hA => absurd hA (by simp [lh0]), fun ad hA => absurd hA (by simp [lh0]), fun ad hA => absurd hA (by simp [lh0])⟩
set_option maxRecDepth 100000 in
set_option maxHeartbeats 6400000 in
theorem awake_calls (w : World) (hT : Tab w) (hE : GlE w) (hZ : Tz w) :
    Calls Tryz.prog 35 #[] w fun e w' => e = .returned (.bool true) ∧ Below w.heap.size w w' := by
  have HT := Lib.hid (fun W (h : Below w.heap.size w W) => hT.below h)
  have HE := Lib.hid (fun W (h : Below w.heap.size w W) => gle_below hE h)
  have HZ := Lib.hid (fun W (h : Below w.heap.size w W) => hZ.below h)
  have hlt1 := hT.lt
  have hlt2 := hZ.lt
  have HN1 := Lib.hid (new_calls q1 lc0 w (Law14B.hdin_nil w 1 0 0 0 (by decide)) hE hT)
  clear hT hE hZ
  go_enter Tryz.func35, Tryz.ntmps35
  go_wp2_with (fail)
  refine HN1.out.mono ?_
  rintro e w1 ⟨hb1, hc1⟩
  obtain ⟨g, S, rfl, hk1, hS1⟩ : ∃ g S, e = .returned (.tuple #[.pointer (some ⟨g, 0, none⟩), .nilIface]) ∧ Ck w1 g S q1 [] ∧ ∀ k, S k → w.heap.size ≤ k := by
    rcases hc1 with ⟨h, -⟩ | ⟨-, h, -⟩ | ⟨-, -, h⟩
    · exact absurd err_q1 h
    · exact absurd rfl h
    · exact h
  have B1 := Lib.hid hb1
  have K1 := Lib.hid hk1
  have HS1 := Lib.hid hS1
  have HN0 := Lib.hid (new_calls q0 lc0 w1 (Law14B.hdin_nil w1 0 0 0 0 (by decide)) (HE.out _ hb1) (HT.out _ hb1))
  clear hb1 hc1 hk1 hS1 HN1
  go_wp2_with (fail)
  refine HN0.out.mono ?_
  rintro e w2 ⟨hb2, hc2⟩
  obtain ⟨v, rfl, he2⟩ : ∃ v, e = .returned (.tuple #[.pointer none, v]) ∧ Err w2 v (plc (25 : Nat) pVariant 0) .nilIface := by
    rcases hc2 with ⟨h, -⟩ | ⟨-, -, h⟩ | ⟨-, h, -⟩
    · exact absurd err_q0 h
    · exact h
    · exact absurd h (by decide)
  have B2 := Lib.hid (below_then B1.out B1.out.size hb2)
  have K2 := Lib.hid (K1.out.below hb2)
  have HCO := Lib.hid (code_calls he2)
  rw [show codeOf (plc (25 : Nat) pVariant 0) .nilIface = 25 from rfl] at HCO
  obtain ⟨ge, rfl⟩ := err_some (by decide) he2
  clear hb2 hc2 he2 HN0
  go_wp2_with (fail)
  refine HCO.out.mono ?_
  rintro e w3 ⟨rfl, hb3⟩
  have B3 := Lib.hid (below_then B2.out B2.out.size hb3)
  have K3 := Lib.hid (K2.out.below hb3)
  clear hb3 HCO
  obtain ⟨x3, hx3⟩ := K3.out
  have HA1 := Lib.hid (append_calls g S q1 [] x3 s0 lh0 w3 hx3 (la_nil w3) (off_0 _ s0 rfl) in_0 room_0 (HE.out _ B3.out) (HT.out _ B3.out) (HZ.out _ B3.out) (fun h => by have := HS1.out _ h; omega) (fun h => by have := HS1.out _ h; omega))
  clear hx3
  go_wp2_with (fail)
  refine HA1.out.mono ?_
  rintro e w4 hap
  obtain ⟨rfl, S4, hk4, hs4, hc4⟩ : e = .returned .nilIface ∧ Upd (fun W S => Ck W g S q1 ([] ++ [s0])) S w3 w4 := by
    rcases hap with ⟨h, -⟩ | ⟨-, h⟩
    · exact absurd wr_0 h
    · exact h
  rw [List.nil_append] at hk4
  have B4 := Lib.hid (ch_new B3.out B3.out.size HS1.out hc4)
  have HS4 : Hid (∀ k, S4 k → w.heap.size ≤ k) := Lib.hid (fun k hk => by
    rcases hs4 k hk with h | h
    · exact HS1.out k h
    · exact Nat.le_trans B3.out.size h)
  have K4 := Lib.hid hk4
  clear hap hk4 hs4 hc4 HA1
  obtain ⟨x4, hx4⟩ := K4.out
  have HA2 := Lib.hid (append_calls g S4 q1 [s0] x4 s0 lh0 w4 hx4 (la_nil w4) (off_0 _ s0 rfl) in_0 room_1 (HE.out _ B4.out) (HT.out _ B4.out) (HZ.out _ B4.out) (fun h => by have := HS4.out _ h; omega) (fun h => by have := HS4.out _ h; omega))
  clear hx4
  go_wp2_with (fail)
  refine HA2.out.mono ?_
  rintro e w5 hap
  obtain ⟨⟨v5, rfl, he5⟩, hb5⟩ : (∃ v, e = .returned v ∧ Err w5 v (plc (24 : Nat) pTime (1 : Nat)) .nilIface) ∧ Below w4.heap.size w4 w5 := by
    rcases hap with ⟨-, h⟩ | ⟨h, -⟩
    · rw [wr_1] at h
      exact h
    · rw [wr_1] at h
      cases h
  have B5 := Lib.hid (below_then B4.out B4.out.size hb5)
  have K5 := Lib.hid (K4.out.below hb5)
  have E5 := Lib.hid he5
  obtain ⟨ge5, rfl⟩ := err_some (by decide) he5
  clear hap hb5 he5 HA2
  obtain ⟨x5, hx5⟩ := K5.out
  have HC5 := Lib.hid (cost_calls g S4 q1 [s0] x5 s4 lh0 w5 hx5 (la_nil w5) in_4 room_1 (HE.out _ B5.out) (HT.out _ B5.out) (HZ.out _ B5.out))
  clear hx5
  go_wp2_with (fail)
  refine HC5.out.mono ?_
  rintro e w6 ⟨hb6, hc6⟩
  obtain rfl : e = .returned (.tuple #[.int .i64 8, .nilIface]) := by
    rcases hc6 with ⟨h, -⟩ | ⟨-, h⟩
    · exact absurd wr_4 h
    · rw [len_4] at h
      exact h
  have B6 := Lib.hid (below_then B5.out B5.out.size hb6)
  have K6 := Lib.hid (K5.out.below hb6)
  have E6 := Lib.hid (E5.out.below hb6)
  have HAT := Lib.hid (FailE.at_calls pTime (E5.out.below hb6))
  rw [show FailE.atF (plc (24 : Nat) pTime (1 : Nat)) pTime = (1, true) from by decide +kernel] at HAT
  clear hb6 hc6 HC5
  go_wp2_with (fail)
  refine HAT.out.mono ?_
  rintro e w7 ⟨rfl, hb7⟩
  have B7 := Lib.hid (below_then B6.out B6.out.size hb7)
  have K7 := Lib.hid (K6.out.below hb7)
  have E7 := Lib.hid (E6.out.below hb7)
  clear hb7 HAT
  obtain ⟨x7, hx7⟩ := K7.out
  have HLA := Lib.hid (last_calls g S4 q1 [s0] x7 w7 hx7)
  clear hx7
  go_wp2_with (fail)
  refine HLA.out.mono ?_
  rintro e w8 ⟨r, rfl, -, -, hb8⟩
  rw [show (Ending.returned (.tuple #[.agg (scs (lastS q1 [s0]) r).toArray, .bool (decide (0 < [s0].length))])) = Ending.returned (.tuple #[.agg #[.int .i64 0, .int .i64 0, .int .u64 0, .int .u64 0, .int .u64 0, .int .u64 0, .slice r.A 0 r.c, .slice r.B 0 r.d, .slice r.C 0 r.cc, .slice r.D 0 r.dd], .bool true]) from rfl]
  obtain ⟨W8, hW8, hal⟩ : ∃ W : World, W = w8.alloc (.cells #[.int .i64 0, .int .i64 0, .int .u64 0, .int .u64 0, .int .u64 0, .int .u64 0, .slice r.A 0 r.c, .slice r.B 0 r.d, .slice r.C 0 r.cc, .slice r.D 0 r.dd] 74) ∧ Below w7.heap.size w7 W := ⟨_, rfl, hb8.alloc hb8.size _⟩
  have HW8 := Lib.hid hW8
  have B8 := Lib.hid (below_then B7.out B7.out.size hal)
  have K8 := Lib.hid (K7.out.below hal)
  have HCO := Lib.hid (code_calls (E7.out.below hal))
  rw [show codeOf (plc (24 : Nat) pTime (1 : Nat)) .nilIface = 24 from rfl] at HCO
  clear hb8 hal hW8 HLA
  go_wp2_with (fail)
  rw [← HW8.out]
  refine HCO.out.mono ?_
  rintro e w9 ⟨rfl, hb9⟩
  have B9 := Lib.hid (below_then B8.out B8.out.size hb9)
  obtain ⟨x9, hx9⟩ := K8.out.below hb9
  have HBI := Lib.hid (FcD.bits_calls g S4 q1 [s0] x9 w9 hx9 (by have := bits_1; omega))
  rw [bits_1] at HBI
  have HLE := Lib.hid (FcD.len_calls g S4 q1 [s0] x9 w9 hx9)
  rw [show [s0].length = 1 from rfl] at HLE
  clear hb9 hx9 HCO
  go_wp2_with (fail)
  refine HBI.out.mono ?_
  rintro e w' ⟨rfl, rfl⟩
  go_wp2_with (fail)
  refine HLE.out.mono ?_
  rintro e w' ⟨rfl, rfl⟩
  go_wp2
  go_ret
  exact ⟨rfl, B9.out⟩
end Go.Proofs.YtjfekjbmgckkcaaGreatDoor.Law18C
namespace Go.Proofs.YtjfekjbmgckkcaaGreatDoor.Law18E
open Go.RowKit Go.Proofs.YtjfekjbmgckkcaaGreatDoorW.PrintWords
open Go.Proofs.YtjfekjbmgckkcaaGreatDoor.Bits Go.Proofs.YtjfekjbmgckkcaaGreatDoor.Base Go.Proofs.YtjfekjbmgckkcaaGreatDoor.VarPure Go.Proofs.YtjfekjbmgckkcaaGreatDoor.VarKit Go.Proofs.YtjfekjbmgckkcaaGreatDoor.StreamA Go.Proofs.YtjfekjbmgckkcaaGreatDoor.SpanPure Go.Proofs.YtjfekjbmgckkcaaGreatDoor.SpanBase Go.Proofs.YtjfekjbmgckkcaaGreatDoor.FailAs Go.Proofs.YtjfekjbmgckkcaaGreatDoor.FailB Go.Proofs.YtjfekjbmgckkcaaGreatDoor.FailC Go.Proofs.YtjfekjbmgckkcaaGreatDoor.HeadA Go.Proofs.YtjfekjbmgckkcaaGreatDoor.HeadB Go.Proofs.YtjfekjbmgckkcaaGreatDoor.HeadE Go.Proofs.YtjfekjbmgckkcaaGreatDoor.HeadL Go.Proofs.YtjfekjbmgckkcaaGreatDoor.Ref12 Go.Proofs.YtjfekjbmgckkcaaGreatDoor.Ref13 Go.Proofs.YtjfekjbmgckkcaaGreatDoor.FcPure Go.Proofs.YtjfekjbmgckkcaaGreatDoor.FcObj Go.Proofs.YtjfekjbmgckkcaaGreatDoor.FcA Go.Proofs.YtjfekjbmgckkcaaGreatDoor.FcB Go.Proofs.YtjfekjbmgckkcaaGreatDoor.Law18A
open Go.Proofs.YtjfekjbmgckkcaaGreatDoor.Law14D (spl_any)
structure St (w : World) (o h9 : Obj) (W : World) : Prop where
  b : Below w.heap.size w W
  n : w.heap.size + 3 ≤ W.heap.size
  o : W.heap[w.heap.size]? = some o
  z : W.heap[w.heap.size + 1]? = some (.cells #[.int .i64 0, .int .i64 0, .int .u64 0, .int .u64 0, .int .u64 0, .int .u64 0, .slice none 0 0, .slice none 0 0, .slice none 0 0, .slice none 0 0] 82 (0, 0))
  h : W.heap[w.heap.size + 1 + 1]? = some h9
theorem St.below {w W W2 : World} {o h9 : Obj} (h : St w o h9 W) (hb : Below W.heap.size W W2) : St w o h9 W2 :=
  ⟨below_then h.b h.b.size hb, Nat.le_trans h.n hb.size, (hb.block _ (blk_lt h.o)).trans h.o, (hb.block _ (blk_lt h.z)).trans h.z, (hb.block _ (blk_lt h.h)).trans h.h⟩
set_option maxRecDepth 100000 in
set_option maxHeartbeats 3200000 in
theorem samples_calls (s : FS) (p : Lh) (w : World) (hh : FhIn w s.h p) :
    Calls Tryz.prog 44 #[.agg (scs s p).toArray] w fun e w' => ∃ A1 c1 A2 c2, e = .returned (.agg (scs s ⟨A1, c1, A2, c2, p.C, p.cc, p.D, p.dd⟩).toArray) ∧ FhIn w' s.h ⟨A1, c1, A2, c2, p.C, p.cc, p.D, p.dd⟩ ∧
      On (fun k => w.heap.size ≤ k) A1 s.h.pos.length ∧ On (fun k => w.heap.size ≤ k) A2 s.h.neg.length ∧ Below w.heap.size w w' := by
  obtain ⟨t, sc, z, zc, cn, su, pos, neg, pc, nc⟩ := s
  obtain ⟨A, c, B, d, C, cc, D, dd⟩ := p
  obtain ⟨hp, hn, hpc, hnc, h64⟩ := hh
  simp only at hp hn hpc hnc h64
  show Calls Tryz.prog 44 #[.agg #[.int .i64 t, .int .i64 sc, .int .u64 z, .int .u64 zc, .int .u64 cn, .int .u64 su, .slice A pos.length c, .slice B neg.length d, .slice C pc.length cc, .slice D nc.length dd]] w _
  obtain ⟨W1, hW1, hs1⟩ : ∃ W1 : World, W1 = ((w.alloc (.cells #[.int .i64 t, .int .i64 sc, .int .u64 z, .int .u64 zc, .int .u64 cn, .int .u64 su, .slice A pos.length c, .slice B neg.length d, .slice C pc.length cc, .slice D nc.length dd] 74)).alloc (.cells #[.int .i64 0, .int .i64 0, .int .u64 0, .int .u64 0, .int .u64 0, .int .u64 0, .slice none 0 0, .slice none 0 0, .slice none 0 0, .slice none 0 0] 82)).alloc (.cells #[.int .i64 sc, .int .u64 z, .int .u64 zc, .int .u64 cn, .int .u64 su, .slice A pos.length c, .slice B neg.length d, .slice C pc.length cc, .slice D nc.length dd] 72) ∧ St w (.cells #[.int .i64 t, .int .i64 sc, .int .u64 z, .int .u64 zc, .int .u64 cn, .int .u64 su, .slice A pos.length c, .slice B neg.length d, .slice C pc.length cc, .slice D nc.length dd] 74 (0, 0)) (.cells #[.int .i64 sc, .int .u64 z, .int .u64 zc, .int .u64 cn, .int .u64 su, .slice A pos.length c, .slice B neg.length d, .slice C pc.length cc, .slice D nc.length dd] 72 (0, 0)) W1 := ⟨_, rfl, by
    obtain ⟨X, hX⟩ : ∃ X : World, X = (w.alloc (.cells #[.int .i64 t, .int .i64 sc, .int .u64 z, .int .u64 zc, .int .u64 cn, .int .u64 su, .slice A pos.length c, .slice B neg.length d, .slice C pc.length cc, .slice D nc.length dd] 74)).alloc (.cells #[.int .i64 0, .int .i64 0, .int .u64 0, .int .u64 0, .int .u64 0, .int .u64 0, .slice none 0 0, .slice none 0 0, .slice none 0 0, .slice none 0 0] 82) := ⟨_, rfl⟩
    have x0 : Below w.heap.size w X := by rw [hX]; exact below_alloc (below_alloc (Below.refl _ _) _) _
    have x1 : X.heap.size = w.heap.size + 2 := by rw [hX]; simp
    have x2 : X.heap[w.heap.size]? = some (.cells #[.int .i64 t, .int .i64 sc, .int .u64 z, .int .u64 zc, .int .u64 cn, .int .u64 su, .slice A pos.length c, .slice B neg.length d, .slice C pc.length cc, .slice D nc.length dd] 74 (0, 0)) := by rw [hX]; exact (Below.heap_alloc _ _ w.heap.size (blk_lt (blk_last w _))).trans (blk_last w _)
    have x3 : X.heap[w.heap.size + 1]? = some (.cells #[.int .i64 0, .int .i64 0, .int .u64 0, .int .u64 0, .int .u64 0, .int .u64 0, .slice none 0 0, .slice none 0 0, .slice none 0 0, .slice none 0 0] 82 (0, 0)) := by
      rw [hX]
      have := blk_last (w.alloc (.cells #[.int .i64 t, .int .i64 sc, .int .u64 z, .int .u64 zc, .int .u64 cn, .int .u64 su, .slice A pos.length c, .slice B neg.length d, .slice C pc.length cc, .slice D nc.length dd] 74)) (.cells #[.int .i64 0, .int .i64 0, .int .u64 0, .int .u64 0, .int .u64 0, .int .u64 0, .slice none 0 0, .slice none 0 0, .slice none 0 0, .slice none 0 0] 82)
      rwa [show (w.alloc (.cells #[.int .i64 t, .int .i64 sc, .int .u64 z, .int .u64 zc, .int .u64 cn, .int .u64 su, .slice A pos.length c, .slice B neg.length d, .slice C pc.length cc, .slice D nc.length dd] 74)).heap.size = w.heap.size + 1 from by simp] at this
    rw [← hX]
    refine ⟨below_alloc x0 _, ?_, (Below.heap_alloc _ _ _ (blk_lt x2)).trans x2, (Below.heap_alloc _ _ _ (blk_lt x3)).trans x3, ?_⟩
    · have e : (X.alloc (.cells #[.int .i64 sc, .int .u64 z, .int .u64 zc, .int .u64 cn, .int .u64 su, .slice A pos.length c, .slice B neg.length d, .slice C pc.length cc, .slice D nc.length dd] 72)).heap.size = w.heap.size + 3 := by simp [x1]
      omega
    · have := blk_last X (.cells #[.int .i64 sc, .int .u64 z, .int .u64 zc, .int .u64 cn, .int .u64 su, .slice A pos.length c, .slice B neg.length d, .slice C pc.length cc, .slice D nc.length dd] 72)
      rwa [x1] at this⟩
  obtain ⟨o0, ho0⟩ : ∃ o : Obj, o = (.cells #[.int .i64 t, .int .i64 sc, .int .u64 z, .int .u64 zc, .int .u64 cn, .int .u64 su, .slice A pos.length c, .slice B neg.length d, .slice C pc.length cc, .slice D nc.length dd] 74 (0, 0)) := ⟨_, rfl⟩
  obtain ⟨h0, hh0⟩ : ∃ o : Obj, o = (.cells #[.int .i64 sc, .int .u64 z, .int .u64 zc, .int .u64 cn, .int .u64 su, .slice A pos.length c, .slice B neg.length d, .slice C pc.length cc, .slice D nc.length dd] 72 (0, 0)) := ⟨_, rfl⟩
  have HSF : Hid (∀ W, St w (.cells #[.int .i64 t, .int .i64 sc, .int .u64 z, .int .u64 zc, .int .u64 cn, .int .u64 su, .slice A pos.length c, .slice B neg.length d, .slice C pc.length cc, .slice D nc.length dd] 74 (0, 0)) (.cells #[.int .i64 sc, .int .u64 z, .int .u64 zc, .int .u64 cn, .int .u64 su, .slice A pos.length c, .slice B neg.length d, .slice C pc.length cc, .slice D nc.length dd] 72 (0, 0)) W → (W.cell? ⟨w.heap.size, 0, none⟩ = some (.int .i64 t) ∧ W.cell? ⟨w.heap.size + 1 + 1, 0, none⟩ = some (.int .i64 sc) ∧ W.cell? ⟨w.heap.size + 1 + 1, 1, none⟩ = some (.int .u64 z) ∧ W.cell? ⟨w.heap.size + 1 + 1, 2, none⟩ = some (.int .u64 zc) ∧ W.cell? ⟨w.heap.size + 1 + 1, 3, none⟩ = some (.int .u64 cn) ∧ W.cell? ⟨w.heap.size + 1 + 1, 4, none⟩ = some (.int .u64 su) ∧ W.cell? ⟨w.heap.size + 1 + 1, 5, none⟩ = some (.slice A pos.length c) ∧ W.cell? ⟨w.heap.size + 1 + 1, 6, none⟩ = some (.slice B neg.length d) ∧ W.cell? ⟨w.heap.size + 1 + 1, 7, none⟩ = some (.slice C pc.length cc) ∧ W.cell? ⟨w.heap.size + 1 + 1, 8, none⟩ = some (.slice D nc.length dd))) := Lib.hid (fun W h => ⟨obj_cell h.o rfl, obj_cell h.h rfl, obj_cell h.h rfl, obj_cell h.h rfl, obj_cell h.h rfl, obj_cell h.h rfl, obj_cell h.h rfl, obj_cell h.h rfl, obj_cell h.h rfl, obj_cell h.h rfl⟩)
  have HTEN : Hid (∀ W, St w (.cells #[.int .i64 t, .int .i64 sc, .int .u64 z, .int .u64 zc, .int .u64 cn, .int .u64 su, .slice A pos.length c, .slice B neg.length d, .slice C pc.length cc, .slice D nc.length dd] 74 (0, 0)) (.cells #[.int .i64 sc, .int .u64 z, .int .u64 zc, .int .u64 cn, .int .u64 su, .slice A pos.length c, .slice B neg.length d, .slice C pc.length cc, .slice D nc.length dd] 72 (0, 0)) W → ∀ v0 v1 v2 v3 v4 v5 v6 v7 v8 v9, ∀ W' : World, W' = ten W (w.heap.size + 1) v0 v1 v2 v3 v4 v5 v6 v7 v8 v9 → (W'.cell? ⟨w.heap.size, 0, none⟩ = some (.int .i64 t) ∧ W'.cell? ⟨w.heap.size + 1 + 1, 0, none⟩ = some (.int .i64 sc) ∧ W'.cell? ⟨w.heap.size + 1 + 1, 1, none⟩ = some (.int .u64 z) ∧ W'.cell? ⟨w.heap.size + 1 + 1, 2, none⟩ = some (.int .u64 zc) ∧ W'.cell? ⟨w.heap.size + 1 + 1, 3, none⟩ = some (.int .u64 cn) ∧ W'.cell? ⟨w.heap.size + 1 + 1, 4, none⟩ = some (.int .u64 su) ∧ W'.cell? ⟨w.heap.size + 1 + 1, 5, none⟩ = some (.slice A pos.length c) ∧ W'.cell? ⟨w.heap.size + 1 + 1, 6, none⟩ = some (.slice B neg.length d) ∧ W'.cell? ⟨w.heap.size + 1 + 1, 7, none⟩ = some (.slice C pc.length cc) ∧ W'.cell? ⟨w.heap.size + 1 + 1, 8, none⟩ = some (.slice D nc.length dd))) := Lib.hid (fun W h v0 v1 v2 v3 v4 v5 v6 v7 v8 v9 W' e => by
    have hc := ten_ch W (w.heap.size + 1) v0 v1 v2 v3 v4 v5 v6 v7 v8 v9
    rw [← e] at hc
    have a := hc.blk h.o (by omega)
    have b := hc.blk h.h (by omega)
    exact ⟨obj_cell a rfl, obj_cell b rfl, obj_cell b rfl, obj_cell b rfl, obj_cell b rfl, obj_cell b rfl, obj_cell b rfl, obj_cell b rfl, obj_cell b rfl, obj_cell b rfl⟩)
  rw [← ho0, ← hh0] at hs1 HSF HTEN
  have HPN : Hid (∀ (A' : Option Addr) (c' : Nat) (l : List Sp) W, St w o0 h0 W → Spl w A' c' l → Calls Tryz.prog 101 #[.slice A' l.length c'] W fun e w' =>
      ∃ A1 c1, e = .returned (.slice A1 l.length c1) ∧ OwSp 214 w' (w.heap.size + 3) (.slice A1 l.length c1) l ∧ Below W.heap.size W w' ∧ St w o0 h0 w') := Lib.hid (by
    intro A' c' l W hb hl
    refine (Law18A.spans_calls _ _ l W (hl.below hb.b).rd hl.len).mono ?_
    rintro e w' ⟨v, rfl, hw, hb'⟩
    obtain ⟨A1, c1, rfl, -, -, -⟩ := hw.reads
    exact ⟨A1, c1, rfl, hw.lower hb.n, hb', hb.below hb'⟩)
  have HS1 := Lib.hid hs1
  have HSD := Lib.hid (hs1.below (below_drew (Below.refl _ _)))
  have HPS := Lib.hid hp
  have HNS := Lib.hid hn
  have HPC := Lib.hid hpc
  have HNC := Lib.hid hnc
  have H64 := Lib.hid h64
  have HW1 := Lib.hid hW1
  clear hp hn hpc hnc h64 ho0 hh0 hs1 hW1
  go_enter Tryz.func44, Tryz.ntmps44
  go_wp2_with (fail)
  rw [← HW1.out]
  have hq0 := HSF.out _ HSD.out
  go_region_held3 (fun W => W.cell? ⟨w.heap.size, 0, none⟩ = some (.int .i64 t) ∧ W.cell? ⟨w.heap.size + 1 + 1, 0, none⟩ = some (.int .i64 sc) ∧ W.cell? ⟨w.heap.size + 1 + 1, 1, none⟩ = some (.int .u64 z) ∧ W.cell? ⟨w.heap.size + 1 + 1, 2, none⟩ = some (.int .u64 zc) ∧ W.cell? ⟨w.heap.size + 1 + 1, 3, none⟩ = some (.int .u64 cn) ∧ W.cell? ⟨w.heap.size + 1 + 1, 4, none⟩ = some (.int .u64 su) ∧ W.cell? ⟨w.heap.size + 1 + 1, 5, none⟩ = some (.slice A pos.length c) ∧ W.cell? ⟨w.heap.size + 1 + 1, 6, none⟩ = some (.slice B neg.length d) ∧ W.cell? ⟨w.heap.size + 1 + 1, 7, none⟩ = some (.slice C pc.length cc) ∧ W.cell? ⟨w.heap.size + 1 + 1, 8, none⟩ = some (.slice D nc.length dd))
    (first | (with_reducible exact hq0) | (with_reducible exact hq1) | (with_reducible exact hq2) | (with_reducible exact HTEN.out _ hst2 _ _ _ _ _ _ _ _ _ _ _ rfl) | (with_reducible exact HTEN.out _ hst1 _ _ _ _ _ _ _ _ _ _ _ rfl))
    (first
    | (go_at_call 101; (with_reducible show Calls _ _ #[Value.slice A pos.length c] _ _); refine (HPN.out _ _ _ _ (by first | exact HSD.out | exact HS1.out) HPS.out).mono ?_; rintro e w2 ⟨A1, c1, rfl, ho1, hb1, hst1⟩; have hq1 := HSF.out _ hst1)
    | (go_at_call 101; refine (HPN.out _ _ _ _ hst1 HNS.out).mono ?_; rintro e w3 ⟨A2, c2, rfl, ho2, hb2, hst2⟩; have hq2 := HSF.out _ hst2; have hz := hst2.z; have z0 := obj_cell (i := 0) hz rfl; have f0 := obj_free (i := 0) hz; have z1 := obj_cell (i := 1) hz rfl; have f1 := obj_free (i := 1) hz; have z2 := obj_cell (i := 2) hz rfl; have f2 := obj_free (i := 2) hz; have z3 := obj_cell (i := 3) hz rfl; have f3 := obj_free (i := 3) hz; have z4 := obj_cell (i := 4) hz rfl; have f4 := obj_free (i := 4) hz; have z5 := obj_cell (i := 5) hz rfl; have f5 := obj_free (i := 5) hz; have z6 := obj_cell (i := 6) hz rfl; have f6 := obj_free (i := 6) hz; have z7 := obj_cell (i := 7) hz rfl; have f7 := obj_free (i := 7) hz; have z8 := obj_cell (i := 8) hz rfl; have f8 := obj_free (i := 8) hz; have z9 := obj_cell (i := 9) hz rfl; have f9 := obj_free (i := 9) hz))
  have HX : Hid (FhIn (ten w3 (w.heap.size + 1) (.int .i64 t) (.int .i64 sc) (.int .u64 z) (.int .u64 zc) (.int .u64 cn) (.int .u64 su) (.slice A1 pos.length c1) (.slice A2 neg.length c2) (.slice C pc.length cc) (.slice D nc.length dd)) ⟨sc, z, zc, cn, su, pos, neg, pc, nc⟩ ⟨A1, c1, A2, c2, C, cc, D, dd⟩ ∧ On (fun k => w.heap.size ≤ k) A1 pos.length ∧ On (fun k => w.heap.size ≤ k) A2 neg.length ∧ Below w.heap.size w (ten w3 (w.heap.size + 1) (.int .i64 t) (.int .i64 sc) (.int .u64 z) (.int .u64 zc) (.int .u64 cn) (.int .u64 su) (.slice A1 pos.length c1) (.slice A2 neg.length c2) (.slice C pc.length cc) (.slice D nc.length dd))) := Lib.hid (by
    have hc := ten_ch w3 (w.heap.size + 1) (.int .i64 t) (.int .i64 sc) (.int .u64 z) (.int .u64 zc) (.int .u64 cn) (.int .u64 su) (.slice A1 pos.length c1) (.slice A2 neg.length c2) (.slice C pc.length cc) (.slice D nc.length dd)
    have q1 := sps_any (ho1.below hb2) hc (fun k hk => by omega)
    have q2 := sps_any ho2 hc (fun k hk => by omega)
    have b3 : Below w.heap.size w (ten w3 (w.heap.size + 1) (.int .i64 t) (.int .i64 sc) (.int .u64 z) (.int .u64 zc) (.int .u64 cn) (.int .u64 su) (.slice A1 pos.length c1) (.slice A2 neg.length c2) (.slice C pc.length cc) (.slice D nc.length dd)) := hst2.b.trans (hc.below_of hst2.b.size fun k hk => by omega)
    exact ⟨⟨spl_any q1 HPS.out.len, spl_any q2 HNS.out.len, HPC.out.below b3, HNC.out.below b3, ⟨H64.out.zero, H64.out.zc, H64.out.cnt, H64.out.sum, H64.out.pc, H64.out.nc⟩⟩, (own_on q1).mono fun k hk => by omega, (own_on q2).mono fun k hk => by omega, b3⟩)
  clear hq0 hq1 hq2 hz ho1 ho2 hb1 hb2 hst1 hst2
  go_wp2
  refine bodyPost_ret (v := .agg #[.int .i64 t, .int .i64 sc, .int .u64 z, .int .u64 zc, .int .u64 cn, .int .u64 su, .slice A1 pos.length c1, .slice A2 neg.length c2, .slice C pc.length cc, .slice D nc.length dd]) (by rw [results_cell1 rfl]; go_simp) rfl ?_
  exact ⟨A1, c1, A2, c2, rfl, HX.out⟩
end Go.Proofs.YtjfekjbmgckkcaaGreatDoor.Law18E
namespace Go.Proofs.YtjfekjbmgckkcaaGreatDoor.HeadLaid
open Go.RowKit Go.Proofs.YtjfekjbmgckkcaaGreatDoorW.PrintWords
open Go.Proofs.YtjfekjbmgckkcaaGreatDoor.Base Go.Proofs.YtjfekjbmgckkcaaGreatDoor.VarPure Go.Proofs.YtjfekjbmgckkcaaGreatDoor.VarbitA Go.Proofs.YtjfekjbmgckkcaaGreatDoor.FailAs
theorem rt : (Tryz.prog.cutTypes.find? (·.1 == "internal/reflectlite.rtype")).map (·.2) = some 290 := by kernel_rfl
theorem gEt : Tryz.prog.globalNamed "errors.errorType" = some 0 := by kernel_rfl
theorem oneRow : ((List.range 373).filter fun t => Tryz.prog.rowNamed t [101, 114, 114, 111, 114]) = [34] := by kernel_rfl
theorem tySize : Tryz.prog.types.size = 373 := by kernel_rfl
theorem handle_of {w : World} (h : handlesMet Tryz.prog [("errors.errorType", Rows.laid_errors_errorType)] w) : GlE w := by
  have h1 : ∃ name u ty, (Rows.laid_errors_errorType (H := Unit)).handleName? = some name ∧ (Tryz.prog.cutTypes.find? (·.1 == "internal/reflectlite.rtype")).map (·.2) = some u ∧ ty < Tryz.prog.types.size ∧ Tryz.prog.rowNamed ty name = true ∧ w.var? Tryz.prog "errors.errorType" = some #[.iface u (.agg #[typeHandle Tryz.prog ty])] := h _ (List.mem_singleton.2 rfl)
  obtain ⟨name, u, ty, e1, e2, e3, e4, e5⟩ := h1
  have en : name = [101, 114, 114, 111, 114] := (Option.some.inj e1).symm
  subst en
  obtain rfl := Option.some.inj (rt.symm.trans e2)
  have hm : ty ∈ (List.range 373).filter fun t => Tryz.prog.rowNamed t [101, 114, 114, 111, 114] := List.mem_filter.2 ⟨List.mem_range.2 (by rw [← tySize]; exact e3), e4⟩
  rw [oneRow] at hm
  obtain rfl := List.mem_singleton.1 hm
  have hh : typeHandle Tryz.prog 34 = .pointer (some ⟨3, 34, none⟩) := by kernel_rfl
  rw [hh] at e5
  simpa [GlE] using World.var?_cell gEt e5 0
theorem tab_met {w : World} (h2 : laidMet Tryz.prog [("tidepole/varbit.behinds", Lib.tabData .i64 ([0, 3, 6, 9, 12, 18, 25, 56, 64].map Int.ofNat))] w) : Tab w := by
  have hv := Lib.tabIs_of_head gTab tTab Tryz.underlying269 Tryz.underlying3 cEl cTab h2
  intro j hj
  have := World.var?_cell gTab hv j
  rw [this]
  have : j = 0 ∨ j = 1 ∨ j = 2 ∨ j = 3 ∨ j = 4 ∨ j = 5 ∨ j = 6 ∨ j = 7 ∨ j = 8 := by omega
  rcases this with rfl | rfl | rfl | rfl | rfl | rfl | rfl | rfl | rfl <;> rfl
end Go.Proofs.YtjfekjbmgckkcaaGreatDoor.HeadLaid
namespace Go.Proofs.YtjfekjbmgckkcaaGreatDoor.Law18L
open Go.RowKit Go.Proofs.YtjfekjbmgckkcaaGreatDoorW.PrintWords
open Go.Proofs.YtjfekjbmgckkcaaGreatDoor.Base Go.Proofs.YtjfekjbmgckkcaaGreatDoor.VarPure Go.Proofs.YtjfekjbmgckkcaaGreatDoor.VarbitA Go.Proofs.YtjfekjbmgckkcaaGreatDoor.FailAs Go.Proofs.YtjfekjbmgckkcaaGreatDoor.HeadLaid Go.Proofs.YtjfekjbmgckkcaaGreatDoor.XorA
abbrev laidF : List (String × DataW Unit) := [("math/bits.deBruijn64tab", Rows.laid_math_bits_deBruijn64tab), ("errors.errorType", Rows.laid_errors_errorType), ("tidepole/varbit.behinds", Rows.laid_tidepole_varbit_behinds)]
theorem gDb : Tryz.prog.globalNamed "math/bits.deBruijn64tab" = some 2 := by kernel_rfl
theorem tDb : (Tryz.prog.globals[2]?).map (·.type) = some 318 := by kernel_rfl
theorem cDb : Tryz.prog.cellsOf 318 = 64 := by kernel_rfl
theorem cU8 : Tryz.prog.cellsOf 5 = 1 := by kernel_rfl
theorem split_laidF (w : World) : laidMetH Tryz.prog laidF w = (laidMet Tryz.prog [("math/bits.deBruijn64tab", Rows.laid_math_bits_deBruijn64tab), ("tidepole/varbit.behinds", Rows.laid_tidepole_varbit_behinds)] w ∧ handlesMet Tryz.prog [("errors.errorType", Rows.laid_errors_errorType)] w) := by kernel_rfl
theorem db_data : (Rows.laid_math_bits_deBruijn64tab : DataW Unit) = Lib.tabData .u8 (Lib.deBruijn64tab.map Int.ofNat) := by kernel_rfl
theorem tz_met {w : World} (h : laidMet Tryz.prog (("math/bits.deBruijn64tab", Lib.tabData .u8 (Lib.deBruijn64tab.map Int.ofNat)) :: [("tidepole/varbit.behinds", Rows.laid_tidepole_varbit_behinds)]) w) : Tz w := by
  have hv := Lib.tabIs_of_head gDb tDb Tryz.underlying318 Tryz.underlying5 cU8 cDb h
  intro j hj
  have := World.var?_cell gDb hv j
  rw [this]
  have hl : Lib.deBruijn64tab.length = 64 := by decide
  simp [List.getD_eq_getElem?_getD, hl, hj]
theorem of_laidF {w : World} (h : laidMetH Tryz.prog laidF w) : Tab w ∧ GlE w ∧ Tz w := by
  rw [split_laidF] at h
  obtain ⟨h1, h2⟩ := h
  have h3 := h1
  rw [db_data] at h3
  exact ⟨tab_met h1.tail, handle_of h2, tz_met h3⟩
end Go.Proofs.YtjfekjbmgckkcaaGreatDoor.Law18L
namespace Go.Proofs.YtjfekjbmgckkcaaGreatDoor.Ref06P
open Go.RowKit Go.Proofs.YtjfekjbmgckkcaaGreatDoorW.PrintWords
open Go.Proofs.YtjfekjbmgckkcaaGreatDoor.Base Go.Proofs.YtjfekjbmgckkcaaGreatDoor.SpanPure Go.Proofs.YtjfekjbmgckkcaaGreatDoor.SpanBase Go.Proofs.YtjfekjbmgckkcaaGreatDoor.SpanA Go.Proofs.YtjfekjbmgckkcaaGreatDoor.SpanB Go.Proofs.YtjfekjbmgckkcaaGreatDoor.SpanD Go.Proofs.YtjfekjbmgckkcaaGreatDoor.SpanQ
set_option maxRecDepth 100000 in
set_option maxHeartbeats 1600000 in
theorem places_calls (A : Option Addr) (c : Nat) (l : List Sp) (w : World) (hr : RdSp w A l) (hm : l.length ≤ 1000000000) (h0 : chk l = 0) :
    Calls Tryz.prog 115 #[.slice A l.length c] w fun e w' => ∃ v, e = .returned v ∧ OwI 3 .i64 w' w.heap.size v (places l) ∧ Below w.heap.size w w' := by
  have HR := Lib.hid hr
  have hR := right_of h0
  have HRR := Lib.hid hR
  have hpl := places_len hR
  clear hr h0 hR
  go_enter Tryz.func115, Tryz.ntmps115
  go_wp2
  go_loopw [3, 4, 5] (fun v a i wr => ∃ (k : Nat) (E : Int), k ≤ l.length ∧ i = .int .i64 k ∧ a = .int .i64 E ∧ Hid (E = endF 0 (l.take k)) ∧ OwI 3 .i64 wr w.heap.size v (placesF 0 (l.take k)) ∧ Below w.heap.size w wr) (fun _ _ i _ => l.length - (intOf i).toNat)
  case atStart => exact ⟨0, 0, by omega, rfl, rfl, Lib.hid rfl, OwI.nil _ _ _ _, Below.refl _ _⟩
  case round =>
    obtain ⟨k, E, hk, rfl, rfl, hE, ho, hb⟩ := hrel
    have HO := Lib.hid ho
    have HB := Lib.hid hb
    have hsz := hb.size
    by_cases hlt : k < l.length
    · obtain ⟨ad, hA, c0, c1⟩ := (HR.out.below hb).at_ k hlt
      have HRA := Lib.hid HR.out
      subst hA
      obtain ⟨r1, r2, r3, r4, r5, r6⟩ := right_at HRR.out k hlt
      have HPT := Lib.hid (placesF_take l k hlt)
      have HET := Lib.hid (endF_take l k hlt)
      have HPX := Lib.hid (places_prefix l k hlt)
      have HAT := Lib.hid (fun W (h : Below w.heap.size w W) => (HR.out.below h).at_ k hlt)
      obtain ⟨s, hs⟩ : ∃ s, s = l[k] := ⟨_, rfl⟩
      rw [← hs] at c0 c1 r1 r2 r3 r4 HPT HET HPX HAT
      rw [← hE.out] at r3 r4 r5 r6 HPT HET HPX
      obtain ⟨o, q⟩ := s
      simp only at c0 c1 r1 r2 r3 r4 HPT HET HPX HAT
      obtain ⟨Q, rfl⟩ := Int.eq_ofNat_of_zero_le r1
      rw [Int.toNat_natCast] at HPT HPX
      obtain ⟨D, hD⟩ : ∃ D, D = E + o := ⟨_, rfl⟩
      rw [← hD] at r3 r4 HPT HET HPX
      clear hs ho hb
      obtain ⟨wo, rfl⟩ : ∃ wo : World, wo = wr := ⟨_, rfl⟩
      go_wp2_with (fail)
      rw [← hD]
      have HD := Lib.hid hD
      clear hD
      go_loopw [3, 4, 6] (fun v a i wr => ∃ j : Nat, j ≤ Q ∧ i = .int .i64 j ∧ a = .int .i64 (D + (j : Int)) ∧ OwI 3 .i64 wr w.heap.size v (placesF 0 (l.take k) ++ runP D j) ∧ Below w.heap.size w wr) (fun _ _ i _ => Q - (intOf i).toNat)
      case atStart => exact ⟨0, by omega, rfl, by simp, by rw [runP_zero, List.append_nil]; exact HO.out, HB.out⟩
      case round =>
        clear HO HB hsz c0 c1
        obtain ⟨j, hj, rfl, rfl, ho, hb⟩ := hrel
        have HO := Lib.hid ho
        have HB := Lib.hid hb
        have hsz := hb.size
        obtain ⟨ad', hA', c0, c1⟩ := HAT.out _ hb
        injection hA' with hA'
        subst hA'
        clear ho hb
        by_cases hjl : j < Q
        · have hlen := (HPX.out (j + 1) (by omega)).length_le
          rw [List.length_append, runP_length] at hlen
          go_wp2_with (at_builtin; refine append_one (w0 := w) w.heap.size rfl (.tmp 29) (.tmp 31) 174 3 .i64 8 rfl Tryz.underlying174 infoInt (by decide) _ (placesF 0 (l.take k) ++ runP D j) (D + (j : Int)) rfl rfl HO.out HB.out hsz (by rw [List.length_append, runP_length]; omega) ?_; intro v2 w2 ho2 hb2 _ _; have HO2 := Lib.hid ho2; have HB2 := Lib.hid hb2; clear ho2 hb2)
          go_roundw
          case rel => exact ⟨j + 1, by omega, by go_num, by go_num, by rw [runP_snoc, ← List.append_assoc]; exact HO2.out, HB2.out⟩
          case measure => simp [intOf]; omega
        · obtain rfl : j = Q := by omega
          rw [← HPT.out] at HO
          have HE1 : Hid (D + (j : Int) = endF 0 (l.take (k + 1))) := Lib.hid (by rw [HET.out])
          go_wp2_with (fail)
          go_roundw
          case rel => exact ⟨k + 1, D + (j : Int), by omega, by go_num, rfl, HE1, HO.out, HB.out⟩
          case measure => simp [intOf]; omega
    · obtain rfl : k = l.length := by omega
      rw [List.take_length] at HO
      obtain ⟨A1, c1, rfl, -, -⟩ := HO.out.reads
      clear ho hb
      go_wp2
      go_ret
      exact ⟨_, rfl, HO.out, HB.out⟩
end Go.Proofs.YtjfekjbmgckkcaaGreatDoor.Ref06P
namespace Go.Proofs.YtjfekjbmgckkcaaGreatDoor.Ref10
open Go.RowKit Go.Proofs.YtjfekjbmgckkcaaGreatDoorW.PrintWords
open Go.Proofs.YtjfekjbmgckkcaaGreatDoor.Bits Go.Proofs.YtjfekjbmgckkcaaGreatDoor.Base Go.Proofs.YtjfekjbmgckkcaaGreatDoor.StreamA Go.Proofs.YtjfekjbmgckkcaaGreatDoor.Ref13 Go.Proofs.YtjfekjbmgckkcaaGreatDoor.SpanPure Go.Proofs.YtjfekjbmgckkcaaGreatDoor.SpanBase Go.Proofs.YtjfekjbmgckkcaaGreatDoor.ThrPure Go.Proofs.YtjfekjbmgckkcaaGreatDoor.HeadA Go.Proofs.YtjfekjbmgckkcaaGreatDoor.HeadB Go.Proofs.YtjfekjbmgckkcaaGreatDoor.FcPure Go.Proofs.YtjfekjbmgckkcaaGreatDoor.FcObj Go.Proofs.YtjfekjbmgckkcaaGreatDoor.FhistA
theorem right_calls (v : Nat) (w : World) :
    Calls Tryz.prog 116 #[.int .u64 v] w fun e w' => e = .returned (.bool (!decide (inf ≤ v))) ∧ w = w' := by
  have e1 : decide ((v : Int) < 9218868437227405312) = !decide (inf ≤ v) := by
    unfold inf
    rw [Bool.eq_iff_iff]
    simp
    omega
  have e1n : decide (v < 9218868437227405312) = !decide (inf ≤ v) := by
    unfold inf
    rw [Bool.eq_iff_iff]
    simp
  obtain ⟨b, hb⟩ : ∃ b, b = !decide (inf ≤ v) := ⟨_, rfl⟩
  rw [← hb] at e1 e1n ⊢
  clear hb
  go_enter Tryz.func116, Tryz.ntmps116
  go_wp2
  go_ret
  exact ⟨rfl, rfl⟩
set_option maxRecDepth 100000 in
set_option maxHeartbeats 3200000 in
theorem side_calls (A C : Option Addr) (c cc : Nat) (l : List Sp) (n : List Nat) (w : World) (hs : Spl w A c l) (hn : Nul w C cc n) :
    Calls Tryz.prog 117 #[.slice A l.length c, .slice C n.length cc] w fun e w' => e = .returned (.int .i64 (sideF l n)) ∧ Below w.heap.size w w' := by
  have hm : l.length ≤ 1000000000 := by have := hs.len; omega
  have HCK := Lib.hid (Ref06K.check_calls A c l w hs.rd hm)
  have HPL := Lib.hid (fun W (h : Below w.heap.size w W) => Ref06P.places_calls A c l W (hs.rd.below h) hm)
  have hnl := hn.len
  have HNR := Lib.hid hn.rd
  have HSF : Hid (sideF l n = _) := Lib.hid rfl
  unfold sideF at HSF
  have HSF' : Hid (sideF l n = if chk l ≠ 0 then chk l else if (places l).length ≠ n.length then 23 else if n.any (fun v => decide (inf ≤ v)) then 22 else 0) := Lib.hid rfl
  have HPLN := Lib.hid (fun (h : chk l = 0) => places_len (SpanQ.right_of h))
  clear hs hm hn HSF
  go_enter Tryz.func117, Tryz.ntmps117
  go_wp2_with (fail)
  refine HCK.out.mono ?_
  rintro e w1 ⟨rfl, hb⟩
  by_cases h1 : chk l ≠ 0
  · have HE := Lib.hid (HSF'.out.trans (if_pos h1))
    have e1 : ((chk l : Int) != 0) = true := by simp; exact h1
    have HB := Lib.hid hb
    obtain ⟨k, hk⟩ : ∃ k, k = chk l := ⟨_, rfl⟩
    rw [← hk] at e1 HE ⊢
    clear h1 hb hk HSF' HPL HCK HPLN
    go_wp2
    go_ret
    exact ⟨by rw [HE.out]; rfl, HB.out⟩
  have h0 : chk l = 0 := by omega
  have HPQ := Lib.hid (fun W (h : Below w.heap.size w W) => HPL.out W h h0)
  have hpl := HPLN.out h0
  have HS2 := Lib.hid (HSF'.out.trans (if_neg h1))
  rw [h0]
  have HB1 := Lib.hid hb
  have hsz := hb.size
  clear h1 hb HSF' HPL HCK HPLN h0
  go_wp2_with (fail)
  refine (HPQ.out _ HB1.out).mono ?_
  rintro e w2 ⟨v, rfl, ho, hb2⟩
  obtain ⟨A1, c1, rfl, -, -⟩ := ho.reads
  have HB2 := Lib.hid (below_then HB1.out hsz hb2)
  have hsz2 := HB2.out.size
  clear ho hb2
  obtain ⟨m, hm⟩ : ∃ m, m = (places l).length := ⟨_, rfl⟩
  rw [← hm] at hpl HS2 ⊢
  clear hm HPQ
  by_cases h2 : m ≠ n.length
  · have HE := Lib.hid (HS2.out.trans (if_pos h2))
    have e2 : ((m : Int) != (n.length : Int)) = true := by simp; omega
    have e2n : (m != n.length) = true := by simp; exact h2
    clear HS2 h2
    go_wp2
    go_ret
    exact ⟨by rw [HE.out]; rfl, HB2.out⟩
  have HS3 := Lib.hid (HS2.out.trans (if_neg h2))
  have e2 : ((m : Int) != (n.length : Int)) = false := by simp; omega
  have e2n : (m != n.length) = false := by simp; omega
  clear HS2 h2
  go_wp2_with (fail)
  go_loopw [6] (fun i wr => ∃ k : Nat, k ≤ n.length ∧ i = .int .i64 k ∧ Hid (anyInf (n.take k) = false) ∧ Below w.heap.size w wr) (fun i _ => n.length - (intOf i).toNat)
  case atStart => exact ⟨0, by omega, rfl, Lib.hid rfl, HB2.out⟩
  case round =>
    obtain ⟨k, hk, rfl, hf, hb⟩ := hrel
    have HB := Lib.hid hb
    by_cases hlt : k < n.length
    · obtain ⟨ad, hA, hc⟩ := nat_at (HNR.out.below hb) k hlt
      subst hA
      have HT : Hid (anyInf (n.take (k + 1)) = decide (inf ≤ n[k])) := Lib.hid (by
        have := hf.out
        unfold anyInf at this ⊢
        rw [List.take_succ_eq_append_getElem hlt, List.any_append, this]
        simp)
      have HU : Hid (decide (inf ≤ n[k]) = true → sideF l n = 22) := Lib.hid (fun h => by
        rw [HS3.out, if_pos]
        rw [List.any_eq_true]
        exact ⟨n[k], List.getElem_mem _, h⟩)
      obtain ⟨v, hv⟩ : ∃ v, v = n[k] := ⟨_, rfl⟩
      rw [← hv] at hc HT HU
      have HW := Lib.hid (right_calls v)
      cases hd : decide (inf ≤ v) with
      | true =>
        rw [hd] at HW
        have HU' := Lib.hid (HU.out hd)
        clear hv hd HU HT hf hb e2 e2n HS3
        go_wp2_with (go_at_call 116; refine (HW.out _).mono ?_; rintro e w' ⟨rfl, rfl⟩)
        go_ret
        exact ⟨by rw [HU'.out]; rfl, HB.out⟩
      | false =>
        rw [hd] at HW HT
        clear hv hd HU hf hb e2 e2n HS3
        go_wp2_with (go_at_call 116; refine (HW.out _).mono ?_; rintro e w' ⟨rfl, rfl⟩)
        go_roundw
        case rel => exact ⟨k + 1, by omega, by go_num, HT, HB.out⟩
        case measure => simp [intOf]; omega
    · obtain rfl : k = n.length := by omega
      have HE : Hid (sideF l n = 0) := Lib.hid (by
        rw [List.take_length] at hf
        rw [HS3.out, if_neg]
        intro h
        have := hf.out
        unfold anyInf at this
        rw [this] at h
        cases h)
      clear hf hb e2 e2n HS3
      go_wp2
      go_ret
      exact ⟨by rw [HE.out]; rfl, HB.out⟩
set_option maxRecDepth 100000 in
set_option maxHeartbeats 3200000 in
theorem check_calls (h : FH) (p : Lh) (w : World) (hh : FhIn w h p) :
    Calls Tryz.prog 46 #[.agg (fcs h p).toArray] w fun e w' => e = .returned (.int .i64 (errF h)) ∧ Below w.heap.size w w' := by
  obtain ⟨sc, z, zc, cn, su, pos, neg, pc, nc⟩ := h
  obtain ⟨A, c, B, d, C, cc, D, dd⟩ := p
  obtain ⟨hp, hn, hpc, hnc, -⟩ := hh
  simp only at hp hn hpc hnc
  show Calls Tryz.prog 46 #[.agg #[.int .i64 sc, .int .u64 z, .int .u64 zc, .int .u64 cn, .int .u64 su, .slice A pos.length c, .slice B neg.length d, .slice C pc.length cc, .slice D nc.length dd]] w _
  obtain ⟨W0, hW0, hbk, hal⟩ : ∃ W0 : World, W0 = w.alloc (.cells #[.int .i64 sc, .int .u64 z, .int .u64 zc, .int .u64 cn, .int .u64 su, .slice A pos.length c, .slice B neg.length d, .slice C pc.length cc, .slice D nc.length dd] 80) ∧ W0.heap[w.heap.size]? = some (.cells #[.int .i64 sc, .int .u64 z, .int .u64 zc, .int .u64 cn, .int .u64 su, .slice A pos.length c, .slice B neg.length d, .slice C pc.length cc, .slice D nc.length dd] 80 (0, 0)) ∧ Below w.heap.size w W0 := ⟨_, rfl, blk_last w _, below_alloc (Below.refl _ _) _⟩
  have HCEL : Hid (∀ W, Below W0.heap.size W0 W → (W.cell? ⟨w.heap.size, 0, none⟩ = some (.int .i64 sc) ∧ W.cell? ⟨w.heap.size, 1, none⟩ = some (.int .u64 z) ∧ W.cell? ⟨w.heap.size, 2, none⟩ = some (.int .u64 zc) ∧ W.cell? ⟨w.heap.size, 3, none⟩ = some (.int .u64 cn) ∧ W.cell? ⟨w.heap.size, 4, none⟩ = some (.int .u64 su) ∧ W.cell? ⟨w.heap.size, 5, none⟩ = some (.slice A pos.length c) ∧ W.cell? ⟨w.heap.size, 6, none⟩ = some (.slice B neg.length d) ∧ W.cell? ⟨w.heap.size, 7, none⟩ = some (.slice C pc.length cc) ∧ W.cell? ⟨w.heap.size, 8, none⟩ = some (.slice D nc.length dd))) := Lib.hid (fun W h => by
    have hb := (Ch.of_below (S := fun _ => False) h).blk hbk (fun x => x)
    exact ⟨obj_cell hb rfl, obj_cell hb rfl, obj_cell hb rfl, obj_cell hb rfl, obj_cell hb rfl, obj_cell hb rfl, obj_cell hb rfl, obj_cell hb rfl, obj_cell hb rfl⟩)
  have HSP := Lib.hid (fun W (h : Below W0.heap.size W0 W) => side_calls A C c cc pos pc W ((hp.below hal).below h) ((hpc.below hal).below h))
  have HSN := Lib.hid (fun W (h : Below W0.heap.size W0 W) => side_calls B D d dd neg nc W ((hn.below hal).below h) ((hnc.below hal).below h))
  have HZC := Lib.hid (fun W => right_calls zc W)
  have HCN := Lib.hid (fun W => right_calls cn W)
  have HW0 := Lib.hid hW0
  have HB0 := Lib.hid hal
  have HOE := Lib.hid (fun (k : Nat) (he : errF ⟨sc, z, zc, cn, su, pos, neg, pc, nc⟩ = k) W (hb : Below W0.heap.size W0 W) => (⟨by rw [he], below_then hal hal.size hb⟩ : Ending.returned (.int .i64 (k : Int)) = Ending.returned (.int .i64 (errF ⟨sc, z, zc, cn, su, pos, neg, pc, nc⟩)) ∧ Below w.heap.size w W))
  have hEF : errF ⟨sc, z, zc, cn, su, pos, neg, pc, nc⟩ = if sc < -4 ∨ 8 < sc then 21 else if inf ≤ z then 11 else if inf ≤ zc ∨ inf ≤ cn then 22 else if sideF pos pc ≠ 0 then sideF pos pc else sideF neg nc := rfl
  have B0 := Below.refl W0.heap.size W0
  obtain ⟨k0, k1, k2, k3, k4, k5, k6, k7, k8⟩ := HCEL.out _ B0
  clear hp hn hpc hnc hbk hW0 hal
  by_cases h1 : sc < -4
  · have HE := Lib.hid (hEF.trans (if_pos (.inl h1)))
    have d1 : decide (sc < -4) = true := by simpa using h1
    clear hEF
    go_enter Tryz.func46, Tryz.ntmps46
    go_wp2_with (fail)
    rw [← HW0.out]
    go_wp2
    go_ret
    exact HOE.out 21 HE.out _ B0
  have d1 : decide (sc < -4) = false := by simpa using h1
  by_cases h2 : 8 < sc
  · have HE := Lib.hid (hEF.trans (if_pos (.inr h2)))
    have d2 : decide (8 < sc) = true := by simpa using h2
    have d2' : decide (sc > 8) = true := by simpa using h2
    clear hEF
    go_enter Tryz.func46, Tryz.ntmps46
    go_wp2_with (fail)
    rw [← HW0.out]
    go_wp2
    go_ret
    exact HOE.out 21 HE.out _ B0
  have d2 : decide (8 < sc) = false := by simpa using h2
  have d2' : decide (sc > 8) = false := by simpa using h2
  rw [if_neg (show ¬ (sc < -4 ∨ 8 < sc) by omega)] at hEF
  clear h1 h2
  by_cases h3 : inf ≤ z
  · have HE := Lib.hid (hEF.trans (if_pos h3))
    have d3 : decide ((z : Int) ≥ 9218868437227405312) = true := by unfold inf at h3; simp; omega
    have d3' : decide (9218868437227405312 ≤ (z : Int)) = true := by unfold inf at h3; simp; omega
    have d3n : decide (9218868437227405312 ≤ z) = true := by unfold inf at h3; simp; omega
    clear hEF h3
    go_enter Tryz.func46, Tryz.ntmps46
    go_wp2_with (fail)
    rw [← HW0.out]
    go_wp2
    go_ret
    exact HOE.out 11 HE.out _ B0
  have d3 : decide ((z : Int) ≥ 9218868437227405312) = false := by unfold inf at h3; simp; omega
  have d3' : decide (9218868437227405312 ≤ (z : Int)) = false := by unfold inf at h3; simp; omega
  have d3n : decide (9218868437227405312 ≤ z) = false := by unfold inf at h3; simp; omega
  rw [if_neg h3] at hEF
  clear h3
  by_cases h4 : inf ≤ zc
  · have HE := Lib.hid (hEF.trans (if_pos (.inl h4)))
    rw [decide_eq_true h4] at HZC
    clear hEF h4
    go_enter Tryz.func46, Tryz.ntmps46
    go_wp2_with (fail)
    rw [← HW0.out]
    go_wp2_with (first
      | (go_at_call 116; refine (HZC.out _).mono ?_; rintro e w' ⟨rfl, rfl⟩; clear HZC)
      | (go_at_call 116; refine (HCN.out _).mono ?_; rintro e w' ⟨rfl, rfl⟩; clear HCN))
    go_ret
    exact HOE.out 22 HE.out _ B0
  rw [decide_eq_false h4] at HZC
  by_cases h5 : inf ≤ cn
  · have HE := Lib.hid (hEF.trans (if_pos (.inr h5)))
    rw [decide_eq_true h5] at HCN
    clear hEF h4 h5
    go_enter Tryz.func46, Tryz.ntmps46
    go_wp2_with (fail)
    rw [← HW0.out]
    go_wp2_with (first
      | (go_at_call 116; refine (HZC.out _).mono ?_; rintro e w' ⟨rfl, rfl⟩; clear HZC)
      | (go_at_call 116; refine (HCN.out _).mono ?_; rintro e w' ⟨rfl, rfl⟩; clear HCN))
    go_ret
    exact HOE.out 22 HE.out _ B0
  rw [decide_eq_false h5] at HCN
  rw [if_neg (show ¬ (inf ≤ zc ∨ inf ≤ cn) by omega)] at hEF
  have HEF := Lib.hid hEF
  clear h4 h5 hEF
  go_enter Tryz.func46, Tryz.ntmps46
  go_wp2_with (fail)
  rw [← HW0.out]
  go_wp2_with (first
    | (go_at_call 116; refine (HZC.out _).mono ?_; rintro e w' ⟨rfl, rfl⟩; clear HZC)
    | (go_at_call 116; refine (HCN.out _).mono ?_; rintro e w' ⟨rfl, rfl⟩; clear HCN))
  refine (HSP.out _ B0).mono ?_
  rintro e w1 ⟨rfl, hb1⟩
  by_cases h0 : sideF pos pc ≠ 0
  · have HE := Lib.hid (HEF.out.trans (if_pos h0))
    have e1 : ((sideF pos pc : Int) != 0) = true := by simp; exact h0
    have B1 := Lib.hid hb1
    clear hb1 h0
    obtain ⟨k, hk⟩ : ∃ k, k = sideF pos pc := ⟨_, rfl⟩
    rw [← hk] at e1 HE ⊢
    clear hk
    go_wp2
    go_ret
    exact HOE.out k HE.out _ B1.out
  have HE := Lib.hid (HEF.out.trans (if_neg h0))
  rw [show sideF pos pc = 0 by omega]
  have B1 := Lib.hid hb1
  obtain ⟨k0, k1, k2, k3, k4, k5, k6, k7, k8⟩ := HCEL.out _ hb1
  clear hb1 h0
  go_wp2_with (fail)
  refine (HSN.out _ B1.out).mono ?_
  rintro e w2 ⟨rfl, hb2⟩
  have B2 := Lib.hid (below_then B1.out B1.out.size hb2)
  clear hb2
  obtain ⟨k, hk⟩ : ∃ k, k = sideF neg nc := ⟨_, rfl⟩
  rw [← hk] at HE ⊢
  clear hk
  go_wp2
  go_ret
  exact HOE.out k HE.out _ B2.out
end Go.Proofs.YtjfekjbmgckkcaaGreatDoor.Ref10
namespace Go.Proofs.YtjfekjbmgckkcaaGreatDoor.StillPure
open Go.RowKit Go.Proofs.YtjfekjbmgckkcaaGreatDoorW.PrintWords
open Go.Proofs.YtjfekjbmgckkcaaGreatDoor.Bits Go.Proofs.YtjfekjbmgckkcaaGreatDoor.Base Go.Proofs.YtjfekjbmgckkcaaGreatDoor.VarPure Go.Proofs.YtjfekjbmgckkcaaGreatDoor.TimesPure Go.Proofs.YtjfekjbmgckkcaaGreatDoor.SpanPure Go.Proofs.YtjfekjbmgckkcaaGreatDoor.SpanBase Go.Proofs.YtjfekjbmgckkcaaGreatDoor.SpanQ Go.Proofs.YtjfekjbmgckkcaaGreatDoor.ThrPure Go.Proofs.YtjfekjbmgckkcaaGreatDoor.HeadA Go.Proofs.YtjfekjbmgckkcaaGreatDoor.HeadB Go.Proofs.YtjfekjbmgckkcaaGreatDoor.HeadPure Go.Proofs.YtjfekjbmgckkcaaGreatDoor.XorPure Go.Proofs.YtjfekjbmgckkcaaGreatDoor.FcPure Go.Proofs.YtjfekjbmgckkcaaGreatDoor.FcD
theorem canon_facts {l : List Sp} (h : chk l = 0) : chk (fromL (places l)) = 0 ∧ places (fromL (places l)) = places l ∧ canonical (fromL (places l)) = true ∧ (fromL (places l)).length ≤ l.length ∧ l.length ≤ 1024 := by
  have h2 := from_len h
  have h3 := places_len (right_of h)
  obtain ⟨f, hb⟩ := fromL_built (places_rising (right_of h))
  have hc : chk (fromL (places l)) = 0 := chk_zero.2 ⟨by omega, hb.right (by omega)⟩
  exact ⟨hc, hb.pl, by rw [canonical, hb.can, hc]; rfl, h2.1, h2.2⟩
def at_ (s : FS) (d : Int) (k : Nat) : FS := ⟨s.t + d * (k : Int), s.h⟩
def evens (s : FS) (d : Int) (n : Nat) : List FS := (List.range n).map (at_ s d)
theorem evens_succ (s : FS) (d : Int) (n : Nat) : evens s d (n + 1) = evens s d n ++ [at_ s d n] := by simp [evens, List.range_succ]
theorem evens_length (s : FS) (d : Int) (n : Nat) : (evens s d n).length = n := by simp [evens]
theorem at_succ (s : FS) (d : Int) (k : Nat) : (at_ s d k).t + d = (at_ s d (k + 1)).t := by
  show s.t + d * (k : Int) + d = s.t + d * ((k + 1 : Nat) : Int)
  rw [Int.natCast_add, Int.mul_add]
  simp
  omega
def shapeOf (s : FS) : Hd := ⟨1, 0, s.h.schema, s.h.zero, fromL (places s.h.pos), fromL (places s.h.neg)⟩
theorem shape_right {s : FS} (h : errF s.h = 0) : (headErr (shapeOf s)).1 = 0 := by
  obtain ⟨h1, h2, h3, -, -, h6, h7⟩ := errF_zero h
  obtain ⟨c1, -, k1, -⟩ := canon_facts (sideF_zero h6).1
  obtain ⟨c2, -, k2, -⟩ := canon_facts (sideF_zero h7).1
  have t1 : shapeE s.h.schema = 0 := if_neg (by omega)
  have t2 : thrOk s.h.zero = true := decide_eq_true h3
  have t3 : sidesE (fromL (places s.h.pos)) = 0 := by rw [sidesE, if_neg (by omega), k1]; rfl
  have t4 : sidesE (fromL (places s.h.neg)) = 0 := by rw [sidesE, if_neg (by omega), k2]; rfl
  unfold headErr shapeOf
  simp only
  rw [if_neg (by omega), if_neg (by omega), if_neg (by omega), t2, if_neg (by decide), if_neg (by omega)]
  exact t4
theorem still_right {s : FS} (h : errF s.h = 0) (d : Int) (hd : 1 ≤ d) (k : Nat) : (wrongF (shapeOf s) (evens s d k) (at_ s d k)).1 = 0 := by
  obtain ⟨-, -, -, -, -, h6, h7⟩ := errF_zero h
  obtain ⟨-, p1, -⟩ := canon_facts (sideF_zero h6).1
  obtain ⟨-, p2, -⟩ := canon_facts (sideF_zero h7).1
  have ht : ¬ (0 < (evens s d k).length ∧ (at_ s d k).t ≤ lastT (evens s d k)) := by
    rw [evens_length]
    rintro ⟨hk, hle⟩
    obtain ⟨j, rfl⟩ : ∃ j, k = j + 1 := ⟨k - 1, by omega⟩
    rw [evens_succ, lastT_snoc, ← at_succ] at hle
    omega
  unfold wrongF
  rw [if_neg (show ¬ errF (at_ s d k).h ≠ 0 from fun hn => hn h), if_neg (show ¬ (at_ s d k).h.schema ≠ (shapeOf s).schema from fun hn => hn rfl), if_neg (show ¬ (at_ s d k).h.zero ≠ (shapeOf s).zero from fun hn => hn rfl),
    if_neg (show ¬ places (at_ s d k).h.pos ≠ places (shapeOf s).pos from fun hn => hn p1.symm), if_neg (show ¬ places (at_ s d k).h.neg ≠ places (shapeOf s).neg from fun hn => hn p2.symm), if_neg ht]
theorem still_64 {s : FS} (h : In64S s) (d : Int) (k : Nat) (h1 : -9223372036854775808 ≤ s.t + d * (k : Int)) (h2 : s.t + d * (k : Int) ≤ 9223372036854775807) : In64S (at_ s d k) := ⟨h1, h2, h.h⟩
theorem even_bit (last step n : Nat) (hn : n ≠ 0) (hl : last < 18446744073709551616) (hs : step < 18446744073709551616) : told true last step n (add64 last step) = [false] := by
  rw [told, if_neg hn, sub_add _ _ hs hl]
  have : sub64 step step = 0 := by unfold sub64; omega
  rw [this]
  decide
theorem u64_add (a d : Int) : u64 (a + d) = add64 (u64 a) (u64 d) := by unfold u64 add64; omega
theorem time_bit (s : FS) (d : Int) (k : Nat) (hk : 2 ≤ k) : toldL true (ts (evens s d k)) (u64 (at_ s d k).t) = [false] := by
  obtain ⟨j, rfl⟩ : ∃ j, k = j + 2 := ⟨k - 2, by omega⟩
  have e1 : evens s d (j + 2) = evens s d (j + 1) ++ [at_ s d (j + 1)] := evens_succ s d (j + 1)
  have h1 : lastOf (ts (evens s d (j + 2))) = u64 (at_ s d (j + 1)).t := by rw [e1, ts_snoc, lastOf_snoc]
  have h2 : stepOf (ts (evens s d (j + 2))) = u64 d := by
    rw [e1, ts_snoc, stepOf_snoc, stepTo, if_neg (by rw [ts_length, evens_length]; omega), evens_succ, ts_snoc, lastOf_snoc, ← at_succ s d j, u64_add]
    exact sub_add _ _ (u64_lt _) (u64_lt _)
  rw [toldL, h1, h2, ts_length, evens_length, ← at_succ s d (j + 1), u64_add]
  exact even_bit _ _ _ (by omega) (u64_lt _) (u64_lt _)
theorem col_evens (s : FS) (d : Int) (j : Nat) : ∀ k, colX (col (evens s d (k + 1)) j) = ⟨(vals s.h).getD j 0, k + 1, (colX (col (evens s d (k + 1)) j)).ahead, (colX (col (evens s d (k + 1)) j)).len⟩ := fun k => by
  have hl : (colX (col (evens s d (k + 1)) j)).last = (vals s.h).getD j 0 := by rw [evens_succ, col_snoc, colX_snoc, putX_last]; rfl
  have hn : (colX (col (evens s d (k + 1)) j)).n = k + 1 := by rw [colX_n, col_length, evens_length]
  generalize colX (col (evens s d (k + 1)) j) = X at hl hn ⊢
  obtain ⟨a, b, e, f⟩ := X
  simp only at hl hn
  subst hl hn
  rfl
theorem col_bit (s : FS) (d : Int) (k j : Nat) (hk : 1 ≤ k) : colB (evens s d k) (at_ s d k) j = [false] := by
  obtain ⟨i, rfl⟩ : ∃ i, k = i + 1 := ⟨k - 1, by omega⟩
  unfold colB
  rw [col_evens]
  unfold toldX
  rw [if_neg (by simp)]
  exact if_pos rfl
theorem cols_bit (s : FS) (d : Int) (k n : Nat) (hk : 1 ≤ k) : (colsB (evens s d k) (at_ s d k) n).length = n := by
  induction n with
  | zero => rfl
  | succ n ih => rw [colsB_succ, List.length_append, ih, col_bit _ _ _ _ hk]; rfl
theorem still_bits (s : FS) (d : Int) (k : Nat) (hk : 2 ≤ k) : (lastB (evens s d k) (at_ s d k)).length = 4 + s.h.pc.length + s.h.nc.length := by
  rw [lastB, List.length_append, time_bit s d k hk, cols_bit _ _ _ _ (by omega)]
  show 1 + (vals s.h).length = _
  rw [vals_length]
  omega
theorem still_room {s : FS} (h : errF s.h = 0) (hx : In64S s) (d : Int) (k : Nat) (hk : k ≤ 22) (hp : s.h.pc.length ≤ 60) (hn : s.h.nc.length ≤ 60)
    (ht : ∀ j, j < k → -9223372036854775808 ≤ s.t + d * (j : Int) ∧ s.t + d * (j : Int) ≤ 9223372036854775807) : Room (shapeOf s) (evens s d k) := by
  obtain ⟨-, -, -, -, -, h6, h7⟩ := errF_zero h
  obtain ⟨-, p1, -, l1, m1⟩ := canon_facts (sideF_zero h6).1
  obtain ⟨-, p2, -, l2, m2⟩ := canon_facts (sideF_zero h7).1
  have hw : width (shapeOf s) = 3 + s.h.pc.length + s.h.nc.length := by
    unfold width shapeOf
    simp only
    rw [p1, p2, (sideF_zero h6).2.1, (sideF_zero h7).2.1]
  have hb : (bitsB (evens s d k)).length ≤ (evens s d k).length * (72 + 77 * 123) := bitsB_le (m := 123) _ (fun u hu => by
    obtain ⟨j, hj, rfl⟩ := List.mem_map.1 hu
    exact still_64 hx d j (ht j (List.mem_range.1 hj)).1 (ht j (List.mem_range.1 hj)).2) (fun u hu => by
    obtain ⟨j, hj, rfl⟩ := List.mem_map.1 hu
    show (vals s.h).length ≤ 123
    rw [vals_length]
    omega)
  rw [evens_length] at hb
  have hb2 : k * (72 + 77 * 123) ≤ 22 * (72 + 77 * 123) := Nat.mul_le_mul_right _ hk
  have he : (encH (shapeOf s)).length ≤ 8 + 72 + 72 + (72 + 144 * 1024) + (72 + 144 * 1024) := by
    unfold encH shapeOf
    simp only [List.length_append, nb_length]
    have a1 := encS_le s.h.schema
    have a2 := encT_length s.h.zero
    have a3 := encSp_le (fromL (places s.h.pos))
    have a4 := encSp_le (fromL (places s.h.neg))
    have : 144 * (fromL (places s.h.pos)).length ≤ 144 * 1024 := Nat.mul_le_mul_left _ (by omega)
    have : 144 * (fromL (places s.h.neg)).length ≤ 144 * 1024 := Nat.mul_le_mul_left _ (by omega)
    omega
  refine ⟨?_, by rw [evens_length]; omega⟩
  unfold chunkB
  rw [List.length_append, hw]
  omega
end Go.Proofs.YtjfekjbmgckkcaaGreatDoor.StillPure
namespace Go.Proofs.YtjfekjbmgckkcaaGreatDoor.HdArg
open Go.RowKit Go.Proofs.YtjfekjbmgckkcaaGreatDoorW.PrintWords
open Go.Proofs.YtjfekjbmgckkcaaGreatDoor.Base Go.Proofs.YtjfekjbmgckkcaaGreatDoor.SpanPure Go.Proofs.YtjfekjbmgckkcaaGreatDoor.SpanBase Go.Proofs.YtjfekjbmgckkcaaGreatDoor.HeadA Go.Proofs.YtjfekjbmgckkcaaGreatDoor.HeadB Go.Proofs.YtjfekjbmgckkcaaGreatDoor.Law14A
theorem rd_sp {w : World} {A : Option Addr} {l : List (Int × Int)} (h : RdC w A (Rep.all (Rep.pair (Rep.int .i64) (Rep.int .i64)) l)) : RdSp w A l := h
abbrev rSp : Rep.Rep (Int × Int) := Rep.pair (Rep.int .i64) (Rep.int .i64)
theorem u64_in {n : Int} (h : (Lit.int .u64 n).wf = true) : 0 ≤ n ∧ n < 18446744073709551616 := by
  simp [Lit.wf, IntKind.min, IntKind.max, IntKind.bits, IntKind.signed] at h
  omega
end Go.Proofs.YtjfekjbmgckkcaaGreatDoor.HdArg
namespace Go.Proofs.YtjfekjbmgckkcaaGreatDoor.FsArg
open Go.RowKit Go.Proofs.YtjfekjbmgckkcaaGreatDoorW.PrintWords
open Go.Proofs.YtjfekjbmgckkcaaGreatDoor.Bits Go.Proofs.YtjfekjbmgckkcaaGreatDoor.Base Go.Proofs.YtjfekjbmgckkcaaGreatDoor.StreamA Go.Proofs.YtjfekjbmgckkcaaGreatDoor.Ref13 Go.Proofs.YtjfekjbmgckkcaaGreatDoor.SpanPure Go.Proofs.YtjfekjbmgckkcaaGreatDoor.SpanBase Go.Proofs.YtjfekjbmgckkcaaGreatDoor.HeadA Go.Proofs.YtjfekjbmgckkcaaGreatDoor.HeadB Go.Proofs.YtjfekjbmgckkcaaGreatDoor.HeadD Go.Proofs.YtjfekjbmgckkcaaGreatDoor.HdArg Go.Proofs.YtjfekjbmgckkcaaGreatDoor.FcPure Go.Proofs.YtjfekjbmgckkcaaGreatDoor.FcObj
abbrev rNs : Rep.Rep (Rep.Sl Int) := Rep.slice (Rep.int .u64)
abbrev FhX := Int × Int × Int × Int × Int × Rep.Sl (Int × Int) × Rep.Sl (Int × Int) × Rep.Sl Int × Rep.Sl Int
abbrev FsX := Int × FhX
abbrev rFh : Rep.Rep FhX := Rep.pair (Rep.int .i64) (Rep.pair (Rep.int .u64) (Rep.pair (Rep.int .u64) (Rep.pair (Rep.int .u64) (Rep.pair (Rep.int .u64) (Rep.pair (Rep.slice rSp) (Rep.pair (Rep.slice rSp) (Rep.pair rNs rNs)))))))
abbrev rFs : Rep.Rep FsX := Rep.pair (Rep.int .i64) rFh
def un (l : List Int) : List Nat := l.map Int.toNat
theorem un_length (l : List Int) : (un l).length = l.length := by simp [un]
def fhOf (x : FhX) : FH := ⟨x.1, x.2.1.toNat, x.2.2.1.toNat, x.2.2.2.1.toNat, x.2.2.2.2.1.toNat, x.2.2.2.2.2.1.l, x.2.2.2.2.2.2.1.l, un x.2.2.2.2.2.2.2.1.l, un x.2.2.2.2.2.2.2.2.l⟩
def lhOf (x : FhX) : Lh := ⟨x.2.2.2.2.2.1.at_, x.2.2.2.2.2.1.cap, x.2.2.2.2.2.2.1.at_, x.2.2.2.2.2.2.1.cap, x.2.2.2.2.2.2.2.1.at_, x.2.2.2.2.2.2.2.1.cap, x.2.2.2.2.2.2.2.2.at_, x.2.2.2.2.2.2.2.2.cap⟩
def fsOf (x : FsX) : FS := ⟨x.1, fhOf x.2⟩
theorem nats_un {l : List Int} (h : ∀ y ∈ l, 0 ≤ y) : nats (un l) = l := by
  induction l with
  | nil => rfl
  | cons y l ih =>
    show ((y.toNat : Nat) : Int) :: nats (un l) = y :: l
    rw [ih fun z hz => h z (List.mem_cons_of_mem _ hz), Int.toNat_of_nonneg (h y List.mem_cons_self)]
theorem all_int (k : IntKind) (l : List Int) : Rep.all (Rep.int k) l = nums k l := by
  induction l with
  | nil => rfl
  | cons y l ih => rw [Rep.all_cons, ih]; rfl
theorem rd_ints {w : World} {k : IntKind} {A : Option Addr} {l : List Int} (h : RdC w A (Rep.all (Rep.int k) l)) (hm : l.length ≤ 9223372036854775807) : RdI k w A l := by
  rw [all_int] at h
  refine ⟨rfl, hm, fun hp => ?_⟩
  obtain ⟨ad, he, hc⟩ := h (by rw [nums_length]; exact hp)
  refine ⟨ad, he, fun j hj => hc j _ ?_⟩
  simp [nums, hj, List.getD_eq_getElem?_getD]
theorem nul_of {w : World} {x : Rep.Sl Int} (h : rNs.ok w x) (hl : x.l.length ≤ 1000000) : Nul w x.at_ x.cap (un x.l) ∧ (∀ v ∈ un x.l, v < 18446744073709551616) ∧ ∀ y ∈ x.l, 0 ≤ y := by
  have h0 : ∀ y ∈ x.l, 0 ≤ y := fun y hy => (u64_in (h.2 y hy)).1
  refine ⟨⟨?_, by rw [un_length]; exact hl, by rw [un_length]; exact h.1.le, h.1.nil⟩, fun v hv => ?_, h0⟩
  · rw [nats_un h0]
    exact rd_ints h.1.rd (by omega)
  · obtain ⟨y, hy, rfl⟩ := List.mem_map.1 hv
    have := u64_in (h.2 y hy)
    omega
structure Short (x : FhX) : Prop where
  pos : x.2.2.2.2.2.1.l.length ≤ 1000000
  neg : x.2.2.2.2.2.2.1.l.length ≤ 1000000
  pc : x.2.2.2.2.2.2.2.1.l.length ≤ 1000000
  nc : x.2.2.2.2.2.2.2.2.l.length ≤ 1000000
theorem enc_fh {w : World} {x : FhX} (h : rFh.ok w x) : rFh.enc x = fcs (fhOf x) (lhOf x) := by
  obtain ⟨s, z, zc, cn, su, p, n, pc, nc⟩ := x
  obtain ⟨-, h2, h3, h4, h5, -⟩ := h
  have e2 := (u64_in h2).1
  have e3 := (u64_in h3).1
  have e4 := (u64_in h4).1
  have e5 := (u64_in h5).1
  show [Value.int .i64 s, .int .u64 z, .int .u64 zc, .int .u64 cn, .int .u64 su, .slice p.at_ p.l.length p.cap, .slice n.at_ n.l.length n.cap, .slice pc.at_ pc.l.length pc.cap, .slice nc.at_ nc.l.length nc.cap] =
    [Value.int .i64 s, .int .u64 (z.toNat : Int), .int .u64 (zc.toNat : Int), .int .u64 (cn.toNat : Int), .int .u64 (su.toNat : Int), .slice p.at_ p.l.length p.cap, .slice n.at_ n.l.length n.cap, .slice pc.at_ (un pc.l).length pc.cap, .slice nc.at_ (un nc.l).length nc.cap]
  simp only at e2 e3 e4 e5
  rw [un_length, un_length, Int.toNat_of_nonneg e2, Int.toNat_of_nonneg e3, Int.toNat_of_nonneg e4, Int.toNat_of_nonneg e5]
theorem enc_fs {w : World} {x : FsX} (h : rFs.ok w x) : rFs.enc x = scs (fsOf x) (lhOf x.2) := by
  show [Value.int .i64 x.1] ++ rFh.enc x.2 = _
  rw [enc_fh h.2]
  rfl
theorem fh_in {w : World} {x : FhX} (h : rFh.ok w x) (hs : Short x) : FhIn w (fhOf x) (lhOf x) := by
  obtain ⟨s, z, zc, cn, su, p, n, pc, nc⟩ := x
  obtain ⟨s1, s2, s3, s4⟩ := hs
  obtain ⟨-, h2, h3, h4, h5, h6, h7, h8, h9⟩ := h
  obtain ⟨a1, a2, -⟩ := nul_of h8 s3
  obtain ⟨b1, b2, -⟩ := nul_of h9 s4
  have e2 := u64_in h2
  have e3 := u64_in h3
  have e4 := u64_in h4
  have e5 := u64_in h5
  simp only at e2 e3 e4 e5
  refine ⟨⟨rd_sp h6.1.rd, s1, h6.1.le, h6.1.nil⟩, ⟨rd_sp h7.1.rd, s2, h7.1.le, h7.1.nil⟩, a1, b1, ⟨?_, ?_, ?_, ?_, a2, b2⟩⟩
  · show z.toNat < _; omega
  · show zc.toNat < _; omega
  · show cn.toNat < _; omega
  · show su.toNat < _; omega
theorem i64_wf {n : Int} (h : (Lit.int .i64 n).wf = true) : -9223372036854775808 ≤ n ∧ n ≤ 9223372036854775807 := by
  simp [Lit.wf, IntKind.min, IntKind.max, IntKind.bits, IntKind.signed] at h
  omega
theorem fs64 {w : World} {x : FsX} (h : rFs.ok w x) (hs : Short x.2) : In64S (fsOf x) := ⟨(i64_wf h.1).1, (i64_wf h.1).2, (fh_in h.2 hs).n⟩
theorem on_old {α : Type} {r : Rep.Rep α} (hk : 0 < r.k) {w : World} {x : Rep.Sl α} (h : Rep.RdL r w x) : On (fun k => k < w.heap.size) x.at_ x.l.length := fun ad hA hp => RdC.lt h.rd ad hA (by rw [Rep.all_length]; exact Nat.mul_pos hp hk)
end Go.Proofs.YtjfekjbmgckkcaaGreatDoor.FsArg
namespace Go.Proofs.YtjfekjbmgckkcaaGreatDoor.FchunkStill
open Go.RowKit Go.Proofs.YtjfekjbmgckkcaaGreatDoorW.PrintWords
open Go.Proofs.YtjfekjbmgckkcaaGreatDoor.Bits Go.Proofs.YtjfekjbmgckkcaaGreatDoor.Base Go.Proofs.YtjfekjbmgckkcaaGreatDoor.VarPure Go.Proofs.YtjfekjbmgckkcaaGreatDoor.VarbitA Go.Proofs.YtjfekjbmgckkcaaGreatDoor.VarKit Go.Proofs.YtjfekjbmgckkcaaGreatDoor.StreamA Go.Proofs.YtjfekjbmgckkcaaGreatDoor.SpanPure Go.Proofs.YtjfekjbmgckkcaaGreatDoor.SpanBase Go.Proofs.YtjfekjbmgckkcaaGreatDoor.FailAs Go.Proofs.YtjfekjbmgckkcaaGreatDoor.FailB Go.Proofs.YtjfekjbmgckkcaaGreatDoor.FailC Go.Proofs.YtjfekjbmgckkcaaGreatDoor.HeadA Go.Proofs.YtjfekjbmgckkcaaGreatDoor.HeadB Go.Proofs.YtjfekjbmgckkcaaGreatDoor.HeadE Go.Proofs.YtjfekjbmgckkcaaGreatDoor.HeadPure Go.Proofs.YtjfekjbmgckkcaaGreatDoor.Ref12 Go.Proofs.YtjfekjbmgckkcaaGreatDoor.Ref13 Go.Proofs.YtjfekjbmgckkcaaGreatDoor.Ref14A Go.Proofs.YtjfekjbmgckkcaaGreatDoor.XorA Go.Proofs.YtjfekjbmgckkcaaGreatDoor.FcPure Go.Proofs.YtjfekjbmgckkcaaGreatDoor.FcObj Go.Proofs.YtjfekjbmgckkcaaGreatDoor.FcA Go.Proofs.YtjfekjbmgckkcaaGreatDoor.FcB Go.Proofs.YtjfekjbmgckkcaaGreatDoor.FcD Go.Proofs.YtjfekjbmgckkcaaGreatDoor.FcF Go.Proofs.YtjfekjbmgckkcaaGreatDoor.FcG Go.Proofs.YtjfekjbmgckkcaaGreatDoor.Law14A Go.Proofs.YtjfekjbmgckkcaaGreatDoor.Law18C Go.Proofs.YtjfekjbmgckkcaaGreatDoor.Law18L Go.Proofs.YtjfekjbmgckkcaaGreatDoor.HdArg Go.Proofs.YtjfekjbmgckkcaaGreatDoor.FsArg Go.Proofs.YtjfekjbmgckkcaaGreatDoor.HeadLaid Go.Proofs.YtjfekjbmgckkcaaGreatDoor.StillPure
open Go.Proofs.YtjfekjbmgckkcaaGreatDoor.Law14D (spl_any)
structure Lk (s : FS) (d : Int) (p : Lh) (g : Nat) (w : World) (k : Nat) (t : Int) (S : Nat → Prop) (W : World) : Prop where
  b : Below w.heap.size w W
  o : W.heap[w.heap.size]? = some (.cells #[.int .i64 t, .int .i64 s.h.schema, .int .u64 s.h.zero, .int .u64 s.h.zc, .int .u64 s.h.cnt, .int .u64 s.h.sum, .slice p.A s.h.pos.length p.c, .slice p.B s.h.neg.length p.d, .slice p.C s.h.pc.length p.cc, .slice p.D s.h.nc.length p.dd] 74 (0, 0))
  ck : Ck W g S (shapeOf s) (evens s d k)
  hs : ∀ j, S j → w.heap.size < j
  t : t = s.t + d * (k : Int)
section
variable {s : FS} {d : Int} {p : Lh} {g : Nat} {w W W2 : World} {k : Nat} {t : Int} {S : Nat → Prop}
theorem Lk.below (h : Lk s d p g w k t S W) (hb : Below W.heap.size W W2) : Lk s d p g w k t S W2 :=
  ⟨below_then h.b h.b.size hb, (hb.block _ (blk_lt h.o)).trans h.o, h.ck.below hb, h.hs, h.t⟩
theorem Lk.cells (h : Lk s d p g w k t S W) : W.cell? ⟨w.heap.size, 0, none⟩ = some (.int .i64 t) ∧ W.cell? ⟨w.heap.size, 1, none⟩ = some (.int .i64 s.h.schema) ∧ W.cell? ⟨w.heap.size, 2, none⟩ = some (.int .u64 s.h.zero) ∧ W.cell? ⟨w.heap.size, 3, none⟩ = some (.int .u64 s.h.zc) ∧ W.cell? ⟨w.heap.size, 4, none⟩ = some (.int .u64 s.h.cnt) ∧ W.cell? ⟨w.heap.size, 5, none⟩ = some (.int .u64 s.h.sum) ∧ W.cell? ⟨w.heap.size, 6, none⟩ = some (.slice p.A s.h.pos.length p.c) ∧ W.cell? ⟨w.heap.size, 7, none⟩ = some (.slice p.B s.h.neg.length p.d) ∧ W.cell? ⟨w.heap.size, 8, none⟩ = some (.slice p.C s.h.pc.length p.cc) ∧ W.cell? ⟨w.heap.size, 9, none⟩ = some (.slice p.D s.h.nc.length p.dd) := by
  have hb := h.o
  exact ⟨obj_cell hb rfl, obj_cell hb rfl, obj_cell hb rfl, obj_cell hb rfl, obj_cell hb rfl, obj_cell hb rfl, obj_cell hb rfl, obj_cell hb rfl, obj_cell hb rfl, obj_cell hb rfl⟩
theorem Lk.more (h : Lk s d p g w k t S W) (hu : Upd (fun W S => Ck W g S (shapeOf s) (evens s d k ++ [at_ s d k])) S W W2) :
    (W2.cell? ⟨w.heap.size, 0, none⟩ = some (.int .i64 t) ∧ W2.cell? ⟨w.heap.size, 1, none⟩ = some (.int .i64 s.h.schema) ∧ W2.cell? ⟨w.heap.size, 2, none⟩ = some (.int .u64 s.h.zero) ∧ W2.cell? ⟨w.heap.size, 3, none⟩ = some (.int .u64 s.h.zc) ∧ W2.cell? ⟨w.heap.size, 4, none⟩ = some (.int .u64 s.h.cnt) ∧ W2.cell? ⟨w.heap.size, 5, none⟩ = some (.int .u64 s.h.sum) ∧ W2.cell? ⟨w.heap.size, 6, none⟩ = some (.slice p.A s.h.pos.length p.c) ∧ W2.cell? ⟨w.heap.size, 7, none⟩ = some (.slice p.B s.h.neg.length p.d) ∧ W2.cell? ⟨w.heap.size, 8, none⟩ = some (.slice p.C s.h.pc.length p.cc) ∧ W2.cell? ⟨w.heap.size, 9, none⟩ = some (.slice p.D s.h.nc.length p.dd)) ∧ W2.frozen? ⟨w.heap.size, 0, none⟩ = false ∧ ∃ S', Lk s d p g w (k + 1) (t + d) S' (W2.setCell ⟨w.heap.size, 0, none⟩ (.int .i64 (t + d))) := by
  obtain ⟨S', h1, h2, h3⟩ := hu
  have hb : W2.heap[w.heap.size]? = some (.cells #[.int .i64 t, .int .i64 s.h.schema, .int .u64 s.h.zero, .int .u64 s.h.zc, .int .u64 s.h.cnt, .int .u64 s.h.sum, .slice p.A s.h.pos.length p.c, .slice p.B s.h.neg.length p.d, .slice p.C s.h.pc.length p.cc, .slice p.D s.h.nc.length p.dd] 74 (0, 0)) := h3.blk h.o fun hs => by have := h.hs _ hs; omega
  have hlt := blk_lt h.o
  have hs' : ∀ j, S' j → w.heap.size < j := fun j hj => by
    rcases h2 j hj with h4 | h4
    · exact h.hs j h4
    · omega
  have hc : Ch (fun k => k = w.heap.size) W2 (W2.setCell ⟨w.heap.size, 0, none⟩ (.int .i64 (t + d))) := (Ch.refl (fun k => k = w.heap.size) W2).setCell (p := ⟨w.heap.size, 0, none⟩) (.inl rfl) _
  refine ⟨⟨obj_cell hb rfl, obj_cell hb rfl, obj_cell hb rfl, obj_cell hb rfl, obj_cell hb rfl, obj_cell hb rfl, obj_cell hb rfl, obj_cell hb rfl, obj_cell hb rfl, obj_cell hb rfl⟩, obj_free (i := 0) hb, S', ?_, ?_, ?_, hs', ?_⟩
  · exact (h.b.trans (h3.below_of h.b.size fun j hj => Nat.le_of_lt (h.hs j hj))).trans (hc.below_of (Nat.le_trans h.b.size h3.size) fun j hj => by omega)
  · have h5 := blk_set hb 0 (.int .i64 (t + d))
    simpa using h5
  · rw [evens_succ]
    exact h1.ch hc fun j hj hn => by have := hs' j hj; omega
  · rw [h.t, Int.natCast_add, Int.mul_add]; simp; omega
end
set_option maxRecDepth 100000 in
set_option maxHeartbeats 12800000 in
theorem core (s : FS) (p : Lh) (step n : Int) (w : World) (hT : Tab w) (hE : GlE w) (hZ : Tz w) (hp : RdSp w p.A s.h.pos) (hn : RdSp w p.B s.h.neg) (lp : s.h.pos.length ≤ 9223372036854775807) (ln : s.h.neg.length ≤ 9223372036854775807) (lpc : s.h.pc.length ≤ 9223372036854775807) (lnc : s.h.nc.length ≤ 9223372036854775807)
    (HIN : s.h.pos.length ≤ 1000000 → s.h.neg.length ≤ 1000000 → s.h.pc.length ≤ 1000000 → s.h.nc.length ≤ 1000000 → FhIn w s.h p ∧ OnH (fun k => k < w.heap.size) s.h p ∧ In64S s) :
    Calls Tryz.prog 7 #[.agg (scs s p).toArray, .int .i64 step, .int .i64 n] w fun e w' => e = .returned (.bool true) ∧ Below w.heap.size w w' := by
  show Calls Tryz.prog 7 #[.agg #[.int .i64 s.t, .int .i64 s.h.schema, .int .u64 s.h.zero, .int .u64 s.h.zc, .int .u64 s.h.cnt, .int .u64 s.h.sum, .slice p.A s.h.pos.length p.c, .slice p.B s.h.neg.length p.d, .slice p.C s.h.pc.length p.cc, .slice p.D s.h.nc.length p.dd], .int .i64 step, .int .i64 n] w _
  obtain ⟨W0, hW0, hbk, hal⟩ : ∃ W0 : World, W0 = w.alloc (.cells #[.int .i64 s.t, .int .i64 s.h.schema, .int .u64 s.h.zero, .int .u64 s.h.zc, .int .u64 s.h.cnt, .int .u64 s.h.sum, .slice p.A s.h.pos.length p.c, .slice p.B s.h.neg.length p.d, .slice p.C s.h.pc.length p.cc, .slice p.D s.h.nc.length p.dd] 74) ∧ W0.heap[w.heap.size]? = some (.cells #[.int .i64 s.t, .int .i64 s.h.schema, .int .u64 s.h.zero, .int .u64 s.h.zc, .int .u64 s.h.cnt, .int .u64 s.h.sum, .slice p.A s.h.pos.length p.c, .slice p.B s.h.neg.length p.d, .slice p.C s.h.pc.length p.cc, .slice p.D s.h.nc.length p.dd] 74 (0, 0)) ∧ Below w.heap.size w W0 := ⟨_, rfl, blk_last w _, below_alloc (Below.refl _ _) _⟩
  have HCEL : Hid (∀ W : World, Below W0.heap.size W0 W → (W.cell? ⟨w.heap.size, 0, none⟩ = some (.int .i64 s.t) ∧ W.cell? ⟨w.heap.size, 1, none⟩ = some (.int .i64 s.h.schema) ∧ W.cell? ⟨w.heap.size, 2, none⟩ = some (.int .u64 s.h.zero) ∧ W.cell? ⟨w.heap.size, 3, none⟩ = some (.int .u64 s.h.zc) ∧ W.cell? ⟨w.heap.size, 4, none⟩ = some (.int .u64 s.h.cnt) ∧ W.cell? ⟨w.heap.size, 5, none⟩ = some (.int .u64 s.h.sum) ∧ W.cell? ⟨w.heap.size, 6, none⟩ = some (.slice p.A s.h.pos.length p.c) ∧ W.cell? ⟨w.heap.size, 7, none⟩ = some (.slice p.B s.h.neg.length p.d) ∧ W.cell? ⟨w.heap.size, 8, none⟩ = some (.slice p.C s.h.pc.length p.cc) ∧ W.cell? ⟨w.heap.size, 9, none⟩ = some (.slice p.D s.h.nc.length p.dd))) := Lib.hid (fun W h => by
    have hb := (h.block _ (blk_lt hbk)).trans hbk
    exact ⟨obj_cell hb rfl, obj_cell hb rfl, obj_cell hb rfl, obj_cell hb rfl, obj_cell hb rfl, obj_cell hb rfl, obj_cell hb rfl, obj_cell hb rfl, obj_cell hb rfl, obj_cell hb rfl⟩)
  have HBK := Lib.hid hbk
  have HAL := Lib.hid hal
  have HEND := Lib.hid (fun W (hb : Below W0.heap.size W0 W) => below_then hal hal.size hb)
  have HAW := Lib.hid (fun W (hb : Below w.heap.size w W) => Law18C.awake_calls W (hT.below hb) (gle_below hE hb) (hZ.below hb))
  have HF1 := Lib.hid (Law18A.few_calls p.A p.c s.h.pos W0 (hp.below hal) lp)
  have HF2 := Lib.hid (fun W (hb : Below W0.heap.size W0 W) => Law18A.few_calls p.B p.d s.h.neg W (hn.below (below_then hal hal.size hb)) ln)
  have HW0 := Lib.hid hW0
  have HTE := Lib.hid (fun W (hb : Below w.heap.size w W) => (⟨hT.below hb, gle_below hE hb, hZ.below hb⟩ : Tab W ∧ GlE W ∧ Tz W))
  have HGB := Lib.hid hT.lt
  have HGD := Lib.hid hZ.lt
  have HIN := Lib.hid HIN
  obtain ⟨k0, k1, k2, k3, k4, k5, k6, k7, k8, k9⟩ := HCEL.out _ (Below.refl _ _)
  clear hp hn hT hE hZ hbk hal hW0 lp ln
  go_enter Tryz.func7, Tryz.ntmps7
  go_wp2_with (fail)
  rw [← HW0.out]
  refine HF1.out.mono ?_
  rintro e w1 ⟨rfl, hb1⟩
  have B1 := Lib.hid hb1
  clear hb1 k0 k1 k2 k3 k4 k5 k6 k7 k8 k9
  obtain ⟨b1, hb1⟩ : ∃ b, b = few s.h.pos := ⟨_, rfl⟩
  rw [← hb1]
  cases b1 with
  | false =>
    clear hb1
    go_wp2_with (fail)
    refine (HAW.out _ (HEND.out _ B1.out)).mono ?_
    rintro e w2 ⟨rfl, hb⟩
    have B2 := Lib.hid (below_then (HEND.out _ B1.out) (HEND.out _ B1.out).size hb)
    clear hb
    go_wp2
    go_ret
    exact ⟨rfl, B2.out⟩
  | true =>
  have hl1 := few_len hb1.symm
  have HL1 := Lib.hid hl1
  obtain ⟨k0, k1, k2, k3, k4, k5, k6, k7, k8, k9⟩ := HCEL.out _ B1.out
  clear hb1 hl1
  go_wp2_with (fail)
  refine (HF2.out _ B1.out).mono ?_
  rintro e w2 ⟨rfl, hb2⟩
  have B2 := Lib.hid (below_then B1.out B1.out.size hb2)
  clear hb2 HF2 B1 k0 k1 k2 k3 k4 k5 k6 k7 k8 k9
  obtain ⟨b2, hb2⟩ : ∃ b, b = few s.h.neg := ⟨_, rfl⟩
  rw [← hb2]
  cases b2 with
  | false =>
    clear hb2
    go_wp2_with (fail)
    refine (HAW.out _ (HEND.out _ B2.out)).mono ?_
    rintro e w3 ⟨rfl, hb⟩
    have B3 := Lib.hid (below_then (HEND.out _ B2.out) (HEND.out _ B2.out).size hb)
    clear hb
    go_wp2
    go_ret
    exact ⟨rfl, B3.out⟩
  | true =>
  have hl2 := few_len hb2.symm
  have HL2 := Lib.hid hl2
  obtain ⟨k0, k1, k2, k3, k4, k5, k6, k7, k8, k9⟩ := HCEL.out _ B2.out
  clear hb2 hl2
  by_cases hc : s.h.pc.length ≤ 60 ∧ s.h.nc.length ≤ 60 ∧ 1 ≤ step ∧ step ≤ 1099511627776 ∧ 1 ≤ n ∧ n ≤ 20 ∧ -1125899906842624 ≤ s.t ∧ s.t ≤ 1125899906842624
  case neg =>
    go_wp2_with (fail)
    all_goals
      refine (HAW.out _ (HEND.out _ B2.out)).mono ?_
      rintro e w3 ⟨rfl, hb⟩
      have B3 := Lib.hid (below_then (HEND.out _ B2.out) (HEND.out _ B2.out).size hb)
      clear hb
      go_wp2
      go_ret
      exact ⟨rfl, B3.out⟩
  obtain ⟨c1, c2, c3, c4, c5, c6, c7, c8⟩ := hc
  obtain ⟨m, rfl⟩ : ∃ m : Nat, n = m := ⟨n.toNat, by omega⟩
  have d1 : decide ((60 : Int) < s.h.pc.length) = false := decide_eq_false (by omega)
  have d2 : decide ((60 : Int) < s.h.nc.length) = false := decide_eq_false (by omega)
  have d3 : decide (step < 1) = false := decide_eq_false (by omega)
  have d4 : decide (1099511627776 < step) = false := decide_eq_false (by omega)
  have d5 : decide ((m : Int) < 1) = false := decide_eq_false (by omega)
  have d6 : decide ((20 : Int) < m) = false := decide_eq_false (by omega)
  have d7 : decide (s.t < -1125899906842624) = false := decide_eq_false (by omega)
  have d8 : decide (1125899906842624 < s.t) = false := decide_eq_false (by omega)
  have HH := Lib.hid (HIN.out (by have := HL1.out; omega) (by have := HL2.out; omega) (by omega) (by omega))
  have HSA := Lib.hid (Law18E.samples_calls s p w2 (HH.out.1.below (HEND.out _ B2.out)))
  have HCC := Lib.hid (And.intro c3 c4)
  go_wp2_with (fail)
  refine HSA.out.mono ?_
  rintro e w3 ⟨A1, a1, A2, a2, rfl, hs3, -, -, hb3⟩
  have B3 := Lib.hid (below_then B2.out B2.out.size hb3)
  have HCK := Lib.hid (Ref10.check_calls s.h ⟨A1, a1, A2, a2, p.C, p.cc, p.D, p.dd⟩ w3 hs3)
  have hfl : ∀ W : World, (Instr.field 82 (.agg #[.int .i64 s.t, .int .i64 s.h.schema, .int .u64 s.h.zero, .int .u64 s.h.zc, .int .u64 s.h.cnt, .int .u64 s.h.sum, .slice A1 s.h.pos.length a1, .slice A2 s.h.neg.length a2, .slice p.C s.h.pc.length p.cc, .slice p.D s.h.nc.length p.dd]) 1).run Tryz.prog W = .ok (.agg #[.int .i64 s.h.schema, .int .u64 s.h.zero, .int .u64 s.h.zc, .int .u64 s.h.cnt, .int .u64 s.h.sum, .slice A1 s.h.pos.length a1, .slice A2 s.h.neg.length a2, .slice p.C s.h.pc.length p.cc, .slice p.D s.h.nc.length p.dd]) W := fun _ => by kernel_rfl
  clear hs3 hb3 HSA d1 d2 d3 d4 d5 d6 d7 d8 k0 k1 k2 k3 k4 k5 k6 k7 k8 k9
  dsimp only [scs, fcs]
  go_wp2_with (fail)
  refine HCK.out.mono ?_
  rintro e w4 ⟨rfl, hb4⟩
  have B4 := Lib.hid (below_then B3.out B3.out.size hb4)
  clear hb4 HCK hfl
  by_cases he : errF s.h = 0
  case neg =>
    have e1 : (((errF s.h : Nat) : Int) != 0) = true := by simp; exact he
    clear he
    go_wp2_with (fail)
    refine (HAW.out _ (HEND.out _ B4.out)).mono ?_
    rintro e w5 ⟨rfl, hb⟩
    have B5 := Lib.hid (below_then (HEND.out _ B4.out) (HEND.out _ B4.out).size hb)
    clear hb
    go_wp2
    go_ret
    exact ⟨rfl, B5.out⟩
  have HE0 := Lib.hid he
  have e1 : (((errF s.h : Nat) : Int) != 0) = false := by rw [he]; rfl
  have hx := errF_zero he
  have HK1 := Lib.hid (sideF_zero hx.2.2.2.2.2.1)
  have HK2 := Lib.hid (sideF_zero hx.2.2.2.2.2.2)
  have HPO := Lib.hid (fun W (hb : Below W0.heap.size W0 W) => HH.out.1.below (HEND.out _ hb))
  have HC1 := Lib.hid (fun W (hb : Below W0.heap.size W0 W) => SpanQ.canon_calls p.A p.c s.h.pos W (HPO.out _ hb).pos.rd (by have := HL1.out; omega) (HPO.out _ hb).pos.cap (HPO.out _ hb).pos.nil)
  have HC2 := Lib.hid (fun W (hb : Below W0.heap.size W0 W) => SpanQ.canon_calls p.B p.d s.h.neg W (HPO.out _ hb).neg.rd (by have := HL2.out; omega) (HPO.out _ hb).neg.cap (HPO.out _ hb).neg.nil)
  obtain ⟨k0, k1, k2, k3, k4, k5, k6, k7, k8, k9⟩ := HCEL.out _ B4.out
  clear he hx
  go_wp2_with (fail)
  refine (HC1.out _ B4.out).mono ?_
  rintro e w5 ⟨hb5, hcase⟩
  obtain ⟨v5, rfl, ho5⟩ : ∃ v, e = .returned (.tuple #[v, .int .i64 0]) ∧ OwSp 119 w5 w4.heap.size v (fromL (places s.h.pos)) := by
    rcases hcase with ⟨h, -⟩ | ⟨-, h⟩
    · exact absurd HK1.out.1 h
    · exact h
  have B5 := Lib.hid (below_then B4.out B4.out.size hb5)
  obtain ⟨A5, a5, rfl, -, -, -⟩ := ho5.reads
  have HO5 := Lib.hid ho5
  clear hb5 hcase ho5 k0 k1 k2 k3 k4 k5 k6 k7 k8 k9
  obtain ⟨k0, k1, k2, k3, k4, k5, k6, k7, k8, k9⟩ := HCEL.out _ B5.out
  go_wp2_with (fail)
  refine (HC2.out _ B5.out).mono ?_
  rintro e w6 ⟨hb6, hcase⟩
  obtain ⟨v6, rfl, ho6⟩ : ∃ v, e = .returned (.tuple #[v, .int .i64 0]) ∧ OwSp 119 w6 w5.heap.size v (fromL (places s.h.neg)) := by
    rcases hcase with ⟨h, -⟩ | ⟨-, h⟩
    · exact absurd HK2.out.1 h
    · exact h
  have B6 := Lib.hid (below_then B5.out B5.out.size hb6)
  obtain ⟨A6, a6, rfl, -, -, -⟩ := ho6.reads
  have HHD : Hid (HdIn w6 (shapeOf s) ⟨A5, a5, A6, a6⟩) := Lib.hid ⟨spl_any (HO5.out.below hb6) (show (fromL (places s.h.pos)).length ≤ 1000000 by have := canon_facts HK1.out.1; omega), spl_any ho6 (show (fromL (places s.h.neg)).length ≤ 1000000 by have := canon_facts HK2.out.1; omega), HH.out.1.n.zero⟩
  have HNE := Lib.hid (new_calls (shapeOf s) ⟨A5, a5, A6, a6⟩ w6 HHD.out (HTE.out _ (HEND.out _ B6.out)).2.1 (HTE.out _ (HEND.out _ B6.out)).1)
  clear hb6 hcase ho6 k0 k1 k2 k3 k4 k5 k6 k7 k8 k9
  obtain ⟨k0, k1, k2, k3, k4, k5, k6, k7, k8, k9⟩ := HCEL.out _ B6.out
  go_wp2_with (fail)
  refine HNE.out.mono ?_
  rintro e w7 ⟨hb7, hcase⟩
  obtain ⟨g, S, rfl, hk7, hs7⟩ : ∃ g S, e = .returned (.tuple #[.pointer (some ⟨g, 0, none⟩), .nilIface]) ∧ Ck w7 g S (shapeOf s) [] ∧ ∀ k, S k → w6.heap.size ≤ k := by
    rcases hcase with ⟨h, -⟩ | ⟨-, h, -⟩ | ⟨-, -, h⟩
    · exact absurd (shape_right HE0.out) h
    · exact absurd rfl h
    · exact h
  have B7 := Lib.hid (below_then B6.out B6.out.size hb7)
  have L7 : Hid (Lk s step p g w 0 s.t S w7) := Lib.hid ⟨HEND.out _ B7.out, (B7.out.block _ (blk_lt HBK.out)).trans HBK.out, hk7, fun j hj => Nat.lt_of_lt_of_le (Nat.lt_of_lt_of_le (blk_lt HBK.out) B6.out.size) (hs7 j hj), by simp⟩
  clear hb7 hcase hk7 hs7 HNE HC1 HC2 HHD HO5 k0 k1 k2 k3 k4 k5 k6 k7 k8 k9
  go_wp2_with (fail)
  go_loopw [13, 14, 15, 117] (fun _ _ _ i wr => ∃ (k : Nat) (t : Int) (S : Nat → Prop), k ≤ m + 2 ∧ i = .int .i64 k ∧ Hid (Lk s step p g w k t S wr)) (fun _ _ _ i _ => (m + 2) - (intOf i).toNat)
  case atStart => exact ⟨0, s.t, S, by omega, rfl, L7⟩
  case round =>
    obtain ⟨k, t, S2, hk, rfl, LK⟩ := hrel
    by_cases hlt : k < m + 2
    · have hbd : ∀ j : Nat, j ≤ 22 → 0 ≤ step * (j : Int) ∧ step * (j : Int) ≤ 1099511627776 * 22 := fun j hj => ⟨Int.mul_nonneg (by omega) (by omega), Int.le_trans (Int.mul_le_mul_of_nonneg_right HCC.out.2 (by omega)) (by omega)⟩
      have hbk := hbd k (by omega)
      have ht := LK.out.t
      have ht1 : -1125899906842624 ≤ t := by omega
      have ht2 : t ≤ 1125899906842624 + 1099511627776 * 22 := by omega
      obtain ⟨x, hx⟩ := LK.out.ck
      have h64 := still_64 HH.out.2.2 step k (by omega) (by omega)
      have hrm := still_room HE0.out HH.out.2.2 step k (by omega) (by omega) (by omega) (fun j hj => by have := hbd j (by omega); omega)
      have hte := HTE.out _ LK.out.b
      have HCO : Hid (Calls Tryz.prog 41 #[.pointer (some ⟨g, 0, none⟩), .agg #[.int .i64 t, .int .i64 s.h.schema, .int .u64 s.h.zero, .int .u64 s.h.zc, .int .u64 s.h.cnt, .int .u64 s.h.sum, .slice p.A s.h.pos.length p.c, .slice p.B s.h.neg.length p.d, .slice p.C s.h.pc.length p.cc, .slice p.D s.h.nc.length p.dd]] wr (CostPost (shapeOf s) (evens s step k) (at_ s step k) wr)) := Lib.hid (by
        rw [ht]
        exact cost_calls g S2 (shapeOf s) (evens s step k) x (at_ s step k) p wr hx (HH.out.1.below LK.out.b) h64 hrm hte.2.1 hte.1 hte.2.2)
      have HAP : Hid (∀ W, Below wr.heap.size wr W → Calls Tryz.prog 42 #[.pointer (some ⟨g, 0, none⟩), .agg #[.int .i64 t, .int .i64 s.h.schema, .int .u64 s.h.zero, .int .u64 s.h.zc, .int .u64 s.h.cnt, .int .u64 s.h.sum, .slice p.A s.h.pos.length p.c, .slice p.B s.h.neg.length p.d, .slice p.C s.h.pc.length p.cc, .slice p.D s.h.nc.length p.dd]] W (AppPost g S2 (shapeOf s) (evens s step k) (at_ s step k) W)) := Lib.hid (fun W hb => by
        have hte := HTE.out _ (LK.out.below hb).b
        rw [ht]
        exact append_calls g S2 (shapeOf s) (evens s step k) x (at_ s step k) p W (hx.below hb) (HH.out.1.below (LK.out.below hb).b) (HH.out.2.1.mono fun j hj hs => by have := LK.out.hs j hs; omega) h64 hrm hte.2.1 hte.1 hte.2.2
          (fun hc => by have := LK.out.hs _ hc; have := HGB.out; omega) (fun hc => by have := LK.out.hs _ hc; have := HGD.out; omega))
      have hstill := still_right HE0.out step HCC.out.1 k
      have HST := Lib.hid hstill
      have HSB := Lib.hid (fun h => still_bits s step k h)
      obtain ⟨k0, k1, k2, k3, k4, k5, k6, k7, k8, k9⟩ := LK.out.cells
      clear ht hbd hbk hx h64 hrm hte hstill
      go_wp2_with (fail)
      refine HCO.out.mono ?_
      rintro e w8 ⟨hb8, hcase⟩
      obtain rfl : e = .returned (.tuple #[.int .i64 (lastB (evens s step k) (at_ s step k)).length, .nilIface]) := by
        rcases hcase with ⟨h, -⟩ | ⟨-, h⟩
        · exact absurd HST.out h
        · exact h
      obtain ⟨lb, hlb⟩ : ∃ lb, lb = (lastB (evens s step k) (at_ s step k)).length := ⟨_, rfl⟩
      rw [← hlb] at HSB ⊢
      have L8 := Lib.hid (LK.out.below hb8)
      have B8 := Lib.hid hb8
      clear hb8 hcase hlb k0 k1 k2 k3 k4 k5 k6 k7 k8 k9
      obtain ⟨k0, k1, k2, k3, k4, k5, k6, k7, k8, k9⟩ := L8.out.cells
      have key : ∀ e w9, AppPost g S2 (shapeOf s) (evens s step k) (at_ s step k) w8 e w9 → e = .returned .nilIface ∧ (w9.cell? ⟨w.heap.size, 0, none⟩ = some (.int .i64 t) ∧ w9.cell? ⟨w.heap.size, 1, none⟩ = some (.int .i64 s.h.schema) ∧ w9.cell? ⟨w.heap.size, 2, none⟩ = some (.int .u64 s.h.zero) ∧ w9.cell? ⟨w.heap.size, 3, none⟩ = some (.int .u64 s.h.zc) ∧ w9.cell? ⟨w.heap.size, 4, none⟩ = some (.int .u64 s.h.cnt) ∧ w9.cell? ⟨w.heap.size, 5, none⟩ = some (.int .u64 s.h.sum) ∧ w9.cell? ⟨w.heap.size, 6, none⟩ = some (.slice p.A s.h.pos.length p.c) ∧ w9.cell? ⟨w.heap.size, 7, none⟩ = some (.slice p.B s.h.neg.length p.d) ∧ w9.cell? ⟨w.heap.size, 8, none⟩ = some (.slice p.C s.h.pc.length p.cc) ∧ w9.cell? ⟨w.heap.size, 9, none⟩ = some (.slice p.D s.h.nc.length p.dd)) ∧ w9.frozen? ⟨w.heap.size, 0, none⟩ = false ∧ ∃ S', Hid (Lk s step p g w (k + 1) (t + step) S' (w9.setCell ⟨w.heap.size, 0, none⟩ (.int .i64 (t + step)))) := by
        intro e w9 h
        rcases h with ⟨h, -⟩ | ⟨-, rfl, hu⟩
        · exact absurd HST.out h
        · obtain ⟨h1, h2, S', h3⟩ := L8.out.more hu
          exact ⟨rfl, h1, h2, S', Lib.hid h3⟩
      have HKEY := Lib.hid key
      clear key
      by_cases h2 : 2 ≤ k
      · have hlb := HSB.out h2
        have d1 : decide ((1 : Int) < k) = true := decide_eq_true (by omega)
        have d2 : ((lb : Int) != 4 + (s.h.pc.length : Int) + (s.h.nc.length : Int)) = false := by simp; omega
        clear hlb
        go_wp2_with (fail)
        refine (HAP.out _ B8.out).mono ?_
        rintro e w9 hap
        obtain ⟨rfl, ⟨j0, j1, j2, j3, j4, j5, j6, j7, j8, j9⟩, f0, S3, HL⟩ := HKEY.out _ _ hap
        clear hap k0 k1 k2 k3 k4 k5 k6 k7 k8 k9
        go_wp2
        go_roundw
        case rel => exact ⟨k + 1, t + step, S3, by omega, by go_num, HL⟩
        case measure => simp [intOf]; omega
      · have d1 : decide ((1 : Int) < k) = false := decide_eq_false (by omega)
        go_wp2_with (fail)
        refine (HAP.out _ B8.out).mono ?_
        rintro e w9 hap
        obtain ⟨rfl, ⟨j0, j1, j2, j3, j4, j5, j6, j7, j8, j9⟩, f0, S3, HL⟩ := HKEY.out _ _ hap
        clear hap k0 k1 k2 k3 k4 k5 k6 k7 k8 k9
        go_wp2
        go_roundw
        case rel => exact ⟨k + 1, t + step, S3, by omega, by go_num, HL⟩
        case measure => simp [intOf]; omega
    · obtain rfl : k = m + 2 := by omega
      obtain ⟨x, hx⟩ := LK.out.ck
      have HLE := Lib.hid (len_calls g S2 (shapeOf s) (evens s step (m + 2)) x wr hx)
      rw [evens_length] at HLE
      have B8 := Lib.hid LK.out.b
      clear hx LK
      go_wp2_with (fail)
      refine HLE.out.mono ?_
      rintro e w9 ⟨rfl, rfl⟩
      go_wp2_with (fail)
      refine (HAW.out _ B8.out).mono ?_
      rintro e w10 ⟨rfl, hb⟩
      have B9 := Lib.hid (below_then B8.out B8.out.size hb)
      clear hb
      go_wp2
      go_ret
      exact ⟨rfl, B9.out⟩
theorem walk (x : FsX) (step n : Int) (w : World) (hx : rFs.ok w x) (_ : (Lit.int .i64 step).wf = true) (_ : (Lit.int .i64 n).wf = true) (hL : laidMetH Tryz.prog laidF w) :
    Calls Tryz.prog 7 #[.agg (rFs.enc x).toArray, .int .i64 step, .int .i64 n] w fun e w' => e = .returned (.bool true) ∧ Below w.heap.size w w' := by
  obtain ⟨hT, hE, hZ⟩ := of_laidF hL
  rw [enc_fs hx]
  have hx2 := hx.2
  obtain ⟨-, -, -, -, -, h6, h7, h8, h9⟩ := hx2
  have l6 := Nat.le_trans h6.1.le h6.1.max
  have l7 := Nat.le_trans h7.1.le h7.1.max
  have l8 := Nat.le_trans h8.1.le h8.1.max
  have l9 := Nat.le_trans h9.1.le h9.1.max
  unfold maxLen at l6 l7 l8 l9
  refine core (fsOf x) (lhOf x.2) step n w hT hE hZ (rd_sp h6.1.rd) (rd_sp h7.1.rd) l6 l7 (by show (un x.2.2.2.2.2.2.2.2.1.l).length ≤ _; rw [un_length]; exact l8) (by show (un x.2.2.2.2.2.2.2.2.2.l).length ≤ _; rw [un_length]; exact l9) fun s1 s2 s3 s4 => ?_
  have hsh : Short x.2 := ⟨s1, s2, by rw [← un_length]; exact s3, by rw [← un_length]; exact s4⟩
  refine ⟨fh_in hx.2 hsh, ⟨on_old (by decide) h6.1, on_old (by decide) h7.1, ?_, ?_⟩, fs64 hx hsh⟩
  · intro ad hA hp
    exact on_old (r := Rep.int .u64) (by decide) h8.1 ad hA (by rw [← un_length]; exact hp)
  · intro ad hA hp
    exact on_old (r := Rep.int .u64) (by decide) h9.1 ad hA (by rw [← un_length]; exact hp)
end Go.Proofs.YtjfekjbmgckkcaaGreatDoor.FchunkStill
