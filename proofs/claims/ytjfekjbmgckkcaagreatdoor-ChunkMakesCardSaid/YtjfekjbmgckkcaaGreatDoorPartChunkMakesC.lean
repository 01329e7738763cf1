/- what ChunkMakes stands on, part 3. -/
import Derived.Test.YtjfekjbmgckkcaaGreatDoorPartChunkMakesB
import Derived.Deep.RegionHeld3
import Derived.Deep.QuietTactic
import Derived.BigQuiet
import Derived.Deep.AppendLies
import Derived.Deep.RegionLaw
import Derived.Test.YtjfekjbmgckkcaaGreatDoorPartChunkMakesA
import Derived.Test.YtjfekjbmgckkcaaGreatDoorProg
import Derived.ProofKit
import Derived.LaidMore
import Derived.Lib.LaidTab
import Derived.Deep.RegionHeldLaw
import Derived.Test.YtjfekjbmgckkcaaGreatDoorRows
import Derived.Stop.LaidErr
namespace Go.Proofs.YtjfekjbmgckkcaaGreatDoor.CkD
open Go.RowKit Go.Proofs.YtjfekjbmgckkcaaGreatDoorW.PrintWords
open Go.Proofs.YtjfekjbmgckkcaaGreatDoor.Bits Go.Proofs.YtjfekjbmgckkcaaGreatDoor.Base Go.Proofs.YtjfekjbmgckkcaaGreatDoor.VarPure Go.Proofs.YtjfekjbmgckkcaaGreatDoor.VarbitA Go.Proofs.YtjfekjbmgckkcaaGreatDoor.StreamA Go.Proofs.YtjfekjbmgckkcaaGreatDoor.TimesPure Go.Proofs.YtjfekjbmgckkcaaGreatDoor.TimesA Go.Proofs.YtjfekjbmgckkcaaGreatDoor.Ref12 Go.Proofs.YtjfekjbmgckkcaaGreatDoor.SpanPure Go.Proofs.YtjfekjbmgckkcaaGreatDoor.SpanBase Go.Proofs.YtjfekjbmgckkcaaGreatDoor.FailAs Go.Proofs.YtjfekjbmgckkcaaGreatDoor.FailB Go.Proofs.YtjfekjbmgckkcaaGreatDoor.FailC Go.Proofs.YtjfekjbmgckkcaaGreatDoor.HeadA Go.Proofs.YtjfekjbmgckkcaaGreatDoor.HeadB Go.Proofs.YtjfekjbmgckkcaaGreatDoor.HeadE Go.Proofs.YtjfekjbmgckkcaaGreatDoor.HeadPure Go.Proofs.YtjfekjbmgckkcaaGreatDoor.XorPure Go.Proofs.YtjfekjbmgckkcaaGreatDoor.XorA Go.Proofs.YtjfekjbmgckkcaaGreatDoor.XorB Go.Proofs.YtjfekjbmgckkcaaGreatDoor.CkPure Go.Proofs.YtjfekjbmgckkcaaGreatDoor.CkObj Go.Proofs.YtjfekjbmgckkcaaGreatDoor.CkA Go.Proofs.YtjfekjbmgckkcaaGreatDoor.CkB Go.Proofs.YtjfekjbmgckkcaaGreatDoor.CkC
def chunkB (q : Hd) (l : List IS) : List Bool := encH q ++ bitsB l
set_option maxHeartbeats 400000 in
theorem bits_calls (g : Nat) (S : Nat → Prop) (q : Hd) (l : List IS) (x : IkL) (w : World) (hF : Ik w g S q l x) (hm : (chunkB q l).length ≤ 1000000000) :
    Calls Tryz.prog 58 #[.pointer (some ⟨g, 0, none⟩)] w fun e w' => e = .returned (.int .i64 (16 + (chunkB q l).length : Nat)) ∧ w = w' := by
  have c6 : w.cell? ⟨g, 6, none⟩ = some (.pointer (some ⟨x.gw, 0, none⟩)) := obj_cell hF.obj rfl
  have HL := Lib.hid (len_calls x.gw x.Sw _ w hF.wr)
  rw [show encH q ++ bitsB l = chunkB q l from rfl] at HL
  obtain ⟨n, hn⟩ : ∃ n, n = (chunkB q l).length := ⟨_, rfl⟩
  rw [← hn] at HL hm ⊢
  clear hF hn
  go_enter Tryz.func58, Tryz.ntmps58
  go_wp2_with (fail)
  refine HL.out.mono ?_
  rintro e w' ⟨rfl, rfl⟩
  go_wp2
  go_ret
  exact ⟨by go_num, rfl⟩
set_option maxHeartbeats 400000 in
theorem len_calls (g : Nat) (S : Nat → Prop) (q : Hd) (l : List IS) (x : IkL) (w : World) (hF : Ik w g S q l x) :
    Calls Tryz.prog 64 #[.pointer (some ⟨g, 0, none⟩)] w fun e w' => e = .returned (.int .i64 l.length) ∧ w = w' := by
  have c7 : w.cell? ⟨g, 7, none⟩ = some (.int .i64 l.length) := obj_cell hF.obj rfl
  clear hF
  go_enter Tryz.func64, Tryz.ntmps64
  go_wp2
  go_ret
  exact ⟨rfl, rfl⟩
def Room (q : Hd) (l : List IS) : Prop := 16 + (chunkB q l).length + (72 + 77 * width q) ≤ 16777216 ∧ l.length < 1000
def CostPost (q : Hd) (l : List IS) (s : IS) (w : World) (e : Ending) (w' : World) : Prop :=
  Below w.heap.size w w' ∧ (((wrongI q l s).1 ≠ 0 ∧ ∃ v, e = .returned (.tuple #[.int .i64 0, v]) ∧ Err w' v (plc (wrongI q l s).1 (wrongI q l s).2 l.length) .nilIface) ∨
    ((wrongI q l s).1 = 0 ∧ e = .returned (.tuple #[.int .i64 (lastB l s).length, .nilIface])))
theorem getD_at {l : List Nat} {k : Nat} (h : k < l.length) : l.getD k 0 = l[k] := by rw [List.getD_eq_getElem?_getD, List.getElem?_eq_getElem h]; rfl
theorem wrong_short {q : Hd} {l : List IS} {s : IS} (h : (wrongI q l s).1 = 0) : s.h.pd.length ≤ 4096 ∧ s.h.nd.length ≤ 4096 := by
  obtain ⟨h1, -, -, h4, h5, -⟩ := wrong_zero h
  obtain ⟨-, -, -, h6, h7, -⟩ := errI_zero h1
  have := places_len (SpanQ.right_of (sideI_zero h6).1)
  have := places_len (SpanQ.right_of (sideI_zero h7).1)
  exact ⟨by rw [← (sideI_zero h6).2.1]; omega, by rw [← (sideI_zero h7).2.1]; omega⟩
def cs5 (q : Hd) (x : IkL) : List Value := [.pointer (some ⟨x.gt, 0, none⟩), .pointer (some ⟨x.cols.getD 0 0, 0, none⟩), .pointer (some ⟨x.cols.getD 1 0, 0, none⟩), .pointer (some ⟨x.cols.getD 2 0, 0, none⟩), .slice x.va (width q - 3) x.vc]
section
variable {w : World} {g : Nat} {S : Nat → Prop} {q : Hd} {l : List IS} {x : IkL}
theorem Ik.at0 (h : Ik w g S q l x) : ∃ hk : 0 < x.cols.length, x.cols.getD 0 0 = x.cols[0] ∧ TrU w (x.cols.getD 0 0) (lastOf (col l 0)) (stepOf (col l 0)) (col l 0).length := by
  have hk : 0 < x.cols.length := by rw [h.cl]; unfold width; omega
  have he : x.cols.getD 0 0 = x.cols[0] := getD_at hk
  have := h.xs 0 hk
  unfold ColK at this
  rw [if_pos (by decide)] at this
  exact ⟨hk, he, by rw [he]; exact this⟩
theorem Ik.at1 (h : Ik w g S q l x) : ∃ hk : 1 < x.cols.length, x.cols.getD 1 0 = x.cols[1] ∧ TrU w (x.cols.getD 1 0) (lastOf (col l 1)) (stepOf (col l 1)) (col l 1).length := by
  have hk : 1 < x.cols.length := by rw [h.cl]; unfold width; omega
  have he : x.cols.getD 1 0 = x.cols[1] := getD_at hk
  have := h.xs 1 hk
  unfold ColK at this
  rw [if_pos (by decide)] at this
  exact ⟨hk, he, by rw [he]; exact this⟩
theorem Ik.at2 (h : Ik w g S q l x) : ∃ hk : 2 < x.cols.length, x.cols.getD 2 0 = x.cols[2] ∧ XrS w (x.cols.getD 2 0) (colX (col l 2)) := by
  have hk : 2 < x.cols.length := by rw [h.cl]; unfold width; omega
  have he : x.cols.getD 2 0 = x.cols[2] := getD_at hk
  have := h.xs 2 hk
  unfold ColK at this
  rw [if_neg (by decide), if_pos rfl] at this
  exact ⟨hk, he, by rw [he]; exact this⟩
theorem Ik.at3 (h : Ik w g S q l x) (k : Nat) (hk : 3 + k < x.cols.length) : TrS w x.cols[3 + k] (lastOf (col l (3 + k))) (stepOf (col l (3 + k))) (col l (3 + k)).length := by
  have := h.xs (3 + k) hk
  unfold ColK at this
  rwa [if_neg (by omega), if_neg (by omega)] at this
end
theorem vals_at (h : IH) (k : Nat) (hk : k < (h.pd ++ h.nd).length) : (vals h).getD (3 + k) 0 = u64 (h.pd ++ h.nd)[k] := by
  have e : (vals h)[3 + k]? = some (u64 (h.pd ++ h.nd)[k]) := by
    unfold vals
    rw [List.getElem?_append_right (by simp), show 3 + k - [h.cnt, h.zc, h.sum].length = k from by simp, List.getElem?_map, List.getElem?_eq_getElem hk]
    rfl
  rw [List.getD_eq_getElem?_getD, e]
  rfl
theorem drawn_below {w w' : World} (h : Drawn0 w w') : Below w.heap.size w w' := by
  obtain ⟨m, rfl⟩ := h
  exact pw_below_drewN (Below.refl _ _) m
set_option maxRecDepth 100000 in
set_option maxHeartbeats 6400000 in
theorem cols_cost (g : Nat) (S : Nat → Prop) (q : Hd) (l : List IS) (x : IkL) (s : IS) (p : Lh) (w : World) (hF : Ik w g S q l x) (hs : IhIn w s.h p) (h64 : In64S s) (hT : Tab w) (hZ : Tz w) (hw0 : (wrongI q l s).1 = 0) :
    Calls Tryz.prog 134 #[.agg (cs5 q x).toArray, .agg (isc s p).toArray] w fun e w' => e = .returned (.int .i64 (lastB l s).length) ∧ Below w.heap.size w w' := by
  obtain ⟨hz1, hz2⟩ := wrong_short hw0
  have hvl := wrong_width hw0
  have HLB := Lib.hid (show (lastB l s).length = (toldL true (ts l) (u64 s.t)).length + (colsB l s (vals s.h).length).length from by unfold lastB; rw [List.length_append])
  have HCS := Lib.hid (fun k => (by rw [colsB_succ, List.length_append] : (colsB l s (k + 1)).length = (colsB l s k).length + (colB l s k).length))
  have HCL := Lib.hid (fun k => colsB_le hF.n64 h64 k)
  have HCB := Lib.hid (fun k => colB_le hF.n64 h64 k)
  have hTL := toldL_le true (ts l) (u64 s.t)
  have HTC := Lib.hid (fun W (h : Below w.heap.size w W) => costS_calls x.gt (lastOf (ts l)) (stepOf (ts l)) l.length (u64 s.t) W (hT.below h) (hF.below h).tr (u64_lt _))
  rw [show told true (lastOf (ts l)) (stepOf (ts l)) l.length (u64 s.t) = toldL true (ts l) (u64 s.t) from by unfold toldL; rw [ts_length], i64_u64 s.t h64.lo h64.hi] at HTC
  have HU0 := Lib.hid (fun W (h : Below w.heap.size w W) => costU_calls (x.cols.getD 0 0) (lastOf (col l 0)) (stepOf (col l 0)) (col l 0).length s.h.cnt W (hT.below h) (Ik.at0 (hF.below h)).choose_spec.2 h64.h.cnt)
  have HU1 := Lib.hid (fun W (h : Below w.heap.size w W) => costU_calls (x.cols.getD 1 0) (lastOf (col l 1)) (stepOf (col l 1)) (col l 1).length s.h.zc W (hT.below h) (Ik.at1 (hF.below h)).choose_spec.2 h64.h.zc)
  have HX2 := Lib.hid (fun W (h : Below w.heap.size w W) => XorB.cost_calls (x.cols.getD 2 0) (colX (col l 2)) s.h.sum W (hZ.below h) (Ik.at2 (hF.below h)).choose_spec.2 h64.h.sum)
  have HBK := Lib.hid (fun W (h : Below w.heap.size w W) (k : Nat) (hk : 3 + k < x.cols.length) => costS_calls x.cols[3 + k] (lastOf (col l (3 + k))) (stepOf (col l (3 + k))) (col l (3 + k)).length ((vals s.h).getD (3 + k) 0) W (hT.below h) (Ik.at3 (hF.below h) k hk) (getD64 (vals64 h64.h) _))
  have HVP := Lib.hid (fun W (h : Below w.heap.size w W) (k : Nat) (hk : 3 + k < x.cols.length) => (hF.below h).vals k hk)
  have HDE := Lib.hid (fun W (h : Below w.heap.size w W) => deltas_calls s p W (hs.below h) hz1 hz2)
  have hdl : (s.h.pd ++ s.h.nd).length = width q - 3 := by
    rw [vals_length] at hvl
    rw [List.length_append]; omega
  have H64 : Hid (∀ y ∈ s.h.pd ++ s.h.nd, -9223372036854775808 ≤ y ∧ y ≤ 9223372036854775807) := Lib.hid (fun y hy => by
    rcases List.mem_append.1 hy with h | h
    · exact h64.h.pd y h
    · exact h64.h.nd y h)
  have HCO := Lib.hid (show ∀ k, (told true (lastOf (col l (3 + k))) (stepOf (col l (3 + k))) (col l (3 + k)).length ((vals s.h).getD (3 + k) 0)).length = (colB l s (3 + k)).length from fun k => by unfold colB; rw [if_neg (by omega), if_neg (by omega)]; rfl)
  have HA0 := Lib.hid (show (told false (lastOf (col l 0)) (stepOf (col l 0)) (col l 0).length s.h.cnt).length = (colB l s 0).length from rfl)
  have HA1 := Lib.hid (show (told false (lastOf (col l 1)) (stepOf (col l 1)) (col l 1).length s.h.zc).length = (colB l s 1).length from rfl)
  have HA2 := Lib.hid (show (toldX (colX (col l 2)) s.h.sum).length = (colB l s 2).length from rfl)
  have h30 : (colsB l s 3).length = (colB l s 0).length + (colB l s 1).length + (colB l s 2).length := by rw [HCS.out, HCS.out, HCS.out]; simp [colsB_zero]
  rw [HA0.out] at HU0
  rw [HA1.out] at HU1
  rw [HA2.out] at HX2
  have HCN := Lib.hid hF.cl
  have HVC := Lib.hid hF.vc
  have hw3 : 3 ≤ width q := by unfold width; omega
  have hwm : width q ≤ 9000 := by rw [← hvl, vals_length]; omega
  have ha0 := HCB.out 0
  have ha1 := HCB.out 1
  have ha2 := HCB.out 2
  obtain ⟨vs, hvs⟩ : ∃ vs, vs = s.h.pd ++ s.h.nd := ⟨_, rfl⟩
  have HVA := Lib.hid (fun k (hk : k < vs.length) => (by subst hvs; exact vals_at s.h k hk : (vals s.h).getD (3 + k) 0 = u64 vs[k]))
  rw [← hvs] at HDE hdl H64
  rw [hvl] at HLB
  obtain ⟨tl, htl⟩ : ∃ tl, tl = (toldL true (ts l) (u64 s.t)).length := ⟨_, rfl⟩
  rw [← htl] at HLB HTC hTL
  obtain ⟨a0, hae0⟩ : ∃ a, a = (colB l s 0).length := ⟨_, rfl⟩
  obtain ⟨a1, hae1⟩ : ∃ a, a = (colB l s 1).length := ⟨_, rfl⟩
  obtain ⟨a2, hae2⟩ : ∃ a, a = (colB l s 2).length := ⟨_, rfl⟩
  rw [← hae0] at HU0 ha0 h30
  rw [← hae1] at HU1 ha1 h30
  rw [← hae2] at HX2 ha2 h30
  obtain ⟨lb, hlb⟩ : ∃ lb, lb = (lastB l s).length := ⟨_, rfl⟩
  rw [← hlb] at HLB ⊢
  obtain ⟨M, hM⟩ : ∃ M, M = width q - 3 := ⟨_, rfl⟩
  have hwM : width q = 3 + M := by omega
  rw [hwM] at HLB HCN
  rw [← hM] at hdl HVC
  have hMm : M ≤ 9000 := by omega
  obtain ⟨cf, hcf⟩ : ∃ cf : Nat → Nat, cf = fun k => (colsB l s (3 + k)).length := ⟨_, rfl⟩
  have HF1 : Hid (∀ k, cf (k + 1) = cf k + (colB l s (3 + k)).length) := Lib.hid (fun k => by rw [hcf]; exact HCS.out (3 + k))
  have HF2 : Hid (∀ k, cf k ≤ 77 * (3 + k)) := Lib.hid (fun k => by rw [hcf]; exact HCL.out (3 + k))
  have HC0 : Hid (cf 0 = a0 + a1 + a2) := Lib.hid (by rw [hcf]; exact h30)
  rw [show (colsB l s (3 + M)).length = cf M from by rw [hcf]] at HLB
  have HMM := Lib.hid hM
  clear hF hs hT hZ hw0 hvl HCS HCL HCB h30 HA0 HA1 HA2 hcf hlb htl hae0 hae1 hae2 hwM hw3 hwm hz1 hz2 hvs
  dsimp only [cs5]
  rw [← hM]
  clear hM
  obtain ⟨⟨pA, pc', pB, pd'⟩, gw, gt, Sw, va, vc, cols, lr, TT⟩ := x
  simp only at HBK HVP HCN HVC HTC HU0 HU1 HX2 ⊢
  obtain ⟨c0, hc0⟩ : ∃ c, c = cols.getD 0 0 := ⟨_, rfl⟩
  obtain ⟨c1, hc1⟩ : ∃ c, c = cols.getD 1 0 := ⟨_, rfl⟩
  obtain ⟨c2, hc2⟩ : ∃ c, c = cols.getD 2 0 := ⟨_, rfl⟩
  rw [← hc0] at HU0 ⊢
  rw [← hc1] at HU1 ⊢
  rw [← hc2] at HX2 ⊢
  clear hc0 hc1 hc2
  obtain ⟨t, sc, z, zc, cn, su, pos, neg, pd, nd⟩ := s
  obtain ⟨A, c, B, d, C, cc, D, dd⟩ := p
  simp only [isc, ics] at HDE HTC HU0 HU1 HX2
  show Calls Tryz.prog 134 #[.agg #[.pointer (some ⟨gt, 0, none⟩), .pointer (some ⟨c0, 0, none⟩), .pointer (some ⟨c1, 0, none⟩), .pointer (some ⟨c2, 0, none⟩), .slice va M vc], .agg #[.int .i64 t, .int .i64 sc, .int .u64 z, .int .u64 zc, .int .u64 cn, .int .u64 su, .slice A pos.length c, .slice B neg.length d, .slice C pd.length cc, .slice D nd.length dd]] w _
  obtain ⟨W0, hW0, hg1, hg2, hal⟩ : ∃ W0 : World, W0 = (w.alloc (.cells #[.pointer (some ⟨gt, 0, none⟩), .pointer (some ⟨c0, 0, none⟩), .pointer (some ⟨c1, 0, none⟩), .pointer (some ⟨c2, 0, none⟩), .slice va M vc] 192)).alloc (.cells #[.int .i64 t, .int .i64 sc, .int .u64 z, .int .u64 zc, .int .u64 cn, .int .u64 su, .slice A pos.length c, .slice B neg.length d, .slice C pd.length cc, .slice D nd.length dd] 102) ∧ W0.heap[w.heap.size]? = some (.cells #[.pointer (some ⟨gt, 0, none⟩), .pointer (some ⟨c0, 0, none⟩), .pointer (some ⟨c1, 0, none⟩), .pointer (some ⟨c2, 0, none⟩), .slice va M vc] 192 (0, 0)) ∧ W0.heap[w.heap.size + 1]? = some (.cells #[.int .i64 t, .int .i64 sc, .int .u64 z, .int .u64 zc, .int .u64 cn, .int .u64 su, .slice A pos.length c, .slice B neg.length d, .slice C pd.length cc, .slice D nd.length dd] 102 (0, 0)) ∧ Below w.heap.size w W0 :=
    ⟨_, rfl, (Below.heap_alloc _ _ w.heap.size (blk_lt (blk_last w _))).trans (blk_last w _), by
      have := blk_last (w.alloc (.cells #[.pointer (some ⟨gt, 0, none⟩), .pointer (some ⟨c0, 0, none⟩), .pointer (some ⟨c1, 0, none⟩), .pointer (some ⟨c2, 0, none⟩), .slice va M vc] 192)) (.cells #[.int .i64 t, .int .i64 sc, .int .u64 z, .int .u64 zc, .int .u64 cn, .int .u64 su, .slice A pos.length c, .slice B neg.length d, .slice C pd.length cc, .slice D nd.length dd] 102)
      rwa [show (w.alloc (.cells #[.pointer (some ⟨gt, 0, none⟩), .pointer (some ⟨c0, 0, none⟩), .pointer (some ⟨c1, 0, none⟩), .pointer (some ⟨c2, 0, none⟩), .slice va M vc] 192)).heap.size = w.heap.size + 1 from by simp] at this, below_alloc (below_alloc (Below.refl _ _) _) _⟩
  have HCE : Hid (∀ W : World, Below W0.heap.size W0 W → (Below W0.heap.size W0 W ∧ W.cell? ⟨w.heap.size, 0, none⟩ = some (.pointer (some ⟨gt, 0, none⟩)) ∧ W.cell? ⟨w.heap.size, 1, none⟩ = some (.pointer (some ⟨c0, 0, none⟩)) ∧ W.cell? ⟨w.heap.size, 2, none⟩ = some (.pointer (some ⟨c1, 0, none⟩)) ∧ W.cell? ⟨w.heap.size, 3, none⟩ = some (.pointer (some ⟨c2, 0, none⟩)) ∧ W.cell? ⟨w.heap.size, 4, none⟩ = some (.slice va M vc) ∧ W.cell? ⟨w.heap.size + 1, 0, none⟩ = some (.int .i64 t) ∧ W.cell? ⟨w.heap.size + 1, 1, none⟩ = some (.int .i64 sc) ∧ W.cell? ⟨w.heap.size + 1, 2, none⟩ = some (.int .u64 z) ∧ W.cell? ⟨w.heap.size + 1, 3, none⟩ = some (.int .u64 zc) ∧ W.cell? ⟨w.heap.size + 1, 4, none⟩ = some (.int .u64 cn) ∧ W.cell? ⟨w.heap.size + 1, 5, none⟩ = some (.int .u64 su) ∧ W.cell? ⟨w.heap.size + 1, 6, none⟩ = some (.slice A pos.length c) ∧ W.cell? ⟨w.heap.size + 1, 7, none⟩ = some (.slice B neg.length d) ∧ W.cell? ⟨w.heap.size + 1, 8, none⟩ = some (.slice C pd.length cc) ∧ W.cell? ⟨w.heap.size + 1, 9, none⟩ = some (.slice D nd.length dd))) := Lib.hid (fun W hb => by
    have h1 := (hb.block _ (blk_lt hg1)).trans hg1
    have h2 := (hb.block _ (blk_lt hg2)).trans hg2
    exact ⟨hb, obj_cell h1 rfl, obj_cell h1 rfl, obj_cell h1 rfl, obj_cell h1 rfl, obj_cell h1 rfl, obj_cell h2 rfl, obj_cell h2 rfl, obj_cell h2 rfl, obj_cell h2 rfl, obj_cell h2 rfl, obj_cell h2 rfl, obj_cell h2 rfl, obj_cell h2 rfl, obj_cell h2 rfl, obj_cell h2 rfl⟩)
  have HEND := Lib.hid (fun W (hb : Below W0.heap.size W0 W) => below_then hal hal.size hb)
  have HW0 := Lib.hid hW0
  have bd0 : Below W0.heap.size W0 W0.drew := below_drew (Below.refl _ _)
  have hw1 : IntKind.i64.wrap ((tl : Int) + (a0 : Int)) = (tl : Int) + (a0 : Int) := by rw [IntKind.wrap_i64]; omega
  have hw2 : IntKind.i64.wrap ((tl : Int) + (a0 : Int) + (a1 : Int)) = (tl : Int) + (a0 : Int) + (a1 : Int) := by rw [IntKind.wrap_i64]; omega
  have hw3 : IntKind.i64.wrap ((tl : Int) + (a0 : Int) + (a1 : Int) + (a2 : Int)) = (tl : Int) + (a0 : Int) + (a1 : Int) + (a2 : Int) := by rw [IntKind.wrap_i64]; omega
  clear hW0 hg1 hg2 hal
  go_enter Tryz.func134, Tryz.ntmps134
  go_wp2_with (fail)
  rw [← HW0.out]
  go_region_held3 (fun W => Below W0.heap.size W0 W ∧ W.cell? ⟨w.heap.size, 0, none⟩ = some (.pointer (some ⟨gt, 0, none⟩)) ∧ W.cell? ⟨w.heap.size, 1, none⟩ = some (.pointer (some ⟨c0, 0, none⟩)) ∧ W.cell? ⟨w.heap.size, 2, none⟩ = some (.pointer (some ⟨c1, 0, none⟩)) ∧ W.cell? ⟨w.heap.size, 3, none⟩ = some (.pointer (some ⟨c2, 0, none⟩)) ∧ W.cell? ⟨w.heap.size, 4, none⟩ = some (.slice va M vc) ∧ W.cell? ⟨w.heap.size + 1, 0, none⟩ = some (.int .i64 t) ∧ W.cell? ⟨w.heap.size + 1, 1, none⟩ = some (.int .i64 sc) ∧ W.cell? ⟨w.heap.size + 1, 2, none⟩ = some (.int .u64 z) ∧ W.cell? ⟨w.heap.size + 1, 3, none⟩ = some (.int .u64 zc) ∧ W.cell? ⟨w.heap.size + 1, 4, none⟩ = some (.int .u64 cn) ∧ W.cell? ⟨w.heap.size + 1, 5, none⟩ = some (.int .u64 su) ∧ W.cell? ⟨w.heap.size + 1, 6, none⟩ = some (.slice A pos.length c) ∧ W.cell? ⟨w.heap.size + 1, 7, none⟩ = some (.slice B neg.length d) ∧ W.cell? ⟨w.heap.size + 1, 8, none⟩ = some (.slice C pd.length cc) ∧ W.cell? ⟨w.heap.size + 1, 9, none⟩ = some (.slice D nd.length dd))
    (first | (with_reducible exact HCE.out _ bd0) | (with_reducible exact HCE.out _ b2) | (with_reducible exact HCE.out _ b3) | (with_reducible exact HCE.out _ b4) | (with_reducible exact HCE.out _ b5))
    (first
    | (go_at_call 108; refine (HTC.out _ (HEND.out _ bd0)).mono ?_; rintro e w2 ⟨rfl, hb2⟩; have b2 : Below W0.heap.size W0 w2 := below_then bd0 bd0.size (drawn_below hb2))
    | (go_at_call 192; (with_reducible show Calls _ _ #[Value.pointer (some ⟨c0, 0, none⟩), _] _ _); refine (HU0.out _ (HEND.out _ b2)).mono ?_; rintro e w3 ⟨rfl, hb3⟩; have b3 : Below W0.heap.size W0 w3 := below_then b2 b2.size (drawn_below hb3))
    | (go_at_call 192; refine (HU1.out _ (HEND.out _ b3)).mono ?_; rintro e w4 ⟨rfl, hb4⟩; have b4 : Below W0.heap.size W0 w4 := below_then b3 b3.size (drawn_below hb4))
    | (go_at_call 110; refine (HX2.out _ (HEND.out _ b4)).mono ?_; rintro e w5 ⟨rfl, hb5⟩; have b5 : Below W0.heap.size W0 w5 := below_then b4 b4.size hb5))
  have B5 := Lib.hid b5
  obtain ⟨A0, hA0⟩ : ∃ A0, A0 = tl + a0 + a1 + a2 := ⟨_, rfl⟩
  rw [show (tl : Int) + (a0 : Int) + (a1 : Int) + (a2 : Int) = (A0 : Int) from by omega]
  have HA0 : Hid (A0 = tl + cf 0) := Lib.hid (by rw [HC0.out]; omega)
  clear bd0 b2 b3 b4 b5 hb2 hb3 hb4 hb5 hw1 hw2 hw3 HTC HU0 HU1 HX2 hA0
  obtain ⟨-, x0, x1, x2, x3, x4, s0, s1, s2, s3, s4, s5, s6, s7, s8, s9⟩ := HCE.out _ B5.out
  go_wp2_with (fail)
  refine (HDE.out _ (HEND.out _ B5.out)).mono ?_
  rintro e w6 ⟨v, rfl, ho, hb6⟩
  obtain ⟨A6, c6, rfl, hc6, hr6⟩ := ho.reads
  have B6 := Lib.hid (below_then B5.out B5.out.size hb6)
  have HR6 := Lib.hid hr6
  have HDL := Lib.hid hdl
  rw [hdl]
  clear x0 x1 x2 x3 x4 s0 s1 s2 s3 s4 s5 s6 s7 s8 s9 ho hb6 hr6 hc6 hdl HDE
  go_wp2_with (fail)
  go_loopw [5, 6, 7, 37] (fun m _ _ i wr => ∃ (k a : Nat), k ≤ M ∧ i = .int .i64 k ∧ m = .int .i64 a ∧ Hid (a = tl + cf k) ∧ Below w6.heap.size w6 wr) (fun _ _ _ i _ => M - (intOf i).toNat)
  case atStart => exact ⟨0, A0, by omega, rfl, rfl, HA0, Below.refl _ _⟩
  case round =>
    obtain ⟨k, a, hk, rfl, rfl, HA, hb⟩ := hrel
    have BW := Lib.hid hb
    have B7 := Lib.hid (below_then B6.out B6.out.size hb)
    obtain ⟨-, x0, x1, x2, x3, x4, s0, s1, s2, s3, s4, s5, s6, s7, s8, s9⟩ := HCE.out _ B7.out
    have hak : a ≤ 72 + 77 * (3 + k) := by rw [HA.out]; have := HF2.out k; omega
    by_cases hlt : k < M
    · have hkc : 3 + k < cols.length := by rw [HCN.out]; omega
      have hkv : k < vs.length := by rw [HDL.out]; exact hlt
      obtain ⟨vad, hva, hvk⟩ := HVP.out _ (HEND.out _ B7.out) k hkc
      subst hva
      have hxc := HBK.out _ (HEND.out _ B7.out) k hkc
      obtain ⟨ad, hA, hc⟩ := RdI.at_ (HR6.out.below hb) k hkv
      subst hA
      have hyb := H64.out _ (List.getElem_mem hkv)
      rw [HCO.out k, HVA.out k hkv, i64_u64 _ hyb.1 hyb.2] at hxc
      have HA1 := Lib.hid (show a + (colB l ⟨t, sc, z, zc, cn, su, pos, neg, pd, nd⟩ (3 + k)).length = tl + cf (k + 1) from by rw [HA.out, HF1.out k]; omega)
      have hle := HF2.out (k + 1)
      rw [HF1.out k] at hle
      obtain ⟨u, hu⟩ : ∃ u, u = vs[k] := ⟨_, rfl⟩
      rw [← hu] at hc hxc
      obtain ⟨y, hy⟩ : ∃ y, y = (colB l ⟨t, sc, z, zc, cn, su, pos, neg, pd, nd⟩ (3 + k)).length := ⟨_, rfl⟩
      rw [← hy] at hxc HA1 hle
      obtain ⟨cl, hcl⟩ : ∃ cl, cl = cols[3 + k] := ⟨_, rfl⟩
      rw [← hcl] at hvk hxc
      have HX := Lib.hid hxc
      have hkv2 : k < vc := by have := HVC.out; omega
      have hy77 : y ≤ 1000000 := by omega
      clear hb hxc hu hcl hy hyb hkv
      go_wp2_with (fail)
      refine HX.out.mono ?_
      rintro e w8 ⟨rfl, hb8⟩
      have B8 := Lib.hid (below_then BW.out BW.out.size (drawn_below hb8))
      clear hb8
      go_wp2
      go_roundw
      case rel => exact ⟨k + 1, a + y, by omega, by go_num, by go_num, HA1, B8.out⟩
      case measure => simp [intOf]; omega
    · obtain rfl : k = M := by omega
      have HAL : Hid (a = lb) := Lib.hid (by rw [HLB.out]; exact HA.out)
      clear hb
      go_wp2
      go_ret
      exact ⟨by rw [HAL.out]; rfl, HEND.out _ B7.out⟩
set_option maxRecDepth 100000 in
set_option maxHeartbeats 6400000 in
theorem cost_calls (g : Nat) (S : Nat → Prop) (q : Hd) (l : List IS) (x : IkL) (s : IS) (p : Lh) (w : World) (hF : Ik w g S q l x) (hs : IhIn w s.h p) (h64 : In64S s) (hR : Room q l) (hE : GlE w) (hT : Tab w) (hZ : Tz w) :
    Calls Tryz.prog 59 #[.pointer (some ⟨g, 0, none⟩), .agg (isc s p).toArray] w (CostPost q l s w) := by
  have hWR := fun W (h : Below w.heap.size w W) => CkC.wrong_calls g S q l x s p W (hF.below h) (hs.below h) hR.2
  have hobj := hF.obj
  have hgl := blk_lt hobj
  have HPO := Lib.hid (show CostPost q l s w = fun e w' => Below w.heap.size w w' ∧ (((wrongI q l s).1 ≠ 0 ∧ ∃ v, e = .returned (.tuple #[.int .i64 0, v]) ∧ Err w' v (plc (wrongI q l s).1 (wrongI q l s).2 l.length) .nilIface) ∨
    ((wrongI q l s).1 = 0 ∧ e = .returned (.tuple #[.int .i64 (lastB l s).length, .nilIface]))) from rfl)
  rw [HPO.out]
  have hN := hR.1
  have HBI := Lib.hid (fun W (h : Below w.heap.size w W) => bits_calls g S q l x W (hF.below h) (by have := hR.1; omega))
  have HAT := Lib.hid (fun c nm W (h : Below w.heap.size w W) => CkA.at_calls c nm (l.length : Nat) W (gle_below hE h))
  have HCC := Lib.hid (fun (h0 : (wrongI q l s).1 = 0) W (h : Below w.heap.size w W) => cols_cost g S q l x s p W (hF.below h) (hs.below h) h64 (hT.below h) (hZ.below h) h0)
  have HLE := Lib.hid (fun (h0 : (wrongI q l s).1 = 0) => (by
    have h1 := lastB_le hF.n64 h64
    rw [wrong_width h0] at h1
    exact h1 : (lastB l s).length ≤ 72 + 77 * width q))
  obtain ⟨r, hr⟩ : ∃ r, r = wrongI q l s := ⟨_, rfl⟩
  rw [← hr] at hWR HCC HLE ⊢
  clear hr HPO hF hs hE hT hZ hR
  obtain ⟨lb, hlb⟩ : ∃ lb, lb = (lastB l s).length := ⟨_, rfl⟩
  rw [← hlb] at HCC HLE ⊢
  obtain ⟨cb, hcb⟩ : ∃ cb, cb = (chunkB q l).length := ⟨_, rfl⟩
  rw [← hcb] at HBI hN
  obtain ⟨n, hnn⟩ : ∃ n, n = l.length := ⟨_, rfl⟩
  obtain ⟨M, hM⟩ : ∃ M, M = width q - 3 := ⟨_, rfl⟩
  rw [← hnn] at HAT ⊢
  dsimp only [cs5] at HCC
  rw [← hM] at HCC
  obtain ⟨⟨pA, pc', pB, pd'⟩, gw, gt, Sw, va, vc, cols, lr, TT⟩ := x
  simp only at hobj HCC
  have hG : ∀ W : World, W.heap[g]? = w.heap[g]? → (W.cell? ⟨g, 6, none⟩ = some (.pointer (some ⟨gw, 0, none⟩)) ∧ W.cell? ⟨g, 7, none⟩ = some (.int .i64 n) ∧ W.cell? ⟨g, 8, none⟩ = some (.pointer (some ⟨gt, 0, none⟩)) ∧ W.cell? ⟨g, 9, none⟩ = some (.pointer (some ⟨cols.getD 0 0, 0, none⟩)) ∧ W.cell? ⟨g, 10, none⟩ = some (.pointer (some ⟨cols.getD 1 0, 0, none⟩)) ∧ W.cell? ⟨g, 11, none⟩ = some (.pointer (some ⟨cols.getD 2 0, 0, none⟩)) ∧ W.cell? ⟨g, 12, none⟩ = some (.slice va M vc)) := fun W h => by
    have h2 := h.trans hobj
    refine ⟨obj_cell h2 rfl, ?_, obj_cell h2 rfl, obj_cell h2 rfl, obj_cell h2 rfl, obj_cell h2 rfl, ?_⟩
    · rw [hnn]; exact obj_cell h2 rfl
    · rw [hM]; exact obj_cell h2 rfl
  clear hnn hlb hcb hM
  obtain ⟨t, sc, z, zc, cn, su, pos, neg, pd, nd⟩ := s
  obtain ⟨A, c, B, d, C, cc, D, dd⟩ := p
  simp only [isc, ics] at hWR HCC
  show Calls Tryz.prog 59 #[.pointer (some ⟨g, 0, none⟩), .agg #[.int .i64 t, .int .i64 sc, .int .u64 z, .int .u64 zc, .int .u64 cn, .int .u64 su, .slice A pos.length c, .slice B neg.length d, .slice C pd.length cc, .slice D nd.length dd]] w _
  obtain ⟨W0, hW0, hbk, hal⟩ : ∃ W : World, W = w.alloc (.cells #[.int .i64 t, .int .i64 sc, .int .u64 z, .int .u64 zc, .int .u64 cn, .int .u64 su, .slice A pos.length c, .slice B neg.length d, .slice C pd.length cc, .slice D nd.length dd] 102) ∧ W.heap[w.heap.size]? = some (.cells #[.int .i64 t, .int .i64 sc, .int .u64 z, .int .u64 zc, .int .u64 cn, .int .u64 su, .slice A pos.length c, .slice B neg.length d, .slice C pd.length cc, .slice D nd.length dd] 102 (0, 0)) ∧ Below w.heap.size w W := ⟨_, rfl, blk_last w _, below_alloc (Below.refl _ _) _⟩
  have HCEL : Hid (∀ W : World, Below W0.heap.size W0 W → (Below W0.heap.size W0 W ∧ (W.cell? ⟨w.heap.size, 0, none⟩ = some (.int .i64 t) ∧ W.cell? ⟨w.heap.size, 1, none⟩ = some (.int .i64 sc) ∧ W.cell? ⟨w.heap.size, 2, none⟩ = some (.int .u64 z) ∧ W.cell? ⟨w.heap.size, 3, none⟩ = some (.int .u64 zc) ∧ W.cell? ⟨w.heap.size, 4, none⟩ = some (.int .u64 cn) ∧ W.cell? ⟨w.heap.size, 5, none⟩ = some (.int .u64 su) ∧ W.cell? ⟨w.heap.size, 6, none⟩ = some (.slice A pos.length c) ∧ W.cell? ⟨w.heap.size, 7, none⟩ = some (.slice B neg.length d) ∧ W.cell? ⟨w.heap.size, 8, none⟩ = some (.slice C pd.length cc) ∧ W.cell? ⟨w.heap.size, 9, none⟩ = some (.slice D nd.length dd)) ∧ W.cell? ⟨g, 6, none⟩ = some (.pointer (some ⟨gw, 0, none⟩)) ∧ W.cell? ⟨g, 7, none⟩ = some (.int .i64 n) ∧ W.cell? ⟨g, 8, none⟩ = some (.pointer (some ⟨gt, 0, none⟩)) ∧ W.cell? ⟨g, 9, none⟩ = some (.pointer (some ⟨cols.getD 0 0, 0, none⟩)) ∧ W.cell? ⟨g, 10, none⟩ = some (.pointer (some ⟨cols.getD 1 0, 0, none⟩)) ∧ W.cell? ⟨g, 11, none⟩ = some (.pointer (some ⟨cols.getD 2 0, 0, none⟩)) ∧ W.cell? ⟨g, 12, none⟩ = some (.slice va M vc))) := Lib.hid (fun W h => by
    have hb := (Ch.of_below (S := fun _ => False) h).blk hbk (fun x => x)
    exact ⟨h, ⟨obj_cell hb rfl, obj_cell hb rfl, obj_cell hb rfl, obj_cell hb rfl, obj_cell hb rfl, obj_cell hb rfl, obj_cell hb rfl, obj_cell hb rfl, obj_cell hb rfl, obj_cell hb rfl⟩, hG W ((below_then hal hal.size h).block g hgl)⟩)
  have HEND := Lib.hid (fun W (hb : Below W0.heap.size W0 W) => below_then hal hal.size hb)
  have HW0 := Lib.hid hW0
  have HWR := Lib.hid (hWR W0 hal)
  clear hobj hG hgl hbk hW0 hal hWR
  go_enter Tryz.func59, Tryz.ntmps59
  go_wp2_with (fail)
  rw [← HW0.out]
  refine HWR.out.mono ?_
  rintro e w1 ⟨rfl, hb1⟩
  have B1 := Lib.hid hb1
  obtain ⟨-, ⟨k0, k1, k2, k3, k4, k5, k6, k7, k8, k9⟩, ⟨g6, g7, g8, g9, g10, g11, g12⟩⟩ := HCEL.out _ hb1
  obtain ⟨rc, rn⟩ := r
  simp only at HCC HLE ⊢
  clear hb1 HWR
  by_cases h0 : rc ≠ 0
  · have e1 : ((rc : Int) != 0) = true := by simp; exact h0
    have H0 := Lib.hid h0
    clear h0
    go_wp2_with (fail)
    refine (HAT.out rc rn _ (HEND.out _ B1.out)).mono ?_
    rintro e w2 ⟨v2, rfl, he, hb2⟩
    have E2 := Lib.hid he
    have B2 := Lib.hid (below_then (HEND.out _ B1.out) (HEND.out _ B1.out).size hb2)
    clear he hb2
    go_wp2
    go_ret2
    exact ⟨B2.out, .inl ⟨H0.out, v2, rfl, E2.out⟩⟩
  have h0 := Decidable.not_not.1 h0
  subst h0
  have hle := HLE.out rfl
  have bd1 : Below W0.heap.size W0 w1.drew := below_drew B1.out
  have HC1 := Lib.hid (HCC.out rfl w1.drew (HEND.out _ bd1))
  clear HCC HLE
  go_wp2_with (fail)
  go_region_held3 (fun W => Below W0.heap.size W0 W ∧ (W.cell? ⟨w.heap.size, 0, none⟩ = some (.int .i64 t) ∧ W.cell? ⟨w.heap.size, 1, none⟩ = some (.int .i64 sc) ∧ W.cell? ⟨w.heap.size, 2, none⟩ = some (.int .u64 z) ∧ W.cell? ⟨w.heap.size, 3, none⟩ = some (.int .u64 zc) ∧ W.cell? ⟨w.heap.size, 4, none⟩ = some (.int .u64 cn) ∧ W.cell? ⟨w.heap.size, 5, none⟩ = some (.int .u64 su) ∧ W.cell? ⟨w.heap.size, 6, none⟩ = some (.slice A pos.length c) ∧ W.cell? ⟨w.heap.size, 7, none⟩ = some (.slice B neg.length d) ∧ W.cell? ⟨w.heap.size, 8, none⟩ = some (.slice C pd.length cc) ∧ W.cell? ⟨w.heap.size, 9, none⟩ = some (.slice D nd.length dd)) ∧ W.cell? ⟨g, 6, none⟩ = some (.pointer (some ⟨gw, 0, none⟩)) ∧ W.cell? ⟨g, 7, none⟩ = some (.int .i64 n) ∧ W.cell? ⟨g, 8, none⟩ = some (.pointer (some ⟨gt, 0, none⟩)) ∧ W.cell? ⟨g, 9, none⟩ = some (.pointer (some ⟨cols.getD 0 0, 0, none⟩)) ∧ W.cell? ⟨g, 10, none⟩ = some (.pointer (some ⟨cols.getD 1 0, 0, none⟩)) ∧ W.cell? ⟨g, 11, none⟩ = some (.pointer (some ⟨cols.getD 2 0, 0, none⟩)) ∧ W.cell? ⟨g, 12, none⟩ = some (.slice va M vc))
    (first | (with_reducible exact HCEL.out _ bd1) | (with_reducible exact HCEL.out _ b2))
    (first | (go_at_call 134; refine HC1.out.mono ?_; rintro e w2 ⟨rfl, hb2⟩; have b2 : Below W0.heap.size W0 w2 := below_then bd1 bd1.size hb2))
  have B2 := Lib.hid b2
  have HBI := Lib.hid (HBI.out _ (HEND.out _ B2.out))
  have hb16 : cb + lb + 16 ≤ 16777216 := by omega
  have e1 : decide ((16 : Int) + (cb : Int) + (lb : Int) > 16777216) = false := by simp; omega
  have e1' : decide ((16777216 : Int) < (16 : Int) + (cb : Int) + (lb : Int)) = false := by simp; omega
  clear bd1 b2 hb2 HC1 k0 k1 k2 k3 k4 k5 k6 k7 k8 k9 g6 g7 g8 g9 g10 g11 g12
  go_wp2_with (fail)
  refine HBI.out.mono ?_
  rintro e w3 ⟨rfl, rfl⟩
  go_wp2
  go_ret2
  exact ⟨HEND.out _ B2.out, rfl⟩
end Go.Proofs.YtjfekjbmgckkcaaGreatDoor.CkD
namespace Go.Proofs.YtjfekjbmgckkcaaGreatDoor.CkE
open Go.RowKit Go.Proofs.YtjfekjbmgckkcaaGreatDoorW.PrintWords
open Go.Proofs.YtjfekjbmgckkcaaGreatDoor.Bits Go.Proofs.YtjfekjbmgckkcaaGreatDoor.Base Go.Proofs.YtjfekjbmgckkcaaGreatDoor.VarPure Go.Proofs.YtjfekjbmgckkcaaGreatDoor.VarbitA Go.Proofs.YtjfekjbmgckkcaaGreatDoor.StreamA Go.Proofs.YtjfekjbmgckkcaaGreatDoor.TimesPure Go.Proofs.YtjfekjbmgckkcaaGreatDoor.TimesA Go.Proofs.YtjfekjbmgckkcaaGreatDoor.SpanPure Go.Proofs.YtjfekjbmgckkcaaGreatDoor.SpanBase Go.Proofs.YtjfekjbmgckkcaaGreatDoor.HeadA Go.Proofs.YtjfekjbmgckkcaaGreatDoor.HeadB Go.Proofs.YtjfekjbmgckkcaaGreatDoor.HeadPure Go.Proofs.YtjfekjbmgckkcaaGreatDoor.XorPure Go.Proofs.YtjfekjbmgckkcaaGreatDoor.XorA Go.Proofs.YtjfekjbmgckkcaaGreatDoor.XorB Go.Proofs.YtjfekjbmgckkcaaGreatDoor.CkPure Go.Proofs.YtjfekjbmgckkcaaGreatDoor.CkObj Go.Proofs.YtjfekjbmgckkcaaGreatDoor.CkB Go.Proofs.YtjfekjbmgckkcaaGreatDoor.CkD
theorem nodup_at {l : List Nat} (h : l.Nodup) {i j : Nat} (hi : i < l.length) (hj : j < l.length) (he : l[i] = l[j]) : i = j := by
  rcases Nat.lt_trichotomy i j with h1 | h1 | h1
  · exact absurd he (List.pairwise_iff_getElem.1 h i j hi hj h1)
  · exact h1
  · exact absurd he.symm (List.pairwise_iff_getElem.1 h j i hj hi h1)
def cells23 (q : Hd) (n M : Nat) (x : IkL) (s : IS) (r : Lh) : Array Value := #[.int .i64 q.vr, .int .i64 q.hint, .int .i64 q.schema, .int .u64 q.zero, .slice x.p.A q.pos.length x.p.c, .slice x.p.B q.neg.length x.p.d, .pointer (some ⟨x.gw, 0, none⟩), .int .i64 n, .pointer (some ⟨x.gt, 0, none⟩), .pointer (some ⟨x.cols.getD 0 0, 0, none⟩), .pointer (some ⟨x.cols.getD 1 0, 0, none⟩), .pointer (some ⟨x.cols.getD 2 0, 0, none⟩), .slice x.va M x.vc,
  .int .i64 s.t, .int .i64 s.h.schema, .int .u64 s.h.zero, .int .u64 s.h.zc, .int .u64 s.h.cnt, .int .u64 s.h.sum, .slice r.A s.h.pos.length r.c, .slice r.B s.h.neg.length r.d, .slice r.C s.h.pd.length r.cc, .slice r.D s.h.nd.length r.dd]
theorem kic_eq (q : Hd) (l : List IS) (x : IkL) : (kic q l x).toArray = cells23 q l.length (width q - 3) x (lastS q l) x.r := rfl
theorem cells23_7 (q : Hd) (n M m : Nat) (x : IkL) (s : IS) (r : Lh) : (cells23 q n M x s r).setIfInBounds 7 (.int .i64 m) = cells23 q m M x s r := by
  simp [cells23]
abbrev setTen (W : World) (g : Nat) (v0 v1 v2 v3 v4 v5 v6 v7 v8 v9 : Value) : World := (((((((((W.setCell ⟨g, 13, none⟩ v0).setCell ⟨g, 14, none⟩ v1).setCell ⟨g, 15, none⟩ v2).setCell ⟨g, 16, none⟩ v3).setCell ⟨g, 17, none⟩ v4).setCell ⟨g, 18, none⟩ v5).setCell ⟨g, 19, none⟩ v6).setCell ⟨g, 20, none⟩ v7).setCell ⟨g, 21, none⟩ v8).setCell ⟨g, 22, none⟩ v9
theorem setTen_ch (W : World) (g : Nat) (v0 v1 v2 v3 v4 v5 v6 v7 v8 v9 : Value) : Ch (fun k => k = g) W (setTen W g v0 v1 v2 v3 v4 v5 v6 v7 v8 v9) :=
  ((((((((((Ch.refl (fun k => k = g) W).setCell (p := ⟨g, 13, none⟩) (.inl rfl) v0).setCell (p := ⟨g, 14, none⟩) (.inl rfl) v1).setCell (p := ⟨g, 15, none⟩) (.inl rfl) v2).setCell (p := ⟨g, 16, none⟩) (.inl rfl) v3).setCell (p := ⟨g, 17, none⟩) (.inl rfl) v4).setCell (p := ⟨g, 18, none⟩) (.inl rfl) v5).setCell (p := ⟨g, 19, none⟩) (.inl rfl) v6).setCell (p := ⟨g, 20, none⟩) (.inl rfl) v7).setCell (p := ⟨g, 21, none⟩) (.inl rfl) v8).setCell (p := ⟨g, 22, none⟩) (.inl rfl) v9
theorem setTen_blk {W : World} {g : Nat} {q : Hd} {n M : Nat} {x : IkL} {s0 s : IS} {r0 r : Lh} (h : W.heap[g]? = some (.cells (cells23 q n M x s0 r0) 195 (0, 0))) :
    (setTen W g (.int .i64 s.t) (.int .i64 s.h.schema) (.int .u64 s.h.zero) (.int .u64 s.h.zc) (.int .u64 s.h.cnt) (.int .u64 s.h.sum) (.slice r.A s.h.pos.length r.c) (.slice r.B s.h.neg.length r.d) (.slice r.C s.h.pd.length r.cc) (.slice r.D s.h.nd.length r.dd)).heap[g]? = some (.cells (cells23 q n M x s r) 195 (0, 0)) := by
  have h2 := blk_set (blk_set (blk_set (blk_set (blk_set (blk_set (blk_set (blk_set (blk_set (blk_set h 13 (.int .i64 s.t)) 14 (.int .i64 s.h.schema)) 15 (.int .u64 s.h.zero)) 16 (.int .u64 s.h.zc)) 17 (.int .u64 s.h.cnt)) 18 (.int .u64 s.h.sum)) 19 (.slice r.A s.h.pos.length r.c)) 20 (.slice r.B s.h.neg.length r.d)) 21 (.slice r.C s.h.pd.length r.cc)) 22 (.slice r.D s.h.nd.length r.dd)
  rw [h2]
  simp [cells23]
theorem setTwo_blk {W : World} {g : Nat} {q : Hd} {n M : Nat} {x : IkL} {s : IS} {r : Lh} {pos neg : List Sp} {A B : Option Addr} {c d : Nat} (h : W.heap[g]? = some (.cells (cells23 q n M x s r) 195 (0, 0))) :
    ((W.setCell ⟨g, 19, none⟩ (.slice A pos.length c)).setCell ⟨g, 20, none⟩ (.slice B neg.length d)).heap[g]? = some (.cells (cells23 q n M x ⟨s.t, { s.h with pos := pos, neg := neg }⟩ ⟨A, c, B, d, r.C, r.cc, r.D, r.dd⟩) 195 (0, 0)) := by
  have h2 := blk_set (blk_set h 19 (.slice A pos.length c)) 20 (.slice B neg.length d)
  rw [h2]
  simp [cells23]
def toldK (k : Nat) (c : List Nat) (v : Nat) : List Bool := if k < 2 then toldL false c v else if k = 2 then toldX (colX c) v else toldL true c v
def PutK (k g gx : Nat) (S : Nat → Prop) (l : List Bool) (c : List Nat) (v : Nat) (w w' : World) : Prop :=
  ∃ S', Wr w' g S' (l ++ toldK k c v) ∧ (∀ j, S' j → S j ∨ w.heap.size ≤ j) ∧ ColK k w' gx (c ++ [v]) ∧ Ch (fun j => S j ∨ j = gx) w w'
theorem PutK.ofU {k g gx : Nat} {S : Nat → Prop} {l : List Bool} {c : List Nat} {v : Nat} {w w' : World} (hk : k < 2) (h : PutU g gx S l (lastOf c) (stepOf c) c.length v w w') : PutK k g gx S l c v w w' := by
  obtain ⟨S', h1, h2, h3, h4⟩ := h
  refine ⟨S', ?_, h2, ?_, h4⟩
  · unfold toldK
    rw [if_pos hk]
    exact h1
  · unfold ColK
    rw [if_pos hk, lastOf_snoc, stepOf_snoc, List.length_append, List.length_singleton]
    exact h3
theorem PutK.ofX {g gx : Nat} {S : Nat → Prop} {l : List Bool} {c : List Nat} {v : Nat} {w w' : World} (h : PutX g gx S l (colX c) v w w') : PutK 2 g gx S l c v w w' := by
  obtain ⟨S', h1, h2, h3, h4⟩ := h
  refine ⟨S', ?_, h2, ?_, h4⟩
  · unfold toldK
    rw [if_neg (by decide), if_pos rfl]
    exact h1
  · unfold ColK
    rw [if_neg (by decide), if_pos rfl, colX_snoc]
    exact h3
theorem PutK.ofS {k g gx : Nat} {S : Nat → Prop} {l : List Bool} {c : List Nat} {v : Nat} {w w' : World} (hk : 2 < k) (h : PutS g gx S l (lastOf c) (stepOf c) c.length v w w') : PutK k g gx S l c v w w' := by
  obtain ⟨S', h1, h2, h3, h4⟩ := h
  refine ⟨S', ?_, h2, ?_, h4⟩
  · unfold toldK
    rw [if_neg (by omega), if_neg (by omega)]
    exact h1
  · unfold ColK
    rw [if_neg (by omega), if_neg (by omega), lastOf_snoc, stepOf_snoc, List.length_append, List.length_singleton]
    exact h3
structure Ap (q : Hd) (l : List IS) (s : IS) (x : IkL) (W0 : World) (k : Nat) (Sw : Nat → Prop) (W : World) : Prop where
  wr : Wr W x.gw Sw (chunkB q l ++ (toldL true (ts l) (u64 s.t) ++ colsB l s k))
  sw : ∀ j, Sw j → x.Sw j ∨ W0.heap.size ≤ j
  tr : TrS W x.gt (lastOf (ts (l ++ [s]))) (stepOf (ts (l ++ [s]))) (l.length + 1)
  xs : ∀ (j : Nat) (h : j < x.cols.length), ColK j W x.cols[j] (if j < k then col (l ++ [s]) j else col l j)
  ch : Ch (fun b => x.Sw b ∨ b = x.gt ∨ b ∈ x.cols) W0 W
section
variable {q : Hd} {l : List IS} {s : IS} {x : IkL} {g : Nat} {S Sw : Nat → Prop} {w W0 W W2 : World} {k : Nat}
theorem Ap.below (h : Ap q l s x W0 k Sw W) (hb : Below W.heap.size W W2) : Ap q l s x W0 k Sw W2 :=
  ⟨h.wr.below hb, h.sw, h.tr.below hb, fun j hj => (h.xs j hj).below hb, h.ch.then_below hb⟩
theorem Ap.start (hF : Ik W0 g S q l x) (h : PutS x.gw x.gt x.Sw (encH q ++ bitsB l) (lastOf (ts l)) (stepOf (ts l)) l.length (u64 s.t) W0 W) : ∃ Sw, Ap q l s x W0 0 Sw W := by
  obtain ⟨S', h1, h2, h3, h4⟩ := h
  refine ⟨S', ?_, h2, ?_, ?_, h4.mono fun b _ hb => ?_⟩
  · rw [colsB_zero, List.append_nil]
    unfold chunkB toldL
    rw [ts_length]
    exact h1
  · rw [ts_snoc, lastOf_snoc, stepOf_snoc, ts_length]
    exact h3
  · intro j hj
    rw [if_neg (by omega)]
    refine (hF.xs j hj).ch h4 ?_
    rintro (hb | hb)
    · exact hF.wc _ (List.getElem_mem _) hb
    · exact hF.tc (hb ▸ List.getElem_mem _)
  · rcases hb with hb | hb
    · exact .inl hb
    · exact .inr (.inl hb)
theorem Ap.col (hF : Ik W0 g S q l x) (h : Ap q l s x W0 k Sw W) (hk : k < x.cols.length) (hp : PutK k x.gw x.cols[k] Sw (chunkB q l ++ (toldL true (ts l) (u64 s.t) ++ colsB l s k)) (col l k) ((vals s.h).getD k 0) W W2) :
    ∃ Sw2, Ap q l s x W0 (k + 1) Sw2 W2 ∧ (∀ j, Sw2 j → Sw j ∨ W.heap.size ≤ j) ∧ Ch (fun b => Sw b ∨ b = x.cols[k]) W W2 := by
  obtain ⟨S', h1, h2, h3, h4⟩ := hp
  have hmem := List.getElem_mem hk
  have hin : ∀ b, Sw b ∨ b = x.cols[k] → (x.Sw b ∨ b = x.gt ∨ b ∈ x.cols) ∨ W0.heap.size ≤ b := fun b hb => by
    rcases hb with hb | hb
    · rcases h.sw b hb with hb | hb
      · exact .inl (.inl hb)
      · exact .inr hb
    · exact .inl (.inr (.inr (hb ▸ hmem)))
  have hold : ∀ b, S b → b < W0.heap.size := hF.old
  have hne : ∀ b, S b → ¬ x.Sw b → b ≠ x.cols[k] → ¬ (Sw b ∨ b = x.cols[k]) := fun b hb h5 h6 h7 => by
    rcases h7 with h7 | h7
    · rcases h.sw b h7 with h8 | h8
      · exact h5 h8
      · have := hold b hb; omega
    · exact h6 h7
  refine ⟨S', ⟨?_, fun j hj => ?_, ?_, fun j hj => ?_, h.ch.trans h4 fun b hb hc => ?_⟩, h2, h4⟩
  · have := h1
    rw [List.append_assoc, List.append_assoc] at this
    rw [colsB_succ]
    exact this
  · rcases h2 j hj with h5 | h5
    · exact h.sw j h5
    · exact .inr (Nat.le_trans h.ch.size h5)
  · exact h.tr.ch h4 (hne _ ((hF.hS _).2 (.inr (.inr (.inl rfl)))) hF.wt fun he => hF.tc (he ▸ hmem))
  · by_cases hjk : j = k
    · subst hjk
      rw [if_pos (by omega), col_snoc]
      exact h3
    · have hx := h.xs j hj
      have hx2 := hx.ch h4 (hne _ ((hF.hS _).2 (.inr (.inr (.inr (.inl (List.getElem_mem _)))))) (hF.wc _ (List.getElem_mem _)) fun he => hjk (nodup_at hF.cn hj hk he))
      by_cases hjk2 : j < k
      · rw [if_pos (by omega)]
        rwa [if_pos hjk2] at hx2
      · rw [if_neg (by omega)]
        rwa [if_neg hjk2] at hx2
  · rcases hin b hc with h5 | h5
    · exact h5
    · omega
theorem Ap.keep (h : Ap q l s x W0 k Sw W) {b : Nat} (hb : ¬ x.Sw b) (ht : b ≠ x.gt) (hc : b ∉ x.cols) (hlt : b < W0.heap.size) : W.heap[b]? = W0.heap[b]? :=
  h.ch.block b hlt fun h1 => by
    rcases h1 with h1 | h1 | h1
    · exact hb h1
    · exact ht h1
    · exact hc h1
set_option maxHeartbeats 3200000 in
theorem Ap.done {W5 W7 W9 : World} {r : Lh} {A' B' : Option Addr} {c' d' : Nat} (hF : Ik W0 g S q l x) (hw0 : (wrongI q l s).1 = 0) (h64 : In64S s) (h : Ap q l s x W0 (width q) Sw W5)
    (hb : Below (W5.setCell ⟨g, 7, none⟩ (.int .i64 (l.length + 1 : Nat))).heap.size (W5.setCell ⟨g, 7, none⟩ (.int .i64 (l.length + 1 : Nat))) W7)
    (hr : IhIn W7 s.h r) (hor : OnH (fun k => (W5.setCell ⟨g, 7, none⟩ (.int .i64 (l.length + 1 : Nat))).heap.size ≤ k) s.h r)
    (hb9 : Below (setTen W7 g (.int .i64 s.t) (.int .i64 s.h.schema) (.int .u64 s.h.zero) (.int .u64 s.h.zc) (.int .u64 s.h.cnt) (.int .u64 s.h.sum) (.slice r.A s.h.pos.length r.c) (.slice r.B s.h.neg.length r.d) (.slice r.C s.h.pd.length r.cc) (.slice r.D s.h.nd.length r.dd)).heap.size (setTen W7 g (.int .i64 s.t) (.int .i64 s.h.schema) (.int .u64 s.h.zero) (.int .u64 s.h.zc) (.int .u64 s.h.cnt) (.int .u64 s.h.sum) (.slice r.A s.h.pos.length r.c) (.slice r.B s.h.neg.length r.d) (.slice r.C s.h.pd.length r.cc) (.slice r.D s.h.nd.length r.dd)) W9)
    (hpA : Spl W9 A' c' q.pos) (hpB : Spl W9 B' d' q.neg) (hoA : On (fun k => (setTen W7 g (.int .i64 s.t) (.int .i64 s.h.schema) (.int .u64 s.h.zero) (.int .u64 s.h.zc) (.int .u64 s.h.cnt) (.int .u64 s.h.sum) (.slice r.A s.h.pos.length r.c) (.slice r.B s.h.neg.length r.d) (.slice r.C s.h.pd.length r.cc) (.slice r.D s.h.nd.length r.dd)).heap.size ≤ k) A' q.pos.length) (hoB : On (fun k => (setTen W7 g (.int .i64 s.t) (.int .i64 s.h.schema) (.int .u64 s.h.zero) (.int .u64 s.h.zc) (.int .u64 s.h.cnt) (.int .u64 s.h.sum) (.slice r.A s.h.pos.length r.c) (.slice r.B s.h.neg.length r.d) (.slice r.C s.h.pd.length r.cc) (.slice r.D s.h.nd.length r.dd)).heap.size ≤ k) B' q.neg.length) :
    Upd (fun W S => Ci W g S q (l ++ [s])) S W0 ((W9.setCell ⟨g, 19, none⟩ (.slice A' q.pos.length c')).setCell ⟨g, 20, none⟩ (.slice B' q.neg.length d')) := by
  have hgl := blk_lt hF.obj
  have h5 : W5.heap[g]? = W0.heap[g]? := h.keep hF.gw hF.gt hF.gc hgl
  have hobj := hF.obj
  rw [kic_eq] at hobj
  have h6 := blk_set (h5.trans hobj) 7 (.int .i64 (l.length + 1 : Nat))
  rw [cells23_7] at h6
  have hc6 : Ch (fun k => k = g) W5 (W5.setCell ⟨g, 7, none⟩ (.int .i64 (l.length + 1 : Nat))) := (Ch.refl (fun k => k = g) W5).setCell (p := ⟨g, 7, none⟩) (.inl rfl) _
  obtain ⟨W6, hW6⟩ : ∃ W6, W6 = W5.setCell ⟨g, 7, none⟩ (.int .i64 (l.length + 1 : Nat)) := ⟨_, rfl⟩
  rw [← hW6] at hb hor h6 hc6
  have h7 := (hb.block g (blk_lt h6)).trans h6
  have h7b := setTen_blk (s := s) (r := r) h7
  have hc7 := setTen_ch W7 g (.int .i64 s.t) (.int .i64 s.h.schema) (.int .u64 s.h.zero) (.int .u64 s.h.zc) (.int .u64 s.h.cnt) (.int .u64 s.h.sum) (.slice r.A s.h.pos.length r.c) (.slice r.B s.h.neg.length r.d) (.slice r.C s.h.pd.length r.cc) (.slice r.D s.h.nd.length r.dd)
  obtain ⟨W7b, hW7b⟩ : ∃ W, W = setTen W7 g (.int .i64 s.t) (.int .i64 s.h.schema) (.int .u64 s.h.zero) (.int .u64 s.h.zc) (.int .u64 s.h.cnt) (.int .u64 s.h.sum) (.slice r.A s.h.pos.length r.c) (.slice r.B s.h.neg.length r.d) (.slice r.C s.h.pd.length r.cc) (.slice r.D s.h.nd.length r.dd) := ⟨_, rfl⟩
  rw [← hW7b] at h7b hc7 hb9 hoA hoB
  have h9 := (hb9.block g (blk_lt h7b)).trans h7b
  have h8 := setTwo_blk (pos := q.pos) (neg := q.neg) (A := A') (B := B') (c := c') (d := d') h9
  have hc9 : Ch (fun k => k = g) W9 ((W9.setCell ⟨g, 19, none⟩ (.slice A' q.pos.length c')).setCell ⟨g, 20, none⟩ (.slice B' q.neg.length d')) := ((Ch.refl (fun k => k = g) W9).setCell (p := ⟨g, 19, none⟩) (.inl rfl) _).setCell (p := ⟨g, 20, none⟩) (.inl rfl) _
  obtain ⟨W8, hW8⟩ : ∃ W8, W8 = (W9.setCell ⟨g, 19, none⟩ (.slice A' q.pos.length c')).setCell ⟨g, 20, none⟩ (.slice B' q.neg.length d') := ⟨_, rfl⟩
  rw [← hW8] at hc9 h8 ⊢
  have hc78 : Ch (fun k => k = g) W7 W8 := (hc7.then_below hb9).trans hc9 fun _ _ h => h
  clear hW6 hW8 hW7b
  have hc58 : Ch (fun k => k = g) W5 W8 := (hc6.then_below hb).trans hc78 fun _ _ h => h
  have hc08 : Ch (fun b => (x.Sw b ∨ b = x.gt ∨ b ∈ x.cols) ∨ b = g) W0 W8 := (h.ch.mono fun _ _ h => .inl h).trans hc58 fun _ _ h => .inr h
  have hz5 := h.ch.size
  have hz6 := hc6.size
  have hz7 := hb.size
  have hz7b := hc7.size
  have hz9 := hb9.size
  have hz8 := hc9.size
  have hgw : ¬ Sw g := fun hs => by
    rcases h.sw g hs with h1 | h1
    · exact hF.gw h1
    · omega
  have hsold : ∀ k, Sw k → k < W5.heap.size := h.wr.old
  have oS : ∀ k, k = g ∨ x.Sw k ∨ k = x.gt ∨ k ∈ x.cols ∨ x.T k → k < W0.heap.size := fun k hk => hF.old k ((hF.hS k).2 hk)
  refine ⟨fun k => k = g ∨ Sw k ∨ k = x.gt ∨ k ∈ x.cols ∨ (x.T k ∨ (W6.heap.size ≤ k ∧ k < W8.heap.size)), ⟨{ x with Sw := Sw, r := ⟨A', c', B', d', r.C, r.cc, r.D, r.dd⟩, T := fun k => x.T k ∨ (W6.heap.size ≤ k ∧ k < W8.heap.size) }, ?_⟩, ?_, ?_⟩
  · have hw : encH q ++ bitsB (l ++ [s]) = chunkB q l ++ (toldL true (ts l) (u64 s.t) ++ colsB l s (width q)) := by
      rw [bitsB_snoc, lastB, wrong_width hw0]
      simp [chunkB]
    have hll : (l ++ [s]).length = l.length + 1 := by simp
    have nT : ∀ k, x.T k → ¬ ((x.Sw k ∨ k = x.gt ∨ k ∈ x.cols) ∨ k = g) := fun k hk hn => by
      rcases hn with (hn | hn | hn) | hn
      · exact hF.wT k hk hn
      · subst hn; exact hF.tT hk
      · exact hF.cT k hn hk
      · subst hn; exact hF.gT hk
    have rlt : ∀ {A : Option Addr} {n : Nat}, On (fun k => W6.heap.size ≤ k) A n → (∀ ad, A = some ad → 0 < n → ad.block < W8.heap.size) → On (fun k => x.T k ∨ (W6.heap.size ≤ k ∧ k < W8.heap.size)) A n := fun h1 h2 ad hA hp => .inr ⟨h1 ad hA hp, h2 ad hA hp⟩
    have nW6 : ∀ k, W6.heap.size ≤ k → ¬ k = g := fun k hk he => by omega
    have hr8 : IhIn W8 { s.h with pos := q.pos, neg := q.neg } ⟨A', c', B', d', r.C, r.cc, r.D, r.dd⟩ := ⟨Spl.ch hpA hc9 hoA fun k hk he => by omega, Spl.ch hpB hc9 hoB fun k hk he => by omega, hr.pd.ch hc78 hor.pd nW6, hr.nd.ch hc78 hor.nd nW6, ⟨h64.h.zero, h64.h.zc, h64.h.cnt, h64.h.sum, h64.h.pd, h64.h.nd⟩⟩
    have slt : ∀ {A : Option Addr} {c : Nat} {m : List Sp}, Spl W8 A c m → ∀ ad, A = some ad → 0 < m.length → ad.block < W8.heap.size := fun h ad hA hp => HeadD.rd_lt h.rd ad hA hp
    have nlt : ∀ {A : Option Addr} {c : Nat} {m : List Int}, Inl W8 A c m → ∀ ad, A = some ad → 0 < m.length → ad.block < W8.heap.size := fun h ad hA hp => by
      obtain ⟨ad', he, hc⟩ := RdI.at_ h.rd 0 hp
      rw [hA] at he
      injection he with he
      subst he
      have := World.block_lt_of_cell? _ _ hc
      rwa [show (ad.add 0).block = ad.block from by unfold Addr.add; split <;> rfl] at this
    exact {
      obj := by
        rw [kic_eq, lastS_snoc, h8, hll]
        rfl
      hd := ⟨Spl.ch hF.hd.pos hc08 hF.onp nT, Spl.ch hF.hd.neg hc08 hF.onn nT, hF.hd.z⟩
      wr := by
        rw [hw]
        exact h.wr.ch hc58 fun k hk he => hgw (he ▸ hk)
      tr := by
        rw [hll]
        exact h.tr.ch hc58 fun he => hF.gt he.symm
      cl := hF.cl
      vc := hF.vc
      vals := fun k hk => by
        obtain ⟨ad, h1, h2⟩ := hF.vals k hk
        exact ⟨ad, h1, hc08.cell h2 (by rw [show (ad.add k).block = ad.block from by unfold Addr.add; split <;> rfl]; exact nT _ (hF.onv ad h1 (by have h3 := hF.cl; have h4 : 3 + k < x.cols.length := hk; omega)))⟩
      xs := fun k hk => by
        have := h.xs k hk
        rw [if_pos (by rw [← hF.cl]; exact hk)] at this
        exact this.ch hc58 fun he => hF.gc (he ▸ List.getElem_mem _)
      la := by rw [lastS_snoc]; exact hr8
      n64 := fun u hu => by
        rcases List.mem_append.1 hu with h1 | h1
        · exact hF.n64 u h1
        · rw [List.mem_singleton.1 h1]; exact h64
      good := good_snoc hF.good hw0
      okq := hF.okq
      onp := hF.onp.mono fun k hk => .inl hk
      onn := hF.onn.mono fun k hk => .inl hk
      onv := hF.onv.mono fun k hk => .inl hk
      onr := by
        rw [lastS_snoc]
        exact ⟨rlt (hoA.mono fun k hk => by omega) (slt hr8.pos), rlt (hoB.mono fun k hk => by omega) (slt hr8.neg), rlt hor.pd (nlt hr8.pd), rlt hor.nd (nlt hr8.nd)⟩
      hS := fun k => Iff.rfl
      old := fun k hk => by
        rcases hk with hk | hk | hk | hk | hk | hk
        · have := oS k (.inl hk); omega
        · have := hsold k hk; omega
        · have := oS k (.inr (.inr (.inl hk))); omega
        · have := oS k (.inr (.inr (.inr (.inl hk)))); omega
        · have := oS k (.inr (.inr (.inr (.inr hk)))); omega
        · exact hk.2
      gw := hgw
      gt := hF.gt
      gc := hF.gc
      gT := fun hk => by
        rcases hk with hk | hk
        · exact hF.gT hk
        · omega
      wt := fun hs => by
        rcases h.sw _ hs with h1 | h1
        · exact hF.wt h1
        · have := oS x.gt (.inr (.inr (.inl rfl)))
          exact Nat.lt_irrefl _ (Nat.lt_of_lt_of_le this h1)
      wc := fun k hk hs => by
        rcases h.sw _ hs with h1 | h1
        · exact hF.wc k hk h1
        · have := oS k (.inr (.inr (.inr (.inl hk)))); omega
      wT := fun k hk hs => by
        rcases hk with hk | hk
        · rcases h.sw _ hs with h1 | h1
          · exact hF.wT k hk h1
          · have := oS k (.inr (.inr (.inr (.inr hk)))); omega
        · have := hsold k hs; omega
      tc := hF.tc
      tT := fun hk => by
        rcases hk with hk | hk
        · exact hF.tT hk
        · have := oS x.gt (.inr (.inr (.inl rfl)))
          have h2 : W6.heap.size ≤ x.gt := hk.1
          omega
      cn := hF.cn
      cT := fun k hk hT => by
        rcases hT with hT | hT
        · exact hF.cT k hk hT
        · have := oS k (.inr (.inr (.inr (.inl hk)))); omega }
  · intro k hk
    rcases hk with hk | hk | hk | hk | hk | hk
    · exact .inl ((hF.hS k).2 (.inl hk))
    · rcases h.sw k hk with h1 | h1
      · exact .inl ((hF.hS k).2 (.inr (.inl h1)))
      · exact .inr h1
    · exact .inl ((hF.hS k).2 (.inr (.inr (.inl hk))))
    · exact .inl ((hF.hS k).2 (.inr (.inr (.inr (.inl hk)))))
    · exact .inl ((hF.hS k).2 (.inr (.inr (.inr (.inr hk)))))
    · exact .inr (by omega)
  · refine hc08.mono fun k _ hk => (hF.hS k).2 ?_
    rcases hk with (hk | hk | hk) | hk
    · exact .inr (.inl hk)
    · exact .inr (.inr (.inl hk))
    · exact .inr (.inr (.inr (.inl hk)))
    · exact .inl hk
end
end Go.Proofs.YtjfekjbmgckkcaaGreatDoor.CkE
namespace Go.Proofs.YtjfekjbmgckkcaaGreatDoor.CkF
open Go.RowKit Go.Proofs.YtjfekjbmgckkcaaGreatDoorW.PrintWords
open Go.Proofs.YtjfekjbmgckkcaaGreatDoor.Bits Go.Proofs.YtjfekjbmgckkcaaGreatDoor.Base Go.Proofs.YtjfekjbmgckkcaaGreatDoor.VarPure Go.Proofs.YtjfekjbmgckkcaaGreatDoor.VarbitA Go.Proofs.YtjfekjbmgckkcaaGreatDoor.VarKit Go.Proofs.YtjfekjbmgckkcaaGreatDoor.StreamA Go.Proofs.YtjfekjbmgckkcaaGreatDoor.SpanPure Go.Proofs.YtjfekjbmgckkcaaGreatDoor.SpanBase Go.Proofs.YtjfekjbmgckkcaaGreatDoor.FailAs Go.Proofs.YtjfekjbmgckkcaaGreatDoor.FailB Go.Proofs.YtjfekjbmgckkcaaGreatDoor.FailC Go.Proofs.YtjfekjbmgckkcaaGreatDoor.HeadA Go.Proofs.YtjfekjbmgckkcaaGreatDoor.HeadB Go.Proofs.YtjfekjbmgckkcaaGreatDoor.HeadC Go.Proofs.YtjfekjbmgckkcaaGreatDoor.HeadE Go.Proofs.YtjfekjbmgckkcaaGreatDoor.HeadPure Go.Proofs.YtjfekjbmgckkcaaGreatDoor.Ref01 Go.Proofs.YtjfekjbmgckkcaaGreatDoor.Ref12 Go.Proofs.YtjfekjbmgckkcaaGreatDoor.TimesPure Go.Proofs.YtjfekjbmgckkcaaGreatDoor.TimesA Go.Proofs.YtjfekjbmgckkcaaGreatDoor.XorPure Go.Proofs.YtjfekjbmgckkcaaGreatDoor.XorA Go.Proofs.YtjfekjbmgckkcaaGreatDoor.XorB Go.Proofs.YtjfekjbmgckkcaaGreatDoor.CkPure Go.Proofs.YtjfekjbmgckkcaaGreatDoor.CkObj Go.Proofs.YtjfekjbmgckkcaaGreatDoor.CkA Go.Proofs.YtjfekjbmgckkcaaGreatDoor.CkB Go.Proofs.YtjfekjbmgckkcaaGreatDoor.CkD Go.Proofs.YtjfekjbmgckkcaaGreatDoor.CkE
set_option maxRecDepth 100000 in
set_option maxHeartbeats 6400000 in
theorem put_calls (g : Nat) (S : Nat → Prop) (q : Hd) (l : List IS) (x : IkL) (s : IS) (p : Lh) (w : World) (hF : Ik w g S q l x) (hs : IhIn w s.h p) (hoff : OnH (fun k => ¬ S k) s.h p) (h64 : In64S s) (hR : Room q l) (hT : Tab w) (hZ : Tz w)
    (hGb : ¬ S 1) (hGd : ¬ S 2) (hw0 : (wrongI q l s).1 = 0) :
    Calls Tryz.prog 135 #[.agg (cs5 q x).toArray, .pointer (some ⟨x.gw, 0, none⟩), .agg (isc s p).toArray] w fun e w' => e = .returned (.tuple #[]) ∧ ∃ W0 Sw, Below w.heap.size w W0 ∧ Ap q l s x W0 (width q) Sw w' := by
  have hC : ∀ b, (x.Sw b ∨ b = x.gt ∨ b ∈ x.cols) → S b := fun b hb => (hF.hS b).2 (by
    rcases hb with hb | hb | hb
    · exact .inr (.inl hb)
    · exact .inr (.inr (.inl hb))
    · exact .inr (.inr (.inr (.inl hb))))
  obtain ⟨hz1, hz2⟩ := wrong_short hw0
  have hvl := wrong_width hw0
  obtain ⟨W0, hW0, hg1, hg2, hal⟩ : ∃ W0 : World, W0 = (w.alloc (.cells #[.pointer (some ⟨x.gt, 0, none⟩), .pointer (some ⟨x.cols.getD 0 0, 0, none⟩), .pointer (some ⟨x.cols.getD 1 0, 0, none⟩), .pointer (some ⟨x.cols.getD 2 0, 0, none⟩), .slice x.va (width q - 3) x.vc] 192)).alloc (.cells #[.int .i64 s.t, .int .i64 s.h.schema, .int .u64 s.h.zero, .int .u64 s.h.zc, .int .u64 s.h.cnt, .int .u64 s.h.sum, .slice p.A s.h.pos.length p.c, .slice p.B s.h.neg.length p.d, .slice p.C s.h.pd.length p.cc, .slice p.D s.h.nd.length p.dd] 102) ∧ W0.heap[w.heap.size]? = some (.cells #[.pointer (some ⟨x.gt, 0, none⟩), .pointer (some ⟨x.cols.getD 0 0, 0, none⟩), .pointer (some ⟨x.cols.getD 1 0, 0, none⟩), .pointer (some ⟨x.cols.getD 2 0, 0, none⟩), .slice x.va (width q - 3) x.vc] 192 (0, 0)) ∧ W0.heap[w.heap.size + 1]? = some (.cells #[.int .i64 s.t, .int .i64 s.h.schema, .int .u64 s.h.zero, .int .u64 s.h.zc, .int .u64 s.h.cnt, .int .u64 s.h.sum, .slice p.A s.h.pos.length p.c, .slice p.B s.h.neg.length p.d, .slice p.C s.h.pd.length p.cc, .slice p.D s.h.nd.length p.dd] 102 (0, 0)) ∧ Below w.heap.size w W0 :=
    ⟨_, rfl, (Below.heap_alloc _ _ w.heap.size (blk_lt (blk_last w _))).trans (blk_last w _), by
      have := blk_last (w.alloc (.cells #[.pointer (some ⟨x.gt, 0, none⟩), .pointer (some ⟨x.cols.getD 0 0, 0, none⟩), .pointer (some ⟨x.cols.getD 1 0, 0, none⟩), .pointer (some ⟨x.cols.getD 2 0, 0, none⟩), .slice x.va (width q - 3) x.vc] 192)) (.cells #[.int .i64 s.t, .int .i64 s.h.schema, .int .u64 s.h.zero, .int .u64 s.h.zc, .int .u64 s.h.cnt, .int .u64 s.h.sum, .slice p.A s.h.pos.length p.c, .slice p.B s.h.neg.length p.d, .slice p.C s.h.pd.length p.cc, .slice p.D s.h.nd.length p.dd] 102)
      rwa [show (w.alloc (.cells #[.pointer (some ⟨x.gt, 0, none⟩), .pointer (some ⟨x.cols.getD 0 0, 0, none⟩), .pointer (some ⟨x.cols.getD 1 0, 0, none⟩), .pointer (some ⟨x.cols.getD 2 0, 0, none⟩), .slice x.va (width q - 3) x.vc] 192)).heap.size = w.heap.size + 1 from by simp] at this, below_alloc (below_alloc (Below.refl _ _) _) _⟩
  have hF0 := hF.below hal
  have HF0 := Lib.hid hF0
  have HSI : Hid (∀ W, Ch (fun b => x.Sw b ∨ b = x.gt ∨ b ∈ x.cols) W0 W → IhIn W s.h p) := Lib.hid (fun W h => (hs.below hal).ch h hoff fun k hk hc => hk (hC k hc))
  have HZI : Hid (∀ W, Ch (fun b => x.Sw b ∨ b = x.gt ∨ b ∈ x.cols) W0 W → Tz W) := Lib.hid (fun W h => (hZ.below hal).ch h fun hc => hGd (hC _ hc))
  have HTI : Hid (∀ W, Ch (fun b => x.Sw b ∨ b = x.gt ∨ b ∈ x.cols) W0 W → Tab W) := Lib.hid (fun W h => (hT.below hal).ch h fun hc => hGb (hC _ hc))
  have HCE : Hid (∀ W, Ch (fun b => x.Sw b ∨ b = x.gt ∨ b ∈ x.cols) W0 W → (W.cell? ⟨w.heap.size, 0, none⟩ = some (.pointer (some ⟨x.gt, 0, none⟩)) ∧ W.cell? ⟨w.heap.size, 1, none⟩ = some (.pointer (some ⟨x.cols.getD 0 0, 0, none⟩)) ∧ W.cell? ⟨w.heap.size, 2, none⟩ = some (.pointer (some ⟨x.cols.getD 1 0, 0, none⟩)) ∧ W.cell? ⟨w.heap.size, 3, none⟩ = some (.pointer (some ⟨x.cols.getD 2 0, 0, none⟩)) ∧ W.cell? ⟨w.heap.size, 4, none⟩ = some (.slice x.va (width q - 3) x.vc) ∧ W.cell? ⟨w.heap.size + 1, 0, none⟩ = some (.int .i64 s.t) ∧ W.cell? ⟨w.heap.size + 1, 1, none⟩ = some (.int .i64 s.h.schema) ∧ W.cell? ⟨w.heap.size + 1, 2, none⟩ = some (.int .u64 s.h.zero) ∧ W.cell? ⟨w.heap.size + 1, 3, none⟩ = some (.int .u64 s.h.zc) ∧ W.cell? ⟨w.heap.size + 1, 4, none⟩ = some (.int .u64 s.h.cnt) ∧ W.cell? ⟨w.heap.size + 1, 5, none⟩ = some (.int .u64 s.h.sum) ∧ W.cell? ⟨w.heap.size + 1, 6, none⟩ = some (.slice p.A s.h.pos.length p.c) ∧ W.cell? ⟨w.heap.size + 1, 7, none⟩ = some (.slice p.B s.h.neg.length p.d) ∧ W.cell? ⟨w.heap.size + 1, 8, none⟩ = some (.slice p.C s.h.pd.length p.cc) ∧ W.cell? ⟨w.heap.size + 1, 9, none⟩ = some (.slice p.D s.h.nd.length p.dd))) := Lib.hid (fun W h => by
    have h1 := h.blk hg1 fun hc => by have := hF.old _ (hC _ hc); omega
    have h2 := h.blk hg2 fun hc => by have := hF.old _ (hC _ hc); omega
    exact ⟨obj_cell h1 rfl, obj_cell h1 rfl, obj_cell h1 rfl, obj_cell h1 rfl, obj_cell h1 rfl, obj_cell h2 rfl, obj_cell h2 rfl, obj_cell h2 rfl, obj_cell h2 rfl, obj_cell h2 rfl, obj_cell h2 rfl, obj_cell h2 rfl, obj_cell h2 rfl, obj_cell h2 rfl, obj_cell h2 rfl⟩)
  have HTL : Hid (Tab W0) := Lib.hid (hT.below hal)
  have HPT : Hid (Calls Tryz.prog 111 #[.pointer (some ⟨x.gt, 0, none⟩), .pointer (some ⟨x.gw, 0, none⟩), .int .i64 s.t] W0 fun e w' => e = .returned (.tuple #[]) ∧ ∃ Sw, Ap q l s x W0 0 Sw w') := Lib.hid (by
    have := putS_row x.gw x.gt x.Sw (encH q ++ bitsB l) (lastOf (ts l)) (stepOf (ts l)) l.length (u64 s.t) W0 HTL.out (fun hc => hGb (hC _ (.inl hc))) hF0.tr hF0.wr hF0.wt (by have := hR.1; unfold chunkB at this; omega) (u64_lt _) (by have := hR.2; omega)
    rw [i64_u64 s.t h64.lo h64.hi] at this
    refine this.mono ?_
    rintro e w' ⟨rfl, hp⟩
    exact ⟨rfl, Ap.start hF0 hp⟩)
  have hlen : ∀ k, k ≤ width q → (chunkB q l ++ (toldL true (ts l) (u64 s.t) ++ colsB l s k)).length ≤ 10000000000 := fun k hk => by
    have e1 := hR.1
    have e2 := toldL_le true (ts l) (u64 s.t)
    have e3 := colsB_le hF.n64 h64 k
    rw [List.length_append, List.length_append]
    omega
  have hnot : ∀ (k : Nat) (Sw : Nat → Prop) W, Ap q l s x W0 k Sw W → ∀ b, b < W0.heap.size → ¬ x.Sw b → ¬ Sw b := fun k Sw W h b h2 h3 h4 => by
    rcases h.sw b h4 with h5 | h5
    · exact h3 h5
    · omega
  have hwc : ∀ (k : Nat) (Sw : Nat → Prop) W, Ap q l s x W0 k Sw W → ∀ hk : k < x.cols.length, ¬ Sw x.cols[k] := fun k Sw W h hk => hnot k Sw W h _ (hF0.old _ (hC _ (.inr (.inr (List.getElem_mem _))))) (hF.wc _ (List.getElem_mem _))
  have hGb0 : ∀ (k : Nat) (Sw : Nat → Prop) W, Ap q l s x W0 k Sw W → ¬ Sw 1 := fun k Sw W h => hnot k Sw W h _ (Nat.lt_of_lt_of_le hT.lt hal.size) fun hc => hGb (hC _ (.inl hc))
  have hGd0 : ∀ (k : Nat) (Sw : Nat → Prop) W, Ap q l s x W0 k Sw W → ¬ Sw 2 := fun k Sw W h => hnot k Sw W h _ (Nat.lt_of_lt_of_le hZ.lt hal.size) fun hc => hGd (hC _ (.inl hc))
  have hxk : ∀ (k : Nat) (Sw : Nat → Prop) W, Ap q l s x W0 k Sw W → ∀ hk : k < x.cols.length, ColK k W x.cols[k] (col l k) := fun k Sw W h hk => by
    have := h.xs k hk
    rwa [if_neg (by omega)] at this
  have hcol : ∀ k, (col l k).length < 1000000 := fun k => by rw [col_length]; have := hR.2; omega
  have HPOST : Hid (∀ (k : Nat) (Sw : Nat → Prop) (W : World) (h : Ap q l s x W0 k Sw W) (hk : k < x.cols.length) (w' : World), PutK k x.gw x.cols[k] Sw (chunkB q l ++ (toldL true (ts l) (u64 s.t) ++ colsB l s k)) (col l k) ((vals s.h).getD k 0) W w' → ∃ Sw2, Ap q l s x W0 (k + 1) Sw2 w' ∧ (∀ j, Sw2 j → Sw j ∨ W.heap.size ≤ j) ∧ Ch (fun b => Sw b ∨ b = x.cols[k]) W w') := Lib.hid (fun k Sw W h hk w' hp => h.col hF0 hk hp)
  have hwd : 3 ≤ width q := by unfold width; omega
  have hcl := hF.cl
  have HP0 : Hid (∀ Sw W, Ap q l s x W0 0 Sw W → Calls Tryz.prog 194 #[.pointer (some ⟨x.cols.getD 0 0, 0, none⟩), .pointer (some ⟨x.gw, 0, none⟩), .int .u64 s.h.cnt] W fun e w' => e = .returned (.tuple #[]) ∧ ∃ Sw2, Ap q l s x W0 1 Sw2 w') := Lib.hid (fun Sw W h => by
    have hk : 0 < x.cols.length := by omega
    have h1 := hxk 0 Sw W h hk
    unfold ColK at h1
    rw [if_pos (by decide)] at h1
    rw [getD_at hk]
    refine (putU_row x.gw x.cols[0] Sw _ (lastOf (col l 0)) (stepOf (col l 0)) (col l 0).length s.h.cnt W (HTI.out W h.ch) (hGb0 0 Sw W h) h1 h.wr (hwc 0 Sw W h hk) (hlen 0 (by omega)) h64.h.cnt (hcol 0)).mono ?_
    rintro e w' ⟨rfl, hp⟩
    obtain ⟨Sw2, h2, -⟩ := HPOST.out 0 Sw W h hk w' (PutK.ofU (by decide) hp)
    exact ⟨rfl, Sw2, h2⟩)
  have HP1 : Hid (∀ Sw W, Ap q l s x W0 1 Sw W → Calls Tryz.prog 194 #[.pointer (some ⟨x.cols.getD 1 0, 0, none⟩), .pointer (some ⟨x.gw, 0, none⟩), .int .u64 s.h.zc] W fun e w' => e = .returned (.tuple #[]) ∧ ∃ Sw2, Ap q l s x W0 2 Sw2 w') := Lib.hid (fun Sw W h => by
    have hk : 1 < x.cols.length := by omega
    have h1 := hxk 1 Sw W h hk
    unfold ColK at h1
    rw [if_pos (by decide)] at h1
    rw [getD_at hk]
    refine (putU_row x.gw x.cols[1] Sw _ (lastOf (col l 1)) (stepOf (col l 1)) (col l 1).length s.h.zc W (HTI.out W h.ch) (hGb0 1 Sw W h) h1 h.wr (hwc 1 Sw W h hk) (hlen 1 (by omega)) h64.h.zc (hcol 1)).mono ?_
    rintro e w' ⟨rfl, hp⟩
    obtain ⟨Sw2, h2, -⟩ := HPOST.out 1 Sw W h hk w' (PutK.ofU (by decide) hp)
    exact ⟨rfl, Sw2, h2⟩)
  have HP2 : Hid (∀ Sw W, Ap q l s x W0 2 Sw W → Calls Tryz.prog 112 #[.pointer (some ⟨x.cols.getD 2 0, 0, none⟩), .pointer (some ⟨x.gw, 0, none⟩), .int .u64 s.h.sum] W fun e w' => e = .returned (.tuple #[]) ∧ ∃ Sw2, Ap q l s x W0 3 Sw2 w') := Lib.hid (fun Sw W h => by
    have hk : 2 < x.cols.length := by omega
    have h1 := hxk 2 Sw W h hk
    unfold ColK at h1
    rw [if_neg (by decide), if_pos rfl] at h1
    rw [getD_at hk]
    refine (put_row x.gw x.cols[2] Sw _ (colX (col l 2)) s.h.sum W (HZI.out W h.ch) (hGd0 2 Sw W h) h1 h.wr (hwc 2 Sw W h hk) (hlen 2 (by omega)) h64.h.sum (by rw [colX_n]; exact hcol 2)).mono ?_
    rintro e w' ⟨rfl, hp⟩
    obtain ⟨Sw2, h2, -⟩ := HPOST.out 2 Sw W h hk w' (PutK.ofX hp)
    exact ⟨rfl, Sw2, h2⟩)
  have H64 : Hid (∀ y ∈ s.h.pd ++ s.h.nd, -9223372036854775808 ≤ y ∧ y ≤ 9223372036854775807) := Lib.hid (fun y hy => by
    rcases List.mem_append.1 hy with h | h
    · exact h64.h.pd y h
    · exact h64.h.nd y h)
  have HP3 : Hid (∀ (k : Nat) Sw W, Ap q l s x W0 (3 + k) Sw W → ∀ (hk : 3 + k < x.cols.length) (hv : k < (s.h.pd ++ s.h.nd).length), Calls Tryz.prog 111 #[.pointer (some ⟨x.cols[3 + k], 0, none⟩), .pointer (some ⟨x.gw, 0, none⟩), .int .i64 (s.h.pd ++ s.h.nd)[k]] W fun e w' => e = .returned (.tuple #[]) ∧
      ∃ Sw2, Ap q l s x W0 (3 + (k + 1)) Sw2 w' ∧ (∀ j, Sw2 j → Sw j ∨ W.heap.size ≤ j) ∧ Ch (fun b => Sw b ∨ b = x.cols[3 + k]) W w') := Lib.hid (fun k Sw W h hk hv => by
    have h1 := hxk (3 + k) Sw W h hk
    unfold ColK at h1
    rw [if_neg (by omega), if_neg (by omega)] at h1
    have hy := H64.out _ (List.getElem_mem hv)
    have h2 := putS_row x.gw x.cols[3 + k] Sw _ (lastOf (col l (3 + k))) (stepOf (col l (3 + k))) (col l (3 + k)).length ((vals s.h).getD (3 + k) 0) W (HTI.out W h.ch) (hGb0 (3 + k) Sw W h) h1 h.wr (hwc (3 + k) Sw W h hk) (hlen (3 + k) (by omega)) (getD64 (vals64 h64.h) _) (hcol (3 + k))
    rw [vals_at s.h k hv, i64_u64 _ hy.1 hy.2] at h2
    refine h2.mono ?_
    rintro e w' ⟨rfl, hp⟩
    rw [← vals_at s.h k hv] at hp
    exact ⟨rfl, HPOST.out (3 + k) Sw W h hk w' (PutK.ofS (by omega) hp)⟩)
  have HDE : Hid (∀ W, Ch (fun b => x.Sw b ∨ b = x.gt ∨ b ∈ x.cols) W0 W → Calls Tryz.prog 193 #[.agg #[.int .i64 s.t, .int .i64 s.h.schema, .int .u64 s.h.zero, .int .u64 s.h.zc, .int .u64 s.h.cnt, .int .u64 s.h.sum, .slice p.A s.h.pos.length p.c, .slice p.B s.h.neg.length p.d, .slice p.C s.h.pd.length p.cc, .slice p.D s.h.nd.length p.dd]] W fun e w' => ∃ v, e = .returned v ∧ OwI 2 .i64 w' W.heap.size v (s.h.pd ++ s.h.nd) ∧ Below W.heap.size W w') := Lib.hid (fun W h => deltas_calls s p W (HSI.out W h) hz1 hz2)
  have hdl : (s.h.pd ++ s.h.nd).length = width q - 3 := by
    rw [vals_length] at hvl
    rw [List.length_append]; omega
  have HVP := Lib.hid hF0.vals
  have HVC := Lib.hid hF.vc
  have HCL := Lib.hid hcl
  have hwm : width q ≤ 9000 := by rw [← hvl, vals_length]; omega
  have HNV : Hid (∀ ad, x.va = some ad → 0 < width q - 3 → ¬ (x.Sw ad.block ∨ ad.block = x.gt ∨ ad.block ∈ x.cols) ∧ ad.block < W0.heap.size) := Lib.hid (fun ad hA hp => by
    have hTT := hF0.onv ad hA hp
    refine ⟨fun hc => ?_, hF0.old _ ((hF0.hS _).2 (.inr (.inr (.inr (.inr hTT)))))⟩
    rcases hc with hc | hc | hc
    · exact hF0.wT _ hTT hc
    · exact hF0.tT (hc ▸ hTT)
    · exact hF0.cT _ hc hTT)
  have HW0 := Lib.hid hW0
  have HAL := Lib.hid hal
  have HOLD := Lib.hid (fun b (hb : x.Sw b ∨ b = x.gt ∨ b ∈ x.cols) => hF0.old b (hC b hb))
  obtain ⟨x0, x1, x2, x3, x4, s0, s1, s2, s3, s4, s5, s6, s7, s8, s9⟩ := HCE.out _ (Ch.refl _ _)
  clear hW0 hg1 hg2 hal hF0 hlen hnot hwc hGb0 hGd0 hxk hcol hcl hz1 hz2 hvl hwd hC hF hs hoff h64 hR hT hZ hGb hGd hw0
  show Calls Tryz.prog 135 #[.agg #[.pointer (some ⟨x.gt, 0, none⟩), .pointer (some ⟨x.cols.getD 0 0, 0, none⟩), .pointer (some ⟨x.cols.getD 1 0, 0, none⟩), .pointer (some ⟨x.cols.getD 2 0, 0, none⟩), .slice x.va (width q - 3) x.vc], .pointer (some ⟨x.gw, 0, none⟩), .agg #[.int .i64 s.t, .int .i64 s.h.schema, .int .u64 s.h.zero, .int .u64 s.h.zc, .int .u64 s.h.cnt, .int .u64 s.h.sum, .slice p.A s.h.pos.length p.c, .slice p.B s.h.neg.length p.d, .slice p.C s.h.pd.length p.cc, .slice p.D s.h.nd.length p.dd]] w _
  obtain ⟨M, hM⟩ : ∃ M, M = width q - 3 := ⟨_, rfl⟩
  have HMM := Lib.hid hM
  have HWM : Hid (width q = 3 + M) := Lib.hid (by rw [hM]; unfold width; omega)
  obtain ⟨va, hva⟩ : ∃ v, v = x.va := ⟨_, rfl⟩
  rw [← hM] at hdl HVC HNV x4 HW0 HCE ⊢
  rw [← hva] at HNV x4 HW0 HCE ⊢
  simp only [← hva] at HVP
  obtain ⟨c0, hc0⟩ : ∃ c, c = x.cols.getD 0 0 := ⟨_, rfl⟩
  obtain ⟨c1, hc1⟩ : ∃ c, c = x.cols.getD 1 0 := ⟨_, rfl⟩
  obtain ⟨c2, hc2⟩ : ∃ c, c = x.cols.getD 2 0 := ⟨_, rfl⟩
  rw [← hc0] at HP0 x1 HW0 HCE ⊢
  rw [← hc1] at HP1 x2 HW0 HCE ⊢
  rw [← hc2] at HP2 x3 HW0 HCE ⊢
  clear hc0 hc1 hc2
  have hMm : M ≤ 9000 := by omega
  obtain ⟨vs, hvs⟩ : ∃ vs, vs = s.h.pd ++ s.h.nd := ⟨_, rfl⟩
  have HP3 : Hid (∀ (k : Nat) Sw W, Ap q l s x W0 (3 + k) Sw W → ∀ (hk : 3 + k < x.cols.length) (hv : k < vs.length), Calls Tryz.prog 111 #[.pointer (some ⟨x.cols[3 + k], 0, none⟩), .pointer (some ⟨x.gw, 0, none⟩), .int .i64 vs[k]] W fun e w' => e = .returned (.tuple #[]) ∧
      ∃ Sw2, Ap q l s x W0 (3 + (k + 1)) Sw2 w' ∧ (∀ j, Sw2 j → Sw j ∨ W.heap.size ≤ j) ∧ Ch (fun b => Sw b ∨ b = x.cols[3 + k]) W w') := by subst hvs; exact HP3
  rw [← hvs] at hdl HDE
  clear hM hva hvs hwm
  go_enter Tryz.func135, Tryz.ntmps135
  go_wp2_with (fail)
  rw [← HW0.out]
  refine HPT.out.mono ?_
  rintro e w1 ⟨rfl, Sw1, h1⟩
  have A1 := Lib.hid h1
  clear x0 x1 x2 x3 x4 s0 s1 s2 s3 s4 s5 s6 s7 s8 s9
  obtain ⟨x0, x1, x2, x3, x4, s0, s1, s2, s3, s4, s5, s6, s7, s8, s9⟩ := HCE.out _ h1.ch
  clear h1 HPT
  go_wp2_with (fail)
  refine (HP0.out _ _ A1.out).mono ?_
  rintro e w2 ⟨rfl, Sw2, h1⟩
  have A2 := Lib.hid h1
  clear x0 x1 x2 x3 x4 s0 s1 s2 s3 s4 s5 s6 s7 s8 s9
  obtain ⟨x0, x1, x2, x3, x4, s0, s1, s2, s3, s4, s5, s6, s7, s8, s9⟩ := HCE.out _ h1.ch
  clear h1 HP0
  go_wp2_with (fail)
  refine (HP1.out _ _ A2.out).mono ?_
  rintro e w3 ⟨rfl, Sw3, h1⟩
  have A3 := Lib.hid h1
  clear x0 x1 x2 x3 x4 s0 s1 s2 s3 s4 s5 s6 s7 s8 s9
  obtain ⟨x0, x1, x2, x3, x4, s0, s1, s2, s3, s4, s5, s6, s7, s8, s9⟩ := HCE.out _ h1.ch
  clear h1 HP1
  go_wp2_with (fail)
  refine (HP2.out _ _ A3.out).mono ?_
  rintro e w4 ⟨rfl, Sw4, h1⟩
  have A4 := Lib.hid h1
  clear x0 x1 x2 x3 x4 s0 s1 s2 s3 s4 s5 s6 s7 s8 s9
  obtain ⟨x0, x1, x2, x3, x4, s0, s1, s2, s3, s4, s5, s6, s7, s8, s9⟩ := HCE.out _ h1.ch
  clear h1 HP2
  go_wp2_with (fail)
  refine (HDE.out _ A4.out.ch).mono ?_
  rintro e w5 ⟨v, rfl, ho, hb5⟩
  obtain ⟨V5, c5, rfl, hc5, hr5⟩ := ho.reads
  have A5 := Lib.hid (A4.out.below hb5)
  have HSW4 := Lib.hid A4.out.wr.old
  have HRD : Hid (∀ wr, Ch (fun b => Sw4 b ∨ b ∈ x.cols) w5 wr → RdI .i64 wr V5 vs) := Lib.hid (fun wr hc => by
    rcases Nat.eq_zero_or_pos vs.length with h0 | h0
    · rw [List.length_eq_zero_iff.1 h0]
      exact RdI.nil _ _ _
    · refine hr5.ch hc fun ad hA hbad => ?_
      subst hA
      obtain ⟨g9, c9, he, h9, -, -⟩ := OwI.form ho h0
      injection he with he
      injection he with he
      subst he
      have h9' : w4.heap.size ≤ g9 := h9
      have h5 : (⟨g9, 0, none⟩ : Addr).block = g9 := rfl
      rcases hbad with hbad | hbad
      · have := HSW4.out _ hbad
        omega
      · have := HOLD.out _ (.inr (.inr hbad))
        have h4 := A4.out.ch.size
        omega)
  have HDL := Lib.hid hdl
  rw [hdl]
  clear x0 x1 x2 x3 x4 s0 s1 s2 s3 s4 s5 s6 s7 s8 s9 ho hb5 hr5 hc5 hdl HDE
  go_wp2_with (fail)
  go_loopw [6, 7, 38] (fun _ _ i wr => ∃ (k : Nat) (Sw' : Nat → Prop), k ≤ M ∧ i = .int .i64 k ∧ Ap q l s x W0 (3 + k) Sw' wr ∧ (∀ j, Sw' j → Sw4 j ∨ w5.heap.size ≤ j) ∧ Ch (fun b => Sw4 b ∨ b ∈ x.cols) w5 wr) (fun _ _ i _ => M - (intOf i).toNat)
  case atStart => exact ⟨0, Sw4, by omega, rfl, A5.out, fun j hj => .inl hj, Ch.refl _ _⟩
  case round =>
    obtain ⟨k, Sw', hk, rfl, hap, hsw, hch⟩ := hrel
    have A6 := Lib.hid hap
    have HS6 := Lib.hid hsw
    have HC6 := Lib.hid hch
    obtain ⟨x0, x1, x2, x3, x4, s0, s1, s2, s3, s4, s5, s6, s7, s8, s9⟩ := HCE.out _ hap.ch
    clear hap hsw
    by_cases hlt : k < M
    · have hkc : 3 + k < x.cols.length := by rw [HCL.out, HWM.out]; omega
      obtain ⟨vad, hva, hvk0⟩ := HVP.out k hkc
      have hvk := A6.out.ch.cell hvk0 (by
        rw [show (vad.add k).block = vad.block from by unfold Addr.add; split <;> rfl]
        exact (HNV.out vad hva (by omega)).1)
      subst hva
      have hkv : k < vs.length := by rw [HDL.out]; exact hlt
      have HX := HP3.out k Sw' wr A6.out hkc hkv
      obtain ⟨ad, hA, hc⟩ := RdI.at_ (HRD.out wr hch) k hkv
      subst hA
      obtain ⟨u, hu⟩ : ∃ u, u = vs[k] := ⟨_, rfl⟩
      rw [← hu] at hc HX
      obtain ⟨cl, hcl⟩ : ∃ cl, cl = x.cols[3 + k] := ⟨_, rfl⟩
      rw [← hcl] at hvk HX
      have HX := Lib.hid HX
      have hkv2 : k < x.vc := by have := HVC.out; omega
      have HCM := Lib.hid (show cl ∈ x.cols from hcl ▸ List.getElem_mem _)
      clear hch hu hcl hkv hvk0
      go_wp2_with (fail)
      refine HX.out.mono ?_
      rintro e w7 ⟨rfl, Sw7, hap7, hsw7, hch7⟩
      have A7 := Lib.hid hap7
      have HS7 : Hid (∀ j, Sw7 j → Sw4 j ∨ w5.heap.size ≤ j) := Lib.hid (fun j hj => by
        rcases hsw7 j hj with h5 | h5
        · exact HS6.out j h5
        · exact .inr (Nat.le_trans HC6.out.size h5))
      have HC7 : Hid (Ch (fun b => Sw4 b ∨ b ∈ x.cols) w5 w7) := Lib.hid (HC6.out.trans (S' := fun b => Sw' b ∨ b = cl) hch7 fun b hb hc => by
        rcases hc with hc | hc
        · rcases HS6.out b hc with h5 | h5
          · exact .inl h5
          · omega
        · exact .inr (hc ▸ HCM.out))
      clear hap7 hsw7 hch7 hvk x0 x1 x2 x3 x4 s0 s1 s2 s3 s4 s5 s6 s7 s8 s9
      go_wp2
      go_roundw
      case rel => exact ⟨k + 1, Sw7, by omega, by go_num, A7.out, HS7.out, HC7.out⟩
      case measure => simp [intOf]; omega
    · obtain rfl : k = M := by omega
      have HFIN : Hid (Ap q l s x W0 (width q) Sw' wr) := Lib.hid (by rw [HWM.out]; exact A6.out)
      clear hch x0 x1 x2 x3 x4 s0 s1 s2 s3 s4 s5 s6 s7 s8 s9
      go_wp2
      go_end0
      exact ⟨rfl, W0, Sw', HAL.out, HFIN.out⟩
end Go.Proofs.YtjfekjbmgckkcaaGreatDoor.CkF
namespace Go.Proofs.YtjfekjbmgckkcaaGreatDoor.CkFa
open Go.RowKit Go.Proofs.YtjfekjbmgckkcaaGreatDoorW.PrintWords
open Go.Proofs.YtjfekjbmgckkcaaGreatDoor.Bits Go.Proofs.YtjfekjbmgckkcaaGreatDoor.Base Go.Proofs.YtjfekjbmgckkcaaGreatDoor.VarPure Go.Proofs.YtjfekjbmgckkcaaGreatDoor.VarbitA Go.Proofs.YtjfekjbmgckkcaaGreatDoor.VarKit Go.Proofs.YtjfekjbmgckkcaaGreatDoor.StreamA Go.Proofs.YtjfekjbmgckkcaaGreatDoor.SpanPure Go.Proofs.YtjfekjbmgckkcaaGreatDoor.SpanBase Go.Proofs.YtjfekjbmgckkcaaGreatDoor.FailAs Go.Proofs.YtjfekjbmgckkcaaGreatDoor.FailB Go.Proofs.YtjfekjbmgckkcaaGreatDoor.FailC Go.Proofs.YtjfekjbmgckkcaaGreatDoor.HeadA Go.Proofs.YtjfekjbmgckkcaaGreatDoor.HeadB Go.Proofs.YtjfekjbmgckkcaaGreatDoor.HeadC Go.Proofs.YtjfekjbmgckkcaaGreatDoor.HeadE Go.Proofs.YtjfekjbmgckkcaaGreatDoor.HeadPure Go.Proofs.YtjfekjbmgckkcaaGreatDoor.Ref01 Go.Proofs.YtjfekjbmgckkcaaGreatDoor.Ref12 Go.Proofs.YtjfekjbmgckkcaaGreatDoor.TimesPure Go.Proofs.YtjfekjbmgckkcaaGreatDoor.TimesA Go.Proofs.YtjfekjbmgckkcaaGreatDoor.XorPure Go.Proofs.YtjfekjbmgckkcaaGreatDoor.XorA Go.Proofs.YtjfekjbmgckkcaaGreatDoor.XorB Go.Proofs.YtjfekjbmgckkcaaGreatDoor.CkPure Go.Proofs.YtjfekjbmgckkcaaGreatDoor.CkObj Go.Proofs.YtjfekjbmgckkcaaGreatDoor.CkA Go.Proofs.YtjfekjbmgckkcaaGreatDoor.CkB Go.Proofs.YtjfekjbmgckkcaaGreatDoor.CkD Go.Proofs.YtjfekjbmgckkcaaGreatDoor.CkE Go.Proofs.YtjfekjbmgckkcaaGreatDoor.CkF
def AppPost (g : Nat) (S : Nat → Prop) (q : Hd) (l : List IS) (s : IS) (w : World) (e : Ending) (w' : World) : Prop :=
  ((wrongI q l s).1 ≠ 0 ∧ (∃ v, e = .returned v ∧ Err w' v (plc (wrongI q l s).1 (wrongI q l s).2 l.length) .nilIface) ∧ Below w.heap.size w w') ∨
    ((wrongI q l s).1 = 0 ∧ e = .returned .nilIface ∧ Upd (fun W S => Ci W g S q (l ++ [s])) S w w')
set_option maxRecDepth 100000 in
set_option maxHeartbeats 6400000 in
theorem append_calls (g : Nat) (S : Nat → Prop) (q : Hd) (l : List IS) (x : IkL) (s : IS) (p : Lh) (w : World) (hF : Ik w g S q l x) (hs : IhIn w s.h p) (hoff : OnH (fun k => ¬ S k) s.h p) (h64 : In64S s) (hR : Room q l) (hE : GlE w) (hT : Tab w) (hZ : Tz w)
    (hGb : ¬ S 1) (hGd : ¬ S 2) :
    Calls Tryz.prog 60 #[.pointer (some ⟨g, 0, none⟩), .agg (isc s p).toArray] w (AppPost g S q l s w) := by
  have hC : ∀ b, (x.Sw b ∨ b = x.gt ∨ b ∈ x.cols) → S b := fun b hb => (hF.hS b).2 (by
    rcases hb with hb | hb | hb
    · exact .inr (.inl hb)
    · exact .inr (.inr (.inl hb))
    · exact .inr (.inr (.inr (.inl hb))))
  obtain ⟨W0, hW0, hbk, hal⟩ : ∃ W : World, W = w.alloc (.cells #[.int .i64 s.t, .int .i64 s.h.schema, .int .u64 s.h.zero, .int .u64 s.h.zc, .int .u64 s.h.cnt, .int .u64 s.h.sum, .slice p.A s.h.pos.length p.c, .slice p.B s.h.neg.length p.d, .slice p.C s.h.pd.length p.cc, .slice p.D s.h.nd.length p.dd] 102) ∧ W.heap[w.heap.size]? = some (.cells #[.int .i64 s.t, .int .i64 s.h.schema, .int .u64 s.h.zero, .int .u64 s.h.zc, .int .u64 s.h.cnt, .int .u64 s.h.sum, .slice p.A s.h.pos.length p.c, .slice p.B s.h.neg.length p.d, .slice p.C s.h.pd.length p.cc, .slice p.D s.h.nd.length p.dd] 102 (0, 0)) ∧ Below w.heap.size w W := ⟨_, rfl, blk_last w _, below_alloc (Below.refl _ _) _⟩
  have HF : Hid (∀ W, Below W0.heap.size W0 W → Ik W g S q l x) := Lib.hid (fun W h => hF.below (below_then hal hal.size h))
  have HSI6 : Hid (∀ W1, Below W0.heap.size W0 W1 → ∀ W, Ch (fun b => (x.Sw b ∨ b = x.gt ∨ b ∈ x.cols) ∨ b = g) W1 W → IhIn W s.h p) := Lib.hid (fun W1 h1 W h => (hs.below (below_then hal hal.size h1)).ch h hoff fun k hk hc => hk (by
    rcases hc with hc | hc
    · exact hC k hc
    · exact (hF.hS k).2 (.inl hc)))
  have HQP : Hid (∀ W1, Below W0.heap.size W0 W1 → ∀ W, Ch (fun b => (x.Sw b ∨ b = x.gt ∨ b ∈ x.cols) ∨ b = g) W1 W → Spl W x.p.A x.p.c q.pos ∧ Spl W x.p.B x.p.d q.neg) := Lib.hid (fun W1 h1 W h => by
    have hF1 := HF.out W1 h1
    have nT : ∀ k, x.T k → ¬ ((x.Sw k ∨ k = x.gt ∨ k ∈ x.cols) ∨ k = g) := fun k hk hn => by
      rcases hn with (hn | hn | hn) | hn
      · exact hF.wT k hk hn
      · subst hn; exact hF.tT hk
      · exact hF.cT k hn hk
      · subst hn; exact hF.gT hk
    exact ⟨Spl.ch hF1.hd.pos h hF1.onp nT, Spl.ch hF1.hd.neg h hF1.onn nT⟩)
  have HBX : Hid (∀ W1, Below W0.heap.size W0 W1 → ∀ W, Ch (fun b => x.Sw b ∨ b = x.gt ∨ b ∈ x.cols) W1 W → W.heap[w.heap.size]? = some (.cells #[.int .i64 s.t, .int .i64 s.h.schema, .int .u64 s.h.zero, .int .u64 s.h.zc, .int .u64 s.h.cnt, .int .u64 s.h.sum, .slice p.A s.h.pos.length p.c, .slice p.B s.h.neg.length p.d, .slice p.C s.h.pd.length p.cc, .slice p.D s.h.nd.length p.dd] 102 (0, 0))) := Lib.hid (fun W1 h1 W h => h.blk ((h1.block _ (blk_lt hbk)).trans hbk) fun hc => by
    have := hF.old _ (hC _ hc)
    omega)
  have HGX : Hid (∀ W1, Below W0.heap.size W0 W1 → ∀ W, Ch (fun b => x.Sw b ∨ b = x.gt ∨ b ∈ x.cols) W1 W → W.heap[g]? = some (.cells (cells23 q l.length (width q - 3) x (lastS q l) x.r) 195 (0, 0))) := Lib.hid (fun W1 h1 W h => by
    have hF1 := HF.out W1 h1
    have := h.blk hF1.obj (fun hc => by
      rcases hc with hc | hc | hc
      · exact hF1.gw hc
      · exact hF1.gt hc
      · exact hF1.gc hc)
    rwa [kic_eq] at this)
  have HCEL : Hid (∀ W1, Below W0.heap.size W0 W1 → ∀ W : World, Ch (fun b => x.Sw b ∨ b = x.gt ∨ b ∈ x.cols) W1 W → ((W.cell? ⟨w.heap.size, 0, none⟩ = some (.int .i64 s.t) ∧ W.cell? ⟨w.heap.size, 1, none⟩ = some (.int .i64 s.h.schema) ∧ W.cell? ⟨w.heap.size, 2, none⟩ = some (.int .u64 s.h.zero) ∧ W.cell? ⟨w.heap.size, 3, none⟩ = some (.int .u64 s.h.zc) ∧ W.cell? ⟨w.heap.size, 4, none⟩ = some (.int .u64 s.h.cnt) ∧ W.cell? ⟨w.heap.size, 5, none⟩ = some (.int .u64 s.h.sum) ∧ W.cell? ⟨w.heap.size, 6, none⟩ = some (.slice p.A s.h.pos.length p.c) ∧ W.cell? ⟨w.heap.size, 7, none⟩ = some (.slice p.B s.h.neg.length p.d) ∧ W.cell? ⟨w.heap.size, 8, none⟩ = some (.slice p.C s.h.pd.length p.cc) ∧ W.cell? ⟨w.heap.size, 9, none⟩ = some (.slice p.D s.h.nd.length p.dd)) ∧ W.cell? ⟨g, 4, none⟩ = some (.slice x.p.A q.pos.length x.p.c) ∧ W.cell? ⟨g, 5, none⟩ = some (.slice x.p.B q.neg.length x.p.d) ∧ W.cell? ⟨g, 6, none⟩ = some (.pointer (some ⟨x.gw, 0, none⟩)) ∧ W.cell? ⟨g, 7, none⟩ = some (.int .i64 l.length) ∧ W.cell? ⟨g, 8, none⟩ = some (.pointer (some ⟨x.gt, 0, none⟩)) ∧ W.cell? ⟨g, 9, none⟩ = some (.pointer (some ⟨x.cols.getD 0 0, 0, none⟩)) ∧ W.cell? ⟨g, 10, none⟩ = some (.pointer (some ⟨x.cols.getD 1 0, 0, none⟩)) ∧ W.cell? ⟨g, 11, none⟩ = some (.pointer (some ⟨x.cols.getD 2 0, 0, none⟩)) ∧ W.cell? ⟨g, 12, none⟩ = some (.slice x.va (width q - 3) x.vc))) := Lib.hid (fun W1 h1 W h => by
    have hb := HBX.out W1 h1 W h
    have hg := HGX.out W1 h1 W h
    exact ⟨⟨obj_cell hb rfl, obj_cell hb rfl, obj_cell hb rfl, obj_cell hb rfl, obj_cell hb rfl, obj_cell hb rfl, obj_cell hb rfl, obj_cell hb rfl, obj_cell hb rfl, obj_cell hb rfl⟩, obj_cell hg rfl, obj_cell hg rfl, obj_cell hg rfl, obj_cell hg rfl, obj_cell hg rfl, obj_cell hg rfl, obj_cell hg rfl, obj_cell hg rfl, obj_cell hg rfl⟩)
  have HCO := Lib.hid (cost_calls g S q l x s p W0 (hF.below hal) (hs.below hal) h64 hR (gle_below hE hal) (hT.below hal) (hZ.below hal))
  have HPU := Lib.hid (fun (h0 : (wrongI q l s).1 = 0) W (h : Below W0.heap.size W0 W) => put_calls g S q l x s p W (HF.out W h) (hs.below (below_then hal hal.size h)) hoff h64 hR (hT.below (below_then hal hal.size h)) (hZ.below (below_then hal hal.size h)) hGb hGd h0)
  have HPOST : Hid (∀ e w', AppPost g S q l s w e w' = (((wrongI q l s).1 ≠ 0 ∧ (∃ v, e = .returned v ∧ Err w' v (plc (wrongI q l s).1 (wrongI q l s).2 l.length) .nilIface) ∧ Below w.heap.size w w') ∨
    ((wrongI q l s).1 = 0 ∧ e = .returned .nilIface ∧ Upd (fun W S => Ci W g S q (l ++ [s])) S w w'))) := Lib.hid (fun _ _ => rfl)
  have HEND := Lib.hid (fun W (hb : Below W0.heap.size W0 W) => below_then hal hal.size hb)
  have HR2 := Lib.hid hR.2
  have HW0 := Lib.hid hW0
  have HFF := Lib.hid hF
  have HH64 := Lib.hid h64
  clear hW0 hE hT hZ hGb hGd hC hbk hal hF hs hoff h64 hR
  show Calls Tryz.prog 60 #[.pointer (some ⟨g, 0, none⟩), .agg #[.int .i64 s.t, .int .i64 s.h.schema, .int .u64 s.h.zero, .int .u64 s.h.zc, .int .u64 s.h.cnt, .int .u64 s.h.sum, .slice p.A s.h.pos.length p.c, .slice p.B s.h.neg.length p.d, .slice p.C s.h.pd.length p.cc, .slice p.D s.h.nd.length p.dd]] w _
  dsimp only [isc, ics, cs5] at HCO HPU
  obtain ⟨c0, hc0⟩ : ∃ c, c = x.cols.getD 0 0 := ⟨_, rfl⟩
  obtain ⟨c1, hc1⟩ : ∃ c, c = x.cols.getD 1 0 := ⟨_, rfl⟩
  obtain ⟨c2, hc2⟩ : ∃ c, c = x.cols.getD 2 0 := ⟨_, rfl⟩
  rw [← hc0, ← hc1, ← hc2] at HPU HCEL
  clear hc0 hc1 hc2
  go_enter Tryz.func60, Tryz.ntmps60
  go_wp2_with (fail)
  rw [← HW0.out]
  refine HCO.out.mono ?_
  rintro e w1 ⟨hb1, hcase⟩
  have B1 := Lib.hid hb1
  clear hb1 HCO
  rcases hcase with ⟨h0, v, rfl, he⟩ | ⟨h0, rfl⟩
  · have H0 := Lib.hid h0
    have E1 := Lib.hid he
    obtain ⟨ge, rfl⟩ := err_some (by omega) he
    clear h0 he
    go_wp2
    go_ret
    exact (HPOST.out _ _).mpr (.inl ⟨H0.out, ⟨_, rfl, E1.out⟩, HEND.out _ B1.out⟩)
  have H0 := Lib.hid h0
  obtain ⟨lb, hlb⟩ : ∃ lb, lb = (lastB l s).length := ⟨_, rfl⟩
  rw [← hlb]
  have B1d := Lib.hid (below_drew B1.out)
  have hs0 := HCEL.out _ B1d.out _ (Ch.refl _ _)
  have HP1 := Lib.hid (HPU.out h0 _ B1d.out)
  clear h0 hlb HPU
  go_wp2_with (fail)
  go_region_held3 (fun W => (W.cell? ⟨w.heap.size, 0, none⟩ = some (.int .i64 s.t) ∧ W.cell? ⟨w.heap.size, 1, none⟩ = some (.int .i64 s.h.schema) ∧ W.cell? ⟨w.heap.size, 2, none⟩ = some (.int .u64 s.h.zero) ∧ W.cell? ⟨w.heap.size, 3, none⟩ = some (.int .u64 s.h.zc) ∧ W.cell? ⟨w.heap.size, 4, none⟩ = some (.int .u64 s.h.cnt) ∧ W.cell? ⟨w.heap.size, 5, none⟩ = some (.int .u64 s.h.sum) ∧ W.cell? ⟨w.heap.size, 6, none⟩ = some (.slice p.A s.h.pos.length p.c) ∧ W.cell? ⟨w.heap.size, 7, none⟩ = some (.slice p.B s.h.neg.length p.d) ∧ W.cell? ⟨w.heap.size, 8, none⟩ = some (.slice p.C s.h.pd.length p.cc) ∧ W.cell? ⟨w.heap.size, 9, none⟩ = some (.slice p.D s.h.nd.length p.dd)) ∧ W.cell? ⟨g, 4, none⟩ = some (.slice x.p.A q.pos.length x.p.c) ∧ W.cell? ⟨g, 5, none⟩ = some (.slice x.p.B q.neg.length x.p.d) ∧ W.cell? ⟨g, 6, none⟩ = some (.pointer (some ⟨x.gw, 0, none⟩)) ∧ W.cell? ⟨g, 7, none⟩ = some (.int .i64 l.length) ∧ W.cell? ⟨g, 8, none⟩ = some (.pointer (some ⟨x.gt, 0, none⟩)) ∧ W.cell? ⟨g, 9, none⟩ = some (.pointer (some ⟨c0, 0, none⟩)) ∧ W.cell? ⟨g, 10, none⟩ = some (.pointer (some ⟨c1, 0, none⟩)) ∧ W.cell? ⟨g, 11, none⟩ = some (.pointer (some ⟨c2, 0, none⟩)) ∧ W.cell? ⟨g, 12, none⟩ = some (.slice x.va (width q - 3) x.vc))
    (first | (with_reducible exact hs0) | (with_reducible exact hs2))
    (first | (go_at_call 135; refine HP1.out.mono ?_; rintro e w2 ⟨rfl, WA, Sw2, hbA, hap⟩; have bA : Below W0.heap.size W0 WA := below_then B1d.out B1d.out.size hbA; have hs2 := HCEL.out _ bA _ hap.ch))
  have BA := Lib.hid bA
  have A2 := Lib.hid hap
  have hg2 := HGX.out _ bA _ hap.ch
  have hx2 := HBX.out _ bA _ hap.ch
  have hne : w.heap.size ≠ g := fun he => by
    have := HFF.out.old g ((HFF.out.hS g).2 (.inl rfl))
    omega
  have hln := HR2.out
  have g7 : w2.cell? ⟨g, 7, none⟩ = some (.int .i64 l.length) := obj_cell hg2 rfl
  have f7 : w2.frozen? ⟨g, 7, none⟩ = false := obj_free hg2
  obtain ⟨W6, hW6, hg6, hb6, hc6⟩ : ∃ W : World, W = w2.setCell ⟨g, 7, none⟩ (.int .i64 ((l.length : Int) + 1)) ∧ W.heap[g]? = some (.cells (cells23 q (l.length + 1) (width q - 3) x (lastS q l) x.r) 195 (0, 0)) ∧ W.heap[w.heap.size]? = some (.cells #[.int .i64 s.t, .int .i64 s.h.schema, .int .u64 s.h.zero, .int .u64 s.h.zc, .int .u64 s.h.cnt, .int .u64 s.h.sum, .slice p.A s.h.pos.length p.c, .slice p.B s.h.neg.length p.d, .slice p.C s.h.pd.length p.cc, .slice p.D s.h.nd.length p.dd] 102 (0, 0)) ∧ Ch (fun b => b = g) w2 W :=
    ⟨_, rfl, by rw [← cells23_7 q l.length]; exact blk_set hg2 7 _, (Below.heap_setCell _ _ _ _ hne).trans hx2, (Ch.refl (fun b => b = g) w2).setCell (p := ⟨g, 7, none⟩) (.inl rfl) _⟩
  have HW6 := Lib.hid hW6
  have hcg : Ch (fun b => (x.Sw b ∨ b = x.gt ∨ b ∈ x.cols) ∨ b = g) WA W6 := (hap.ch.mono fun _ _ h => .inl h).trans hc6 fun _ _ h => .inr h
  have HCG := Lib.hid hcg
  have HCP := Lib.hid (copied_calls s p W6 (HSI6.out _ bA _ hcg))
  obtain ⟨⟨k0, k1, k2, k3, k4, k5, k6, k7, k8, k9⟩, -⟩ := hs2
  have hne' : g ≠ w.heap.size := Ne.symm hne
  have HG6 := Lib.hid hg6
  dsimp only [isc, ics] at HCP
  clear hs0 hbA hap bA hg2 hx2 hW6 hg6 hb6 hc6 hcg HP1
  go_wp2_with (fail)
  rw [← HW6.out]
  clear g7 f7 k0 k1 k2 k3 k4 k5 k6 k7 k8 k9 hne hne'
  refine HCP.out.mono ?_
  rintro e w7 ⟨r, rfl, hr7, hor7, hb7⟩
  have R7 := Lib.hid hr7
  have O7 := Lib.hid hor7
  have B7 := Lib.hid hb7
  have hg7 := (hb7.block _ (blk_lt HG6.out)).trans HG6.out
  have e13 := obj_cell (i := 13) hg7 rfl
  have f13 := obj_free (i := 13) hg7
  have e14 := obj_cell (i := 14) hg7 rfl
  have f14 := obj_free (i := 14) hg7
  have e15 := obj_cell (i := 15) hg7 rfl
  have f15 := obj_free (i := 15) hg7
  have e16 := obj_cell (i := 16) hg7 rfl
  have f16 := obj_free (i := 16) hg7
  have e17 := obj_cell (i := 17) hg7 rfl
  have f17 := obj_free (i := 17) hg7
  have e18 := obj_cell (i := 18) hg7 rfl
  have f18 := obj_free (i := 18) hg7
  have e19 := obj_cell (i := 19) hg7 rfl
  have f19 := obj_free (i := 19) hg7
  have e20 := obj_cell (i := 20) hg7 rfl
  have f20 := obj_free (i := 20) hg7
  have e21 := obj_cell (i := 21) hg7 rfl
  have f21 := obj_free (i := 21) hg7
  have e22 := obj_cell (i := 22) hg7 rfl
  have f22 := obj_free (i := 22) hg7
  obtain ⟨W8, hW8, hg8, hc8⟩ : ∃ W : World, W = (((((((((w7.setCell ⟨g, 13, none⟩ (.int .i64 s.t)).setCell ⟨g, 14, none⟩ (.int .i64 s.h.schema)).setCell ⟨g, 15, none⟩ (.int .u64 s.h.zero)).setCell ⟨g, 16, none⟩ (.int .u64 s.h.zc)).setCell ⟨g, 17, none⟩ (.int .u64 s.h.cnt)).setCell ⟨g, 18, none⟩ (.int .u64 s.h.sum)).setCell ⟨g, 19, none⟩ (.slice r.A s.h.pos.length r.c)).setCell ⟨g, 20, none⟩ (.slice r.B s.h.neg.length r.d)).setCell ⟨g, 21, none⟩ (.slice r.C s.h.pd.length r.cc)).setCell ⟨g, 22, none⟩ (.slice r.D s.h.nd.length r.dd) ∧ W.heap[g]? = some (.cells (cells23 q (l.length + 1) (width q - 3) x s r) 195 (0, 0)) ∧ Ch (fun k => k = g) w7 W := ⟨_, rfl, setTen_blk hg7, setTen_ch w7 g (.int .i64 s.t) (.int .i64 s.h.schema) (.int .u64 s.h.zero) (.int .u64 s.h.zc) (.int .u64 s.h.cnt) (.int .u64 s.h.sum) (.slice r.A s.h.pos.length r.c) (.slice r.B s.h.neg.length r.d) (.slice r.C s.h.pd.length r.cc) (.slice r.D s.h.nd.length r.dd)⟩
  have HW8 := Lib.hid hW8
  have HG8 := Lib.hid hg8
  have hcg8 : Ch (fun b => (x.Sw b ∨ b = x.gt ∨ b ∈ x.cols) ∨ b = g) WA W8 := (HCG.out.then_below hb7).trans hc8 fun _ _ h => .inr h
  obtain ⟨hq1, hq2⟩ := HQP.out _ BA.out _ hcg8
  have HCL : Hid (∀ (A' : Option Addr) (c' : Nat) (m : List Sp), Spl W8 A' c' m → ∀ W, Below W8.heap.size W8 W → Calls Tryz.prog 137 #[.slice A' m.length c'] W fun e w' => ∃ A2 c2, e = .returned (.slice A2 m.length c2) ∧ OwSp 119 w' W8.heap.size (.slice A2 m.length c2) m ∧ Below W.heap.size W w') := Lib.hid (by
    intro A' c' m hl W hb
    refine (SpanC.clone_calls A' c' m W (hl.below hb).rd (by have := hl.len; omega) hl.cap hl.nil).mono ?_
    rintro e w' ⟨v, rfl, ho, hb'⟩
    obtain ⟨A2, c2, rfl, -, -, -⟩ := ho.reads
    exact ⟨A2, c2, rfl, ho.lower hb.size, hb'⟩)
  have HC1 := Lib.hid (HCL.out _ _ _ hq1)
  have HC2 := Lib.hid (HCL.out _ _ _ hq2)
  have HGS : Hid (∀ W : World, W.heap[g]? = some (.cells (cells23 q (l.length + 1) (width q - 3) x s r) 195 (0, 0)) → (W.cell? ⟨g, 4, none⟩ = some (.slice x.p.A q.pos.length x.p.c) ∧ W.cell? ⟨g, 5, none⟩ = some (.slice x.p.B q.neg.length x.p.d))) := Lib.hid (fun W hg => ⟨obj_cell hg rfl, obj_cell hg rfl⟩)
  have HGS1 : Hid (∀ (W : World) (v1 : Value), W.heap[g]? = some (.cells (cells23 q (l.length + 1) (width q - 3) x s r) 195 (0, 0)) → ((W.setCell ⟨g, 19, none⟩ v1).cell? ⟨g, 4, none⟩ = some (.slice x.p.A q.pos.length x.p.c) ∧ (W.setCell ⟨g, 19, none⟩ v1).cell? ⟨g, 5, none⟩ = some (.slice x.p.B q.neg.length x.p.d))) := Lib.hid (fun W v1 hg => by
    have h2 := blk_set hg 19 v1
    exact ⟨obj_cell h2 (by simp [cells23]), obj_cell h2 (by simp [cells23])⟩)
  have HGS2 : Hid (∀ (W : World) (v1 v2 : Value), W.heap[g]? = some (.cells (cells23 q (l.length + 1) (width q - 3) x s r) 195 (0, 0)) → (((W.setCell ⟨g, 19, none⟩ v1).setCell ⟨g, 20, none⟩ v2).cell? ⟨g, 4, none⟩ = some (.slice x.p.A q.pos.length x.p.c) ∧ ((W.setCell ⟨g, 19, none⟩ v1).setCell ⟨g, 20, none⟩ v2).cell? ⟨g, 5, none⟩ = some (.slice x.p.B q.neg.length x.p.d))) := Lib.hid (fun W v1 v2 hg => by
    have h2 := blk_set (blk_set hg 19 v1) 20 v2
    exact ⟨obj_cell h2 (by simp [cells23]), obj_cell h2 (by simp [cells23])⟩)
  have HUPD : Hid (∀ (A' B' : Option Addr) (c' d' : Nat) (w9 w10 : World), OwSp 119 w9 W8.heap.size (.slice A' q.pos.length c') q.pos → OwSp 119 w10 W8.heap.size (.slice B' q.neg.length d') q.neg → Below W8.heap.size W8 w9 → Below w9.heap.size w9 w10 → Upd (fun W S => Ci W g S q (l ++ [s])) S w ((w10.setCell ⟨g, 19, none⟩ (.slice A' q.pos.length c')).setCell ⟨g, 20, none⟩ (.slice B' q.neg.length d'))) := Lib.hid (by
    intro A' B' c' d' w9 w10 o1 o2 b1 b2
    have hw6 : W6 = w2.setCell ⟨g, 7, none⟩ (.int .i64 (l.length + 1 : Nat)) := by rw [HW6.out]; rfl
    have hb78 := below_then b1 b1.size b2
    subst hw6
    subst hW8
    exact Upd.then (fun k hk => .inl hk) (Ch.of_below (HEND.out _ BA.out)) (Ap.done (HF.out _ BA.out) H0.out HH64.out A2.out hb7 hr7 hor7 hb78 (spl_own' (o1.below b2) hq1.len) (spl_own' o2 hq2.len) (own_on (o1.below b2)) (own_on o2)))
  have hs8 := HGS.out W8.drew hg8
  have bd8 : Below W8.heap.size W8 W8.drew := below_drew (Below.refl _ _)
  clear hr7 hor7 hb7 hg7 hg8 hc8 hcg8 hq1 hq2 HCL HCP hW8
  go_wp2_with (fail)
  rw [← HW8.out]
  clear e13 f13 e14 f14 e15 f15 e16 f16 e17 f17 e18 f18 e19 f19 e20 f20 e21 f21 e22 f22
  go_region_held3 (fun W => W.cell? ⟨g, 4, none⟩ = some (.slice x.p.A q.pos.length x.p.c) ∧ W.cell? ⟨g, 5, none⟩ = some (.slice x.p.B q.neg.length x.p.d))
    (first | (with_reducible exact hs8) | (with_reducible exact hs9) | (with_reducible exact hs10) | (with_reducible exact HGS1.out w10 _ hg10) | (with_reducible exact HGS2.out w10 _ _ hg10))
    (first
    | (go_at_call 137; (with_reducible show Calls _ _ #[Value.slice x.p.A _ _] _ _); refine (HC1.out _ bd8).mono ?_; rintro e w9 ⟨A', c', rfl, o9, hb9⟩; have b9 : Below W8.heap.size W8 w9 := below_then bd8 bd8.size hb9; have hg9 := (b9.block _ (blk_lt HG8.out)).trans HG8.out; have hs9 := HGS.out _ hg9)
    | (go_at_call 137; refine (HC2.out _ b9).mono ?_; rintro e w10 ⟨B', d', rfl, o10, hb10⟩; have hg10 := (hb10.block _ (blk_lt hg9)).trans hg9; have hs10 := HGS.out _ hg10; have e19 := obj_cell (i := 19) hg10 rfl; have f19 := obj_free (i := 19) hg10; have e20 := obj_cell (i := 20) hg10 rfl; have f20 := obj_free (i := 20) hg10))
  all_goals
    have HU := Lib.hid (HUPD.out A' B' c' d' w9 w10 o9 o10 b9 hb10)
    clear hs8 hs9 hs10 hg9 hg10 e19 f19 e20 f20 o9 o10 b9 hb9 hb10 bd8
    go_wp2
    go_ret
    exact (HPOST.out _ _).mpr (.inr ⟨H0.out, rfl, HU.out⟩)
end Go.Proofs.YtjfekjbmgckkcaaGreatDoor.CkFa
namespace Go.Proofs.YtjfekjbmgckkcaaGreatDoor.CkG
open Go.RowKit Go.Proofs.YtjfekjbmgckkcaaGreatDoorW.PrintWords
open Go.Proofs.YtjfekjbmgckkcaaGreatDoor.Bits Go.Proofs.YtjfekjbmgckkcaaGreatDoor.Base Go.Proofs.YtjfekjbmgckkcaaGreatDoor.VarPure Go.Proofs.YtjfekjbmgckkcaaGreatDoor.VarbitA Go.Proofs.YtjfekjbmgckkcaaGreatDoor.VarKit Go.Proofs.YtjfekjbmgckkcaaGreatDoor.StreamA Go.Proofs.YtjfekjbmgckkcaaGreatDoor.SpanPure Go.Proofs.YtjfekjbmgckkcaaGreatDoor.SpanBase Go.Proofs.YtjfekjbmgckkcaaGreatDoor.FailAs Go.Proofs.YtjfekjbmgckkcaaGreatDoor.FailB Go.Proofs.YtjfekjbmgckkcaaGreatDoor.FailC Go.Proofs.YtjfekjbmgckkcaaGreatDoor.HeadA Go.Proofs.YtjfekjbmgckkcaaGreatDoor.HeadB Go.Proofs.YtjfekjbmgckkcaaGreatDoor.HeadC Go.Proofs.YtjfekjbmgckkcaaGreatDoor.HeadE Go.Proofs.YtjfekjbmgckkcaaGreatDoor.HeadPure Go.Proofs.YtjfekjbmgckkcaaGreatDoor.Ref01 Go.Proofs.YtjfekjbmgckkcaaGreatDoor.Ref12 Go.Proofs.YtjfekjbmgckkcaaGreatDoor.TimesPure Go.Proofs.YtjfekjbmgckkcaaGreatDoor.TimesA Go.Proofs.YtjfekjbmgckkcaaGreatDoor.XorPure Go.Proofs.YtjfekjbmgckkcaaGreatDoor.XorA Go.Proofs.YtjfekjbmgckkcaaGreatDoor.XorB Go.Proofs.YtjfekjbmgckkcaaGreatDoor.CkPure Go.Proofs.YtjfekjbmgckkcaaGreatDoor.CkObj Go.Proofs.YtjfekjbmgckkcaaGreatDoor.CkA Go.Proofs.YtjfekjbmgckkcaaGreatDoor.CkB Go.Proofs.YtjfekjbmgckkcaaGreatDoor.CkC Go.Proofs.YtjfekjbmgckkcaaGreatDoor.CkD Go.Proofs.YtjfekjbmgckkcaaGreatDoor.CkE Go.Proofs.YtjfekjbmgckkcaaGreatDoor.CkF Go.Proofs.YtjfekjbmgckkcaaGreatDoor.CkFa
open Go.Proofs.YtjfekjbmgckkcaaGreatDoor.HeadD (rd_lt)
def TrF (w : World) (g : Nat) (x : Nat × Nat × Nat) : Prop := TrS w g x.1 x.2.1 x.2.2
theorem TrF.ch {S : Nat → Prop} {w w' : World} {g : Nat} {x : Nat × Nat × Nat} (h : TrF w g x) (hc : Ch S w w') (hs : ¬ S g) : TrF w' g x := TrS.ch h hc hs
theorem TrF.below {w w' : World} {g : Nat} {x : Nat × Nat × Nat} (h : TrF w g x) (hb : Below w.heap.size w w') : TrF w' g x := TrS.below h hb
theorem TrF.lt {w : World} {g : Nat} {x : Nat × Nat × Nat} (h : TrF w g x) : g < w.heap.size := TrS.lt h
def rPtr : Rep.Rep Nat where
  k := 1
  enc g := [.pointer (some ⟨g, 0, none⟩)]
  ok _ _ := True
  len _ := rfl
  one n u h := by rw [List.mem_singleton.1 h]; rfl
  below _ h := h
theorem infoPtr : (Tryz.prog.info? 154).map (fun i => (i.zero, i.size, i.bytes)) = some (some (.pointer none), 1, 8) := by kernel_rfl
theorem append_ptr_step {P : Program} {ops : Array Oper} {o : Oper} {a : Act} {Q : Exit → Act → World → Prop} {K : Act → World → Prop} {W : World} (base : Nat) (hgd : o.guard = none) (s x : Operand) (t e : TypeId) (bytes : Nat)
    (ho : o.op = .call { callee := .builtin .append, args := #[s, x], argTypes := #[t, t] })
    (ht : P.underlying t = some (.slice e)) (hinfo : (P.info? e).map (fun i => (i.zero, i.size, i.bytes)) = some (some (.pointer none), 1, bytes)) (hb0 : 0 < bytes)
    (v : Value) (cols : List Nat) (y : Nat) (hs : a.eval s = v) (hx : a.eval x = .slice (some ⟨W.heap.size, 0, none⟩) 1 1)
    (HO : Rep.OwX rPtr e W base v cols) (hbase : base ≤ W.heap.size) (hl : (cols.length + 1) * bytes ≤ 140737488355328)
    (h : ∀ v1 w1, Rep.OwX rPtr e w1 base v1 (cols ++ [y]) → W.grownBy w1 v.ownBlock → K (a.put o.dst v1) w1) :
    if Region.wanted o (yielded ops a.tmps) = true then Oper.wp P o a (W.alloc (.cells #[.pointer (some ⟨y, 0, none⟩)] e)) K Q else K (a.put o.dst undef) (W.alloc (.cells #[.pointer (some ⟨y, 0, none⟩)] e)) :=
  step_append_cells (w0 := W) base (by simp [Region.wanted, hgd]) s x t e (.pointer none) 1 bytes ho ht hinfo rfl (by decide) hb0 v cols.length (Rep.all rPtr cols) [.pointer (some ⟨y, 0, none⟩)] hs hx rfl (by simp [Value.oneCell']) HO (Below.refl _ _) hbase hl
    fun v1 w1 hown _ hg _ => h v1 w1 (by
      unfold Rep.OwX
      rw [List.length_append, List.length_singleton, Rep.all_append]
      exact hown) hg
structure Bk (g : Nat) (A : Value → Array Value) (f : Nat → Nat × Nat × Nat) (v : Value) (cols : List Nat) (Wb W : World) : Prop where
  obj : W.heap[g]? = some (.cells (A v) 192 (0, 0))
  row : Rep.OwX rPtr 154 W Wb.heap.size v cols
  xs : ∀ (j : Nat) (h : j < cols.length), TrF W cols[j] (f j)
  cb : ∀ c ∈ cols, Wb.heap.size ≤ c
  nd : cols.Nodup
  ch : Ch (fun b => b = g) Wb W
section
variable {g : Nat} {A : Value → Array Value} {f : Nat → Nat × Nat × Nat} {v v1 : Value} {cols : List Nat} {Wb W W1 W3 : World} {c : Nat}
theorem Bk.below (h : Bk g A f v cols Wb W) (hb : Below W.heap.size W W1) : Bk g A f v cols Wb W1 :=
  ⟨(hb.block g (blk_lt h.obj)).trans h.obj, h.row.below hb, fun j hj => (h.xs j hj).below hb, h.cb, h.nd, h.ch.then_below hb⟩
theorem Bk.start (h : Wb.heap[g]? = some (.cells (A (.slice none 0 0)) 192 (0, 0))) : Bk g A f (.slice none 0 0) [] Wb Wb :=
  ⟨h, Rep.OwX.nil _ _ _ _, fun j hj => absurd hj (by simp), fun c hc => absurd hc (by simp), List.nodup_nil, Ch.refl _ _⟩
theorem row_not (h : Rep.OwX rPtr 154 W Wb.heap.size v cols) {c : Nat} {x : Nat × Nat × Nat} (hx : TrF W c x) : v.ownBlock ≠ some c := by
  intro he
  rcases h.2 with ⟨rfl, -⟩ | ⟨g', cap, cur, rfl, -, hg, -⟩
  · cases he
  · have : g' = c := by simpa [Value.ownBlock] using he
    subst this
    have := hg.symm.trans hx.1
    injection this with this
    injection this with _ this
    exact absurd this (by decide)
theorem Bk.push (h : Bk g A f v cols Wb W) (hg : g < Wb.heap.size) (hA : (A v).setIfInBounds 4 v1 = A v1) (hx : TrF W1 c (f cols.length)) (hc : W.heap.size ≤ c) (hb : Below W.heap.size W W1)
    (ho : Rep.OwX rPtr 154 W3 Wb.heap.size v1 (cols ++ [c])) (hgr : W1.grownBy W3 v.ownBlock) : Bk g A f v1 (cols ++ [c]) Wb (W3.setCell ⟨g, 4, none⟩ v1) := by
  have h1 := h.below hb
  have hbase : ∀ b, v.ownBlock = some b → Wb.heap.size ≤ b ∧ b < W.heap.size := fun b hb => ⟨Rep.OwX.base_ h.row b hb, Rep.OwX.lt_ h.row b hb⟩
  have h13 : Ch (fun b => v.ownBlock = some b) W1 W3 := (Ch.refl _ W1).grown hgr fun k hk => .inl hk
  have h34 : Ch (fun b => b = g) W3 (W3.setCell ⟨g, 4, none⟩ v1) := (Ch.refl (fun b => b = g) W3).setCell (p := ⟨g, 4, none⟩) (.inl rfl) _
  have hgv : ¬ v.ownBlock = some g := fun he => by have := (hbase g he).1; omega
  have hlt : ∀ b ∈ cols, b < W.heap.size := fun b hb' => by
    obtain ⟨j, hj, rfl⟩ := List.getElem_of_mem hb'
    exact (h.xs j hj).lt
  refine ⟨?_, ?_, fun j hj => ?_, fun d hd => ?_, ?_, ?_⟩
  · rw [← hA]
    exact blk_set (h13.blk h1.obj hgv) 4 _
  · exact Rep.OwX.move ho fun b hb' => h34.block b (Rep.OwX.lt_ ho b hb') fun he => by have := Rep.OwX.base_ ho b hb'; omega
  · rw [List.length_append, List.length_singleton] at hj
    rcases Nat.lt_or_ge j cols.length with hlj | hlj
    · rw [List.getElem_append_left hlj]
      refine ((h1.xs j hlj).ch h13 (row_not h1.row (h1.xs j hlj))).ch h34 fun he => ?_
      have := h.cb _ (List.getElem_mem hlj)
      omega
    · obtain rfl : j = cols.length := by omega
      rw [List.getElem_append_right (Nat.le_refl _)]
      simp only [Nat.sub_self, List.getElem_cons_zero]
      have := h.ch.size
      refine (hx.ch h13 fun he => ?_).ch h34 fun he => by omega
      have := (hbase c he).2
      omega
  · rcases List.mem_append.1 hd with h4 | h4
    · exact h.cb d h4
    · rw [List.mem_singleton.1 h4]
      exact Nat.le_trans h.ch.size hc
  · refine List.nodup_append.2 ⟨h.nd, List.nodup_cons.2 ⟨by simp, List.nodup_nil⟩, fun a ha b hb' => ?_⟩
    rw [List.mem_singleton.1 hb']
    have := hlt a ha
    omega
  · exact (h1.ch.trans h13 fun i hi he => absurd (hbase i he).1 (by omega)).trans h34 fun _ _ he => he
end
structure Cols (W : World) (B : Nat) (l : List IS) (M gt : Nat) (va : Option Addr) (vc : Nat) (cols : List Nat) : Prop where
  tr : TrS W gt (lastOf (ts l)) (stepOf (ts l)) l.length
  cl : cols.length = 3 + M
  vc : M ≤ vc
  vals : ∀ (k : Nat) (h : 3 + k < cols.length), ∃ ad, va = some ad ∧ W.cell? (ad.add k) = some (.pointer (some ⟨cols[3 + k], 0, none⟩))
  xs : ∀ (k : Nat) (h : k < cols.length), ColK k W cols[k] (col l k)
  nd : cols.Nodup
  tc : gt ∉ cols
  gb : B ≤ gt
  cb : ∀ c ∈ cols, B ≤ c
  onv : On (fun k => B ≤ k ∧ k < W.heap.size ∧ k ≠ gt ∧ k ∉ cols) va M
theorem Cols.below {W W2 : World} {B : Nat} {l : List IS} {M gt : Nat} {va : Option Addr} {vc : Nat} {cols : List Nat} (h : Cols W B l M gt va vc cols) (hb : Below W.heap.size W W2) : Cols W2 B l M gt va vc cols :=
  { h with
    tr := h.tr.below hb
    vals := fun k hk => by
      obtain ⟨ad, h1, h2⟩ := h.vals k hk
      exact ⟨ad, h1, pw_cell_below hb h2⟩
    xs := fun k hk => (h.xs k hk).below hb
    onv := h.onv.mono fun k hk => ⟨hk.1, Nat.lt_of_lt_of_le hk.2.1 hb.size, hk.2.2⟩ }
theorem Cols.ch {W W2 : World} {B : Nat} {l : List IS} {M gt : Nat} {va : Option Addr} {vc : Nat} {cols : List Nat} {S' : Nat → Prop} (h : Cols W B l M gt va vc cols) (hc : Ch S' W W2) (hs : ∀ k, B ≤ k → ¬ S' k) : Cols W2 B l M gt va vc cols :=
  { h with
    tr := h.tr.ch hc (hs _ h.gb)
    vals := fun k hk => by
      obtain ⟨ad, h1, h2⟩ := h.vals k hk
      exact ⟨ad, h1, hc.cell h2 (by
        rw [show (ad.add k).block = ad.block from by unfold Addr.add; split <;> rfl]
        exact hs _ (h.onv ad h1 (by have := h.cl; omega)).1)⟩
    xs := fun k hk => (h.xs k hk).ch hc (hs _ (h.cb _ (List.getElem_mem _)))
    onv := h.onv.mono fun k hk => ⟨hk.1, Nat.lt_of_lt_of_le hk.2.1 hc.size, hk.2.2⟩ }
theorem Cols.lower {W : World} {B B' : Nat} {l : List IS} {M gt : Nat} {va : Option Addr} {vc : Nat} {cols : List Nat} (h : Cols W B l M gt va vc cols) (hB : B' ≤ B) : Cols W B' l M gt va vc cols :=
  { h with
    gb := Nat.le_trans hB h.gb
    cb := fun c hc => Nat.le_trans hB (h.cb c hc)
    onv := h.onv.mono fun _ hk => ⟨Nat.le_trans hB hk.1, hk.2⟩ }
theorem Cols.make {W Wb : World} {B gx : Nat} {A : Value → Array Value} {l : List IS} {M gt c0 c1 c2 : Nat} {v : Value} {bl : List Nat}
    (h : Bk gx A (fun k => (lastOf (col l (3 + k)), stepOf (col l (3 + k)), (col l (3 + k)).length)) v bl Wb W) (hl : bl.length = M)
    (ht : TrS Wb gt (lastOf (ts l)) (stepOf (ts l)) l.length) (h0 : TrU Wb c0 (lastOf (col l 0)) (stepOf (col l 0)) (col l 0).length) (h1 : TrU Wb c1 (lastOf (col l 1)) (stepOf (col l 1)) (col l 1).length) (h2 : XrS Wb c2 (colX (col l 2)))
    (b1 : B ≤ gt) (b2 : gt < c0) (b3 : c0 < c1) (b4 : c1 < c2) (b5 : c2 < Wb.heap.size) (g1 : gx ≠ gt ∧ gx ≠ c0 ∧ gx ≠ c1 ∧ gx ≠ c2) :
    ∃ va vc, v = .slice va M vc ∧ Cols W B l M gt va vc (c0 :: c1 :: c2 :: bl) := by
  obtain ⟨y, e1, e2, e3⟩ := h.row.reads
  have hbl : ∀ c ∈ bl, Wb.heap.size ≤ c := h.cb
  have hvb : ∀ b, v.ownBlock = some b → Wb.heap.size ≤ b ∧ b < W.heap.size := fun b hb => ⟨Rep.OwX.base_ h.row b hb, Rep.OwX.lt_ h.row b hb⟩
  refine ⟨y.at_, y.cap, by rw [e1, e2, hl], ?_⟩
  exact {
    tr := ht.ch h.ch fun he => g1.1 he.symm
    cl := by simp [hl]; omega
    vc := by rw [← hl, ← e2]; exact e3.le
    vals := fun k hk => by
      simp only [List.length_cons] at hk
      obtain ⟨ad, e7, e8⟩ := Rep.RdC.elem (r := rPtr) e3.rd k (by rw [e2]; omega) (by decide)
      refine ⟨ad, e7, ?_⟩
      have := e8 0 _ rfl
      simp only [e2] at this
      have hk1 : k * rPtr.k + 0 = k := by show k * 1 + 0 = k; omega
      rw [hk1] at this
      have hg : (c0 :: c1 :: c2 :: bl)[3 + k] = bl[k]'(by omega) := by
        simp only [show 3 + k = k + 1 + 1 + 1 from by omega, List.getElem_cons_succ]
      rw [hg]
      exact this
    xs := fun k hk => by
      simp only [List.length_cons] at hk
      unfold ColK
      match k with
      | 0 => exact h0.ch h.ch fun he => g1.2.1 he.symm
      | 1 => exact h1.ch h.ch fun he => g1.2.2.1 he.symm
      | 2 => exact h2.ch h.ch fun he => g1.2.2.2 he.symm
      | k + 3 =>
        rw [if_neg (by omega), if_neg (by omega)]
        have := h.xs k (by omega)
        simp only [List.getElem_cons_succ]
        rw [show k + 3 = 3 + k from by omega]
        exact this
    nd := by
      simp only [List.nodup_cons, List.mem_cons, not_or]
      refine ⟨⟨by omega, by omega, fun hm => by have := hbl c0 hm; omega⟩, ⟨by omega, fun hm => by have := hbl c1 hm; omega⟩, fun hm => by have := hbl c2 hm; omega, h.nd⟩
    tc := by
      simp only [List.mem_cons, not_or]
      exact ⟨by omega, by omega, by omega, fun hm => by have := hbl gt hm; omega⟩
    gb := b1
    cb := fun c hc => by
      simp only [List.mem_cons] at hc
      rcases hc with rfl | rfl | rfl | hc
      · omega
      · omega
      · omega
      · have := hbl c hc; omega
    onv := fun ad hA hp => by
      have hob : v.ownBlock = some ad.block := by
        rcases h.row.2 with ⟨-, h0⟩ | ⟨g', cap, cur, e, -⟩
        · rw [hl] at h0; omega
        · rw [e] at e1 ⊢
          injection e1 with e4 e5 e6
          rw [← e4] at hA
          injection hA with hA
          rw [← hA]
          rfl
      have hb := hvb _ hob
      refine ⟨by omega, hb.2, by omega, fun hm => ?_⟩
      simp only [List.mem_cons] at hm
      rcases hm with hm | hm | hm | hm
      · omega
      · omega
      · omega
      · obtain ⟨k, hk, he⟩ := List.getElem_of_mem hm
        have := row_not h.row (h.xs k hk)
        rw [he] at this
        exact this hob }
set_option maxRecDepth 100000 in
set_option maxHeartbeats 6400000 in
theorem fresh_calls (n : Nat) (w : World) (hn : n ≤ 9000) :
    Calls Tryz.prog 127 #[.int .i64 n] w fun e w' => ∃ gt va vc cols c0 c1 c2, e = .returned (.agg #[.pointer (some ⟨gt, 0, none⟩), .pointer (some ⟨c0, 0, none⟩), .pointer (some ⟨c1, 0, none⟩), .pointer (some ⟨c2, 0, none⟩), .slice va n vc]) ∧ (c0 = cols.getD 0 0 ∧ c1 = cols.getD 1 0 ∧ c2 = cols.getD 2 0) ∧ Cols w' w.heap.size [] n gt va vc cols ∧ Below w.heap.size w w' := by
  obtain ⟨W0, hW0, hz0, hal, hsz⟩ : ∃ W0 : World, W0 = w.alloc (.cells #[.pointer none, .pointer none, .pointer none, .pointer none, .slice none 0 0] 192) ∧ W0.heap[w.heap.size]? = some (.cells #[.pointer none, .pointer none, .pointer none, .pointer none, .slice none 0 0] 192 (0, 0)) ∧ Below w.heap.size w W0 ∧ W0.heap.size = w.heap.size + 1 := ⟨_, rfl, blk_last w _, below_alloc (Below.refl _ _) _, by simp⟩
  have HN0 := Lib.hid (fun W => newS_calls W)
  have HN1 := Lib.hid (fun W => newU_calls W)
  have HN2 := Lib.hid (fun W => XorB.new_calls W)
  have HW0 := Lib.hid hW0
  have HZ0 := Lib.hid hz0
  have HAL := Lib.hid hal
  have HSZ := Lib.hid hsz
  clear hW0 hz0 hal hsz
  go_enter Tryz.func127, Tryz.ntmps127
  go_wp2_with (fail)
  rw [← HW0.out]
  refine (HN0.out _).mono ?_
  rintro e w1 ⟨rfl, ht, hb⟩
  have T1 := Lib.hid ht
  have B1 := Lib.hid hb
  clear ht hb
  go_wp2_with (fail)
  refine (HN1.out _).mono ?_
  rintro e w2 ⟨rfl, ht, hb⟩
  have T2 := Lib.hid ht
  have B2 := Lib.hid hb
  clear ht hb
  go_wp2_with (fail)
  refine (HN1.out _).mono ?_
  rintro e w3 ⟨rfl, ht, hb⟩
  have T3 := Lib.hid ht
  have B3 := Lib.hid hb
  clear ht hb
  go_wp2_with (fail)
  refine (HN2.out _).mono ?_
  rintro e w4 ⟨rfl, ht, hb⟩
  have T4 := Lib.hid ht
  have B4 := Lib.hid hb
  clear ht hb
  obtain ⟨gt, hgt⟩ : ∃ g, g = W0.heap.size := ⟨_, rfl⟩
  obtain ⟨c0, hc0⟩ : ∃ g, g = w1.heap.size := ⟨_, rfl⟩
  obtain ⟨c1, hc1⟩ : ∃ g, g = w2.heap.size := ⟨_, rfl⟩
  obtain ⟨c2, hc2⟩ : ∃ g, g = w3.heap.size := ⟨_, rfl⟩
  obtain ⟨W5, hW5, hb5, hk5⟩ : ∃ W : World, W = w4.alloc (.cells #[.pointer (some ⟨gt, 0, none⟩), .pointer (some ⟨c0, 0, none⟩), .pointer (some ⟨c1, 0, none⟩), .pointer (some ⟨c2, 0, none⟩), .slice none 0 0] 192) ∧ Below w4.heap.size w4 W ∧ W.heap[w4.heap.size]? = some (.cells #[.pointer (some ⟨gt, 0, none⟩), .pointer (some ⟨c0, 0, none⟩), .pointer (some ⟨c1, 0, none⟩), .pointer (some ⟨c2, 0, none⟩), .slice none 0 0] 192 (0, 0)) := ⟨_, rfl, below_alloc (Below.refl _ _) _, blk_last w4 _⟩
  obtain ⟨gx, hgx⟩ : ∃ g, g = w4.heap.size := ⟨_, rfl⟩
  rw [← hgx] at hk5
  rw [← hgt] at T1 ⊢
  rw [← hc0] at T2 ⊢
  rw [← hc1] at T3 ⊢
  rw [← hc2] at T4 ⊢
  have HW5 := Lib.hid hW5
  have HB5 := Lib.hid hb5
  have HK5 := Lib.hid hk5
  have HGT := Lib.hid hgt
  have HC0 := Lib.hid hc0
  have HC1 := Lib.hid hc1
  have HC2 := Lib.hid hc2
  have HGX := Lib.hid hgx
  have hgl5 := blk_lt HK5.out
  clear hgt hc0 hc1 hc2 hW5 hb5 hk5 hgx HN1 HN2
  go_wp2_with (fail)
  rw [← HW5.out, ← HGX.out]
  go_wp2_with (fail)
  go_loopw [10] (fun i wr => ∃ (k : Nat) (v : Value) (bl : List Nat), k ≤ n ∧ i = .int .i64 k ∧ Bk gx (fun v => #[.pointer (some ⟨gt, 0, none⟩), .pointer (some ⟨c0, 0, none⟩), .pointer (some ⟨c1, 0, none⟩), .pointer (some ⟨c2, 0, none⟩), v]) (fun _ => (0, 0, 0)) v bl W5 wr ∧ bl.length = k) (fun i _ => n - (intOf i).toNat)
  case atStart => exact ⟨0, .slice none 0 0, [], by omega, rfl, Bk.start HK5.out, rfl⟩
  case round =>
    obtain ⟨k, v, bl, hk, rfl, hG, hcl⟩ := hrel
    have HGK := Lib.hid hG
    have HCL2 := Lib.hid hcl
    by_cases hlt : k < n
    · have hb0 := Below.refl wr.heap.size wr
      have hglr := blk_lt hG.obj
      have hbs : W5.heap.size ≤ wr.heap.size := hG.ch.size
      have c9 := fun W (h : Below wr.heap.size wr W) => (obj_cell ((h.block gx hglr).trans hG.obj) rfl : W.cell? ⟨gx, 4, none⟩ = some v)
      have HAP : Hid (∀ wc w3 : World, Below wr.heap.size wr wc → TrF wc wr.heap.size (0, 0, 0) → ∀ v1, Rep.OwX rPtr 154 w3 W5.heap.size v1 (bl ++ [wr.heap.size]) → wc.grownBy w3 v.ownBlock → w3.cell? ⟨gx, 4, none⟩ = some v ∧ w3.frozen? ⟨gx, 4, none⟩ = false ∧ Bk gx (fun v => #[.pointer (some ⟨gt, 0, none⟩), .pointer (some ⟨c0, 0, none⟩), .pointer (some ⟨c1, 0, none⟩), .pointer (some ⟨c2, 0, none⟩), v]) (fun _ => (0, 0, 0)) v1 (bl ++ [wr.heap.size]) W5 (w3.setCell ⟨gx, 4, none⟩ v1)) := Lib.hid (by
        intro wc w3 h1 h2 v1 h3 h4
        have hobj := (h1.block gx hglr).trans hG.obj
        have hne : v.ownBlock ≠ some gx := fun he => by have := Rep.OwX.base_ hG.row gx he; omega
        have hobj3 := ((Ch.refl (fun b => v.ownBlock = some b) wc).grown h4 fun k hk => .inl hk).blk hobj hne
        exact ⟨obj_cell hobj3 rfl, obj_free hobj3, hG.push hgl5 (by simp) h2 (Nat.le_refl _) h1 h3 h4⟩)
      have HBL := Lib.hid (fun wc (h : Below wr.heap.size wr wc) => Nat.le_trans hbs h.size)
      have HGL := Lib.hid (fun wc (h : Below wr.heap.size wr wc) => Nat.lt_of_lt_of_le hglr h.size)
      have hcl8 : (bl.length + 1) * 8 ≤ 140737488355328 := by omega
      clear hG hcl
      go_wp2_with (fail)
      go_region_law (first
        | (refine append_ptr_step (W := wc) W5.heap.size rfl (.tmp 13) (.tmp 15) 190 154 8 rfl Tryz.underlying190 infoPtr (by decide) v bl wr.heap.size (by simp [Act.eval]) (by simp [Act.eval]) (HGK.out.row.below hbc) (HBL.out _ hbc) hcl8 ?_; intro v1 w3 ho3 hg3; obtain ⟨c93, f93, hG3⟩ := HAP.out wc w3 hbc hxc v1 ho3 hg3; obtain ⟨x1, rfl, -, -⟩ := ho3.reads)
        | (go_simp; go_at_call 98; refine (HN0.out _).mono ?_; rintro e wc ⟨rfl, hxd, hbd⟩; have hbc : Below wr.heap.size wr wc := below_then (below_drew (Below.refl _ _)) (Nat.le_refl _) hbd; have hxc : TrF wc wr.heap.size (0, 0, 0) := hxd; have hgc := HGL.out wc hbc; clear hxd hbd))
      all_goals (
        have HG3 := Lib.hid hG3
        clear c93 f93 hG3 ho3 hg3 hxc hbc hgc c9 hb0
        go_wp2
        go_roundw
        case rel => exact ⟨k + 1, _, _, by omega, by go_num, HG3.out, by rw [List.length_append, HCL2.out]; rfl⟩
        case measure => simp [intOf]; omega)
    · obtain rfl : n = k := by omega
      have z1 := B1.out.size
      have z2 := B2.out.size
      have z3 := B3.out.size
      have z4 := B4.out.size
      have z5 := HB5.out.size
      have e0 := HGT.out
      have e1 := HC0.out
      have e2 := HC1.out
      have e3 := HC2.out
      have e4 := HGX.out
      have e5 := HSZ.out
      have t1 := T1.out.lt
      have t2 := T2.out.lt
      have t3 := T3.out.lt
      have t4 := T4.out.lt
      have b45 := HB5.out
      have b35 := below_then B4.out B4.out.size b45
      have b25 := below_then B3.out B3.out.size b35
      have b15 := below_then B2.out B2.out.size b25
      have b05 := below_then B1.out B1.out.size b15
      obtain ⟨va, vc, hv, hcols⟩ := Cols.make (B := w.heap.size + 1) (l := []) hG hcl (T1.out.below b15) (T2.out.below b25) (T3.out.below b35) (T4.out.below b45) (by omega) (by omega) (by omega) (by omega) (by omega) ⟨by omega, by omega, by omega, by omega⟩
      subst hv
      have HCOL := Lib.hid hcols
      have hB := below_then HAL.out HAL.out.size b05
      have HBB : Hid (Below w.heap.size w wr) := Lib.hid (hB.trans (hG.ch.below_of hB.size fun k hk => by omega))
      have hres : wr.heap[w.heap.size]? = some (.cells #[.pointer none, .pointer none, .pointer none, .pointer none, .slice none 0 0] 192 (0, 0)) := hG.ch.blk ((b05.block _ (blk_lt HZ0.out)).trans HZ0.out) (by omega)
      have hobx := hG.obj
      have k0 := obj_cell (i := 0) hobx rfl
      have y0 := obj_cell (i := 0) hres rfl
      have f0 := obj_free (i := 0) hres
      have k1 := obj_cell (i := 1) hobx rfl
      have y1 := obj_cell (i := 1) hres rfl
      have f1 := obj_free (i := 1) hres
      have k2 := obj_cell (i := 2) hobx rfl
      have y2 := obj_cell (i := 2) hres rfl
      have f2 := obj_free (i := 2) hres
      have k3 := obj_cell (i := 3) hobx rfl
      have y3 := obj_cell (i := 3) hres rfl
      have f3 := obj_free (i := 3) hres
      have k4 := obj_cell (i := 4) hobx rfl
      have y4 := obj_cell (i := 4) hres rfl
      have f4 := obj_free (i := 4) hres
      have HTW : Hid (∀ v0 v1 v2 v3 v4, Ch (fun k => k = w.heap.size) wr (((((wr.setCell ⟨w.heap.size, 0, none⟩ v0).setCell ⟨w.heap.size, 1, none⟩ v1).setCell ⟨w.heap.size, 2, none⟩ v2).setCell ⟨w.heap.size, 3, none⟩ v3).setCell ⟨w.heap.size, 4, none⟩ v4)) := Lib.hid (fun v0 v1 v2 v3 v4 => (((((Ch.refl (fun k => k = w.heap.size) wr).setCell (p := ⟨w.heap.size, 0, none⟩) (.inl rfl) v0).setCell (p := ⟨w.heap.size, 1, none⟩) (.inl rfl) v1).setCell (p := ⟨w.heap.size, 2, none⟩) (.inl rfl) v2).setCell (p := ⟨w.heap.size, 3, none⟩) (.inl rfl) v3).setCell (p := ⟨w.heap.size, 4, none⟩) (.inl rfl) v4)
      have HFN : Hid (∀ W, Ch (fun k => k = w.heap.size) wr W → Cols W w.heap.size [] n gt va vc (c0 :: c1 :: c2 :: bl) ∧ Below w.heap.size w W) := Lib.hid (fun W hc =>
        ⟨(HCOL.out.ch hc fun k hk he => by omega).lower (by omega), HBB.out.trans (hc.below_of HBB.out.size fun k hk => by omega)⟩)
      clear hG hcl hcols hB b05 b15 b25 b35 b45 hres hobx z1 z2 z3 z4 z5 e0 e1 e2 e3 e4 e5 t1 t2 t3 t4
      go_wp2
      refine bodyPost_ret (v := .agg #[.pointer (some ⟨gt, 0, none⟩), .pointer (some ⟨c0, 0, none⟩), .pointer (some ⟨c1, 0, none⟩), .pointer (some ⟨c2, 0, none⟩), .slice va n vc]) (by rw [results_cell1 rfl]; go_simp) rfl ?_
      obtain ⟨r1, r2⟩ := HFN.out _ (HTW.out _ _ _ _ _)
      exact ⟨gt, va, vc, c0 :: c1 :: c2 :: bl, c0, c1, c2, rfl, ⟨rfl, rfl, rfl⟩, r1, r2⟩
theorem Ci.make {W : World} {B g gw : Nat} {q : Hd} {l : List IS} {p : Lc} {Sw : Nat → Prop} {M gt : Nat} {va : Option Addr} {vc : Nat} {cols : List Nat} {r : Lh} (hM : M = width q - 3)
    (hobj : W.heap[g]? = some (.cells (kic q l ⟨p, gw, gt, Sw, va, vc, cols, r, fun _ => True⟩).toArray 195 (0, 0)))
    (hd : HdIn W q p) (hw : Wr W gw Sw (encH q ++ bitsB l)) (hc : Cols W B l M gt va vc cols) (hla : IhIn W (lastS q l).h r) (n64 : ∀ s ∈ l, In64S s) (good : CkPure.Good q l) (okq : (headErr q).1 = 0)
    (hgb : B ≤ g) (hwb : ∀ k, Sw k → B ≤ k) (hp : On (fun k => B ≤ k ∧ k < W.heap.size ∧ ¬ Sw k ∧ k ≠ g ∧ k ≠ gt ∧ k ∉ cols) p.A q.pos.length) (hn : On (fun k => B ≤ k ∧ k < W.heap.size ∧ ¬ Sw k ∧ k ≠ g ∧ k ≠ gt ∧ k ∉ cols) p.B q.neg.length)
    (hr : OnH (fun k => B ≤ k ∧ k < W.heap.size ∧ ¬ Sw k ∧ k ≠ g ∧ k ≠ gt ∧ k ∉ cols) (lastS q l).h r) (hva : On (fun k => ¬ Sw k ∧ k ≠ g) va M) (h1 : ¬ Sw g) (h2 : g ≠ gt) (h3 : g ∉ cols) (h4 : ¬ Sw gt) (h5 : ∀ k ∈ cols, ¬ Sw k) :
    ∃ S, Ci W g S q l ∧ ∀ k, S k → B ≤ k := by
  obtain ⟨T, hT⟩ : ∃ T : Nat → Prop, T = fun k => B ≤ k ∧ k < W.heap.size ∧ ¬ Sw k ∧ k ≠ g ∧ k ≠ gt ∧ k ∉ cols := ⟨_, rfl⟩
  rw [← hT] at hp hn hr
  have hTn : ∀ k, T k → B ≤ k ∧ k < W.heap.size ∧ ¬ Sw k ∧ k ≠ g ∧ k ≠ gt ∧ k ∉ cols := fun k hk => by rwa [hT] at hk
  have hTm : ∀ k, (B ≤ k ∧ k < W.heap.size ∧ ¬ Sw k ∧ k ≠ g ∧ k ≠ gt ∧ k ∉ cols) → T k := fun k hk => by rw [hT]; exact hk
  clear hT
  have hwo := hw.old
  have hgl := blk_lt hobj
  refine ⟨fun k => k = g ∨ Sw k ∨ k = gt ∨ k ∈ cols ∨ T k, ⟨⟨p, gw, gt, Sw, va, vc, cols, r, T⟩, ?_⟩, fun k hk => ?_⟩
  · exact {
      obj := hobj
      hd := hd
      wr := hw
      tr := hc.tr
      cl := by show cols.length = width q; rw [hc.cl, hM]; unfold width; omega
      vc := by rw [← hM]; exact hc.vc
      vals := hc.vals
      xs := hc.xs
      la := hla
      n64 := n64
      good := good
      okq := okq
      onp := hp
      onn := hn
      onv := fun ad hA hp' => by
        rw [← hM] at hp'
        obtain ⟨b1, b2, b3, b4⟩ := hc.onv ad hA hp'
        obtain ⟨b5, b6⟩ := hva ad hA hp'
        exact hTm _ ⟨b1, b2, b5, b6, b3, b4⟩
      onr := hr
      hS := fun k => Iff.rfl
      old := fun k hk => by
        rcases hk with hk | hk | hk | hk | hk
        · omega
        · exact hwo k hk
        · have := hc.tr.lt; omega
        · obtain ⟨j, hj, rfl⟩ := List.getElem_of_mem hk
          exact (hc.xs j hj).lt
        · exact (hTn k hk).2.1
      gw := h1
      gt := h2
      gc := h3
      gT := fun hk => (hTn g hk).2.2.2.1 rfl
      wt := h4
      wc := h5
      wT := fun k hk => (hTn k hk).2.2.1
      tc := hc.tc
      tT := fun hk => (hTn gt hk).2.2.2.2.1 rfl
      cn := hc.nd
      cT := fun k hk hT' => (hTn k hT').2.2.2.2.2 hk }
  · rcases hk with hk | hk | hk | hk | hk
    · omega
    · exact hwb k hk
    · have := hc.gb; omega
    · exact hc.cb k hk
    · exact (hTn k hk).1
end Go.Proofs.YtjfekjbmgckkcaaGreatDoor.CkG
namespace Go.Proofs.YtjfekjbmgckkcaaGreatDoor.CkH
open Go.RowKit Go.Proofs.YtjfekjbmgckkcaaGreatDoorW.PrintWords
open Go.Proofs.YtjfekjbmgckkcaaGreatDoor.Bits Go.Proofs.YtjfekjbmgckkcaaGreatDoor.Base Go.Proofs.YtjfekjbmgckkcaaGreatDoor.VarPure Go.Proofs.YtjfekjbmgckkcaaGreatDoor.VarbitA Go.Proofs.YtjfekjbmgckkcaaGreatDoor.VarKit Go.Proofs.YtjfekjbmgckkcaaGreatDoor.StreamA Go.Proofs.YtjfekjbmgckkcaaGreatDoor.SpanPure Go.Proofs.YtjfekjbmgckkcaaGreatDoor.SpanBase Go.Proofs.YtjfekjbmgckkcaaGreatDoor.FailAs Go.Proofs.YtjfekjbmgckkcaaGreatDoor.FailB Go.Proofs.YtjfekjbmgckkcaaGreatDoor.FailC Go.Proofs.YtjfekjbmgckkcaaGreatDoor.HeadA Go.Proofs.YtjfekjbmgckkcaaGreatDoor.HeadB Go.Proofs.YtjfekjbmgckkcaaGreatDoor.HeadC Go.Proofs.YtjfekjbmgckkcaaGreatDoor.HeadE Go.Proofs.YtjfekjbmgckkcaaGreatDoor.HeadPure Go.Proofs.YtjfekjbmgckkcaaGreatDoor.Ref01 Go.Proofs.YtjfekjbmgckkcaaGreatDoor.Ref12 Go.Proofs.YtjfekjbmgckkcaaGreatDoor.TimesPure Go.Proofs.YtjfekjbmgckkcaaGreatDoor.TimesA Go.Proofs.YtjfekjbmgckkcaaGreatDoor.XorPure Go.Proofs.YtjfekjbmgckkcaaGreatDoor.XorA Go.Proofs.YtjfekjbmgckkcaaGreatDoor.XorB Go.Proofs.YtjfekjbmgckkcaaGreatDoor.CkPure Go.Proofs.YtjfekjbmgckkcaaGreatDoor.CkObj Go.Proofs.YtjfekjbmgckkcaaGreatDoor.CkA Go.Proofs.YtjfekjbmgckkcaaGreatDoor.CkB Go.Proofs.YtjfekjbmgckkcaaGreatDoor.CkC Go.Proofs.YtjfekjbmgckkcaaGreatDoor.CkD Go.Proofs.YtjfekjbmgckkcaaGreatDoor.CkE Go.Proofs.YtjfekjbmgckkcaaGreatDoor.CkF Go.Proofs.YtjfekjbmgckkcaaGreatDoor.CkFa Go.Proofs.YtjfekjbmgckkcaaGreatDoor.CkG
open Go.Proofs.YtjfekjbmgckkcaaGreatDoor.HeadD (rd_lt)
theorem la_nil (W : World) : IhIn W ⟨0, 0, 0, 0, 0, [], [], [], []⟩ ⟨none, 0, none, 0, none, 0, none, 0⟩ :=
  ⟨⟨RdC.nil _ _, Nat.zero_le _, Nat.zero_le _, fun _ => rfl⟩, ⟨RdC.nil _ _, Nat.zero_le _, Nat.zero_le _, fun _ => rfl⟩, ⟨RdI.nil _ _ _, Nat.zero_le _, Nat.zero_le _, fun _ => rfl⟩, ⟨RdI.nil _ _ _, Nat.zero_le _, Nat.zero_le _, fun _ => rfl⟩, ⟨by decide, by decide, by decide, by decide, fun v hv => absurd hv (by simp), fun v hv => absurd hv (by simp)⟩⟩
def NewPost (q : Hd) (w : World) (e : Ending) (w' : World) : Prop :=
  Below w.heap.size w w' ∧ (((headErr q).1 ≠ 0 ∧ ∃ v, e = .returned (.tuple #[.pointer none, v]) ∧ Err w' v (plc (headErr q).1 (headErr q).2 0) .nilIface) ∨
    ((headErr q).1 = 0 ∧ q.vr ≠ 0 ∧ ∃ v, e = .returned (.tuple #[.pointer none, v]) ∧ Err w' v (plc (25 : Nat) pVariant 0) .nilIface) ∨
    ((headErr q).1 = 0 ∧ q.vr = 0 ∧ ∃ g S, e = .returned (.tuple #[.pointer (some ⟨g, 0, none⟩), .nilIface]) ∧ Ci w' g S q [] ∧ ∀ k, S k → w.heap.size ≤ k))
set_option maxRecDepth 100000 in
set_option maxHeartbeats 6400000 in
theorem new_calls (q : Hd) (p : Lc) (w : World) (hh : HdIn w q p) (hE : GlE w) (hT : Tab w) :
    Calls Tryz.prog 54 #[.agg (hcs q p).toArray] w (NewPost q w) := by
  have HPO : Hid (∀ e w', NewPost q w e w' = (Below w.heap.size w w' ∧ (((headErr q).1 ≠ 0 ∧ ∃ v, e = .returned (.tuple #[.pointer none, v]) ∧ Err w' v (plc (headErr q).1 (headErr q).2 0) .nilIface) ∨
    ((headErr q).1 = 0 ∧ q.vr ≠ 0 ∧ ∃ v, e = .returned (.tuple #[.pointer none, v]) ∧ Err w' v (plc (25 : Nat) pVariant 0) .nilIface) ∨
    ((headErr q).1 = 0 ∧ q.vr = 0 ∧ ∃ g S, e = .returned (.tuple #[.pointer (some ⟨g, 0, none⟩), .nilIface]) ∧ Ci w' g S q [] ∧ ∀ k, S k → w.heap.size ≤ k)))) := Lib.hid (fun _ _ => rfl)
  obtain ⟨W0, hW0, hbk, hal⟩ : ∃ W : World, W = w.alloc (.cells #[.int .i64 q.vr, .int .i64 q.hint, .int .i64 q.schema, .int .u64 q.zero, .slice p.A q.pos.length p.c, .slice p.B q.neg.length p.d] 25) ∧ W.heap[w.heap.size]? = some (.cells #[.int .i64 q.vr, .int .i64 q.hint, .int .i64 q.schema, .int .u64 q.zero, .slice p.A q.pos.length p.c, .slice p.B q.neg.length p.d] 25 (0, 0)) ∧ Below w.heap.size w W := ⟨_, rfl, blk_last w _, below_alloc (Below.refl _ _) _⟩
  have HCEL : Hid (∀ W : World, Below W0.heap.size W0 W → (Below W0.heap.size W0 W ∧ W.cell? ⟨w.heap.size, 0, none⟩ = some (.int .i64 q.vr) ∧ W.cell? ⟨w.heap.size, 1, none⟩ = some (.int .i64 q.hint) ∧ W.cell? ⟨w.heap.size, 2, none⟩ = some (.int .i64 q.schema) ∧ W.cell? ⟨w.heap.size, 3, none⟩ = some (.int .u64 q.zero) ∧ W.cell? ⟨w.heap.size, 4, none⟩ = some (.slice p.A q.pos.length p.c) ∧ W.cell? ⟨w.heap.size, 5, none⟩ = some (.slice p.B q.neg.length p.d))) := Lib.hid (fun W h => by
    have hb := (h.block _ (blk_lt hbk)).trans hbk
    exact ⟨h, obj_cell hb rfl, obj_cell hb rfl, obj_cell hb rfl, obj_cell hb rfl, obj_cell hb rfl, obj_cell hb rfl⟩)
  have HH := Lib.hid (fun W (hb : Below W0.heap.size W0 W) => (hh.below hal).below hb)
  have HE := Lib.hid (fun W (hb : Below W0.heap.size W0 W) => gle_below (gle_below hE hal) hb)
  have HT := Lib.hid (fun W (hb : Below W0.heap.size W0 W) => (hT.below hal).below hb)
  have HCH := Lib.hid (HeadB.check_calls q p W0 (hh.below hal) (gle_below hE hal))
  have HEND := Lib.hid (fun W (hb : Below W0.heap.size W0 W) => below_then hal hal.size hb)
  have HZ0 := Lib.hid hal.size
  have HW0 := Lib.hid hW0
  obtain ⟨-, k0, k1, k2, k3, k4, k5⟩ := HCEL.out W0 (Below.refl _ _)
  clear hh hE hT hal hbk hW0
  show Calls Tryz.prog 54 #[.agg #[.int .i64 q.vr, .int .i64 q.hint, .int .i64 q.schema, .int .u64 q.zero, .slice p.A q.pos.length p.c, .slice p.B q.neg.length p.d]] w _
  dsimp only [hcs] at HCH
  go_enter Tryz.func54, Tryz.ntmps54
  go_wp2_with (fail)
  rw [← HW0.out]
  refine HCH.out.mono ?_
  rintro e w1 ⟨v, rfl, he, hb⟩
  have B1 := Lib.hid hb
  clear HCH k0 k1 k2 k3 k4 k5
  by_cases h0 : (headErr q).1 ≠ 0
  · have H0 := Lib.hid h0
    have E1 := Lib.hid he
    obtain ⟨ge, rfl⟩ := err_some (by omega) he
    clear h0 he hb
    go_wp2
    go_ret2
    exact (HPO.out _ _).mpr ⟨HEND.out _ B1.out, .inl ⟨H0.out, _, rfl, E1.out⟩⟩
  have h0 := Decidable.not_not.1 h0
  rw [h0] at he
  have hv0 := err_none he
  subst hv0
  have H0 := Lib.hid h0
  obtain ⟨-, k0, k1, k2, k3, k4, k5⟩ := HCEL.out w1 hb
  clear h0 he hb
  by_cases hv : q.vr ≠ 0
  · have e1 : (q.vr != 0) = true := by simpa using hv
    have HV := Lib.hid hv
    have HAT := Lib.hid (CkA.at_calls 25 pVariant 0 w1 (HE.out _ B1.out))
    clear hv
    go_wp2_with (fail)
    refine HAT.out.mono ?_
    rintro e w3 ⟨v, rfl, he, hb3⟩
    have E3 := Lib.hid he
    have B3 := Lib.hid (HEND.out _ (below_then B1.out B1.out.size hb3))
    clear he hb3 k0 k1 k2 k3 k4 k5
    go_wp2
    go_ret2
    exact (HPO.out _ _).mpr ⟨B3.out, .inr (.inl ⟨H0.out, HV.out, _, rfl, E3.out⟩)⟩
  have hv := Decidable.not_not.1 hv
  have e1 : (q.vr != 0) = false := by simpa using hv
  have HV := Lib.hid hv
  have HNW := Lib.hid (newWriter_calls none 0 0 [] w1 (RdI.nil .u8 _ _) (by decide) (by decide) (fun _ => rfl) (by decide))
  rw [show (bts []).take 0 = [] from rfl] at HNW
  clear hv
  go_wp2_with (fail)
  refine HNW.out.mono ?_
  rintro e w2 ⟨gw, Sw, rfl, hw, hSw, hb1⟩
  have B2 := Lib.hid (below_then B1.out B1.out.size hb1)
  have HSW := Lib.hid hSw
  have HNG : Hid (¬ Sw 1) := Lib.hid (fun hs => by
    have := hSw _ hs
    have := (HT.out _ B1.out).lt
    omega)
  have hnA : ∀ ad, p.A = some ad → 0 < q.pos.length → ¬ Sw ad.block := fun ad hA hp hs => by
    have := rd_lt (HH.out _ B1.out).pos.rd ad hA hp
    have := hSw _ hs
    omega
  have hnB : ∀ ad, p.B = some ad → 0 < q.neg.length → ¬ Sw ad.block := fun ad hA hp hs => by
    have := rd_lt (HH.out _ B1.out).neg.rd ad hA hp
    have := hSw _ hs
    omega
  have HPU := Lib.hid (Put_calls gw Sw [] q p w2 (HH.out _ B2.out) (HE.out _ B2.out) (HT.out _ B2.out) HNG.out hw (by decide) hnA hnB)
  clear k0 k1 k2 k3 k4 k5
  obtain ⟨-, k0, k1, k2, k3, k4, k5⟩ := HCEL.out w2 B2.out
  clear hw hSw hb1 HNW hnA hnB
  dsimp only [hcs] at HPU
  go_wp2_with (fail)
  refine HPU.out.mono ?_
  rintro e w3 hput
  obtain ⟨rfl, hu⟩ : e = .returned .nilIface ∧ Upd (fun w S => Wr w gw S ([] ++ encH q)) Sw w2 w3 := by
    rcases hput with ⟨-, h1, h2⟩ | ⟨h, -⟩
    · exact ⟨h1, h2⟩
    · exact absurd H0.out h
  obtain ⟨S2, hw2, hs2, hc2⟩ := hu
  rw [List.nil_append] at hw2
  have B3 := Lib.hid (ch_new B2.out B2.out.size (fun k hk => Nat.le_trans B1.out.size (HSW.out k hk)) hc2)
  have HS2 : Hid (∀ k, S2 k → W0.heap.size ≤ k) := Lib.hid (fun k hk => by
    rcases hs2 k hk with h | h
    · exact Nat.le_trans B1.out.size (HSW.out k h)
    · exact Nat.le_trans B2.out.size h)
  have HW3 := Lib.hid hw2
  have HOL3 := Lib.hid hw2.old
  obtain ⟨hq1, hq2⟩ := okq_chk H0.out
  have HCT : Hid (∀ (A' : Option Addr) (c' : Nat) (m : List Sp), chk m = 0 → Spl W0 A' c' m → ∀ W, Below W0.heap.size W0 W → Calls Tryz.prog 99 #[.slice A' m.length c'] W fun e w' => e = .returned (.int .i64 (places m).length) ∧ Below W.heap.size W w') := Lib.hid (by
    intro A' c' m hm hs W hb
    have := SpanQ.count_calls A' c' m W (hs.below hb).rd (by have := hs.len; omega)
    rwa [if_pos hm] at this)
  have HC1 := Lib.hid (HCT.out _ _ _ hq1 (HH.out _ (Below.refl _ _)).pos)
  have HC2 := Lib.hid (HCT.out _ _ _ hq2 (HH.out _ (Below.refl _ _)).neg)
  have HOW := Lib.hid (fun W (hb : Below W0.heap.size W0 W) => CkA.own_calls q p W (HH.out W hb))
  have hp1 := places_len (SpanQ.right_of hq1)
  have hp2 := places_len (SpanQ.right_of hq2)
  have HWD : Hid (width q - 3 = (places q.pos).length + (places q.neg).length) := Lib.hid (by unfold width; omega)
  obtain ⟨a, ha⟩ : ∃ a, a = (places q.pos).length := ⟨_, rfl⟩
  obtain ⟨b, hb⟩ : ∃ b, b = (places q.neg).length := ⟨_, rfl⟩
  rw [← ha] at HC1 HWD hp1
  rw [← hb] at HC2 HWD hp2
  have HFR := Lib.hid (fun W => fresh_calls (a + b) W (by omega))
  simp only [Int.natCast_add] at HFR
  have hwr : IntKind.i64.wrap ((a : Int) + (b : Int)) = (a : Int) + (b : Int) := by rw [IntKind.wrap_i64]; omega
  have bd3 : Below W0.heap.size W0 w3.drew := below_drew B3.out
  have X13 := Lib.hid hc2.size
  dsimp only [hcs] at HOW
  clear k0 k1 k2 k3 k4 k5 ha hb hq1 hq2 HCT hput hs2 hc2 hw2 HPU
  go_wp2_with (fail)
  go_region_held3 (fun W => Below W0.heap.size W0 W ∧ W.cell? ⟨w.heap.size, 0, none⟩ = some (.int .i64 q.vr) ∧ W.cell? ⟨w.heap.size, 1, none⟩ = some (.int .i64 q.hint) ∧ W.cell? ⟨w.heap.size, 2, none⟩ = some (.int .i64 q.schema) ∧ W.cell? ⟨w.heap.size, 3, none⟩ = some (.int .u64 q.zero) ∧ W.cell? ⟨w.heap.size, 4, none⟩ = some (.slice p.A q.pos.length p.c) ∧ W.cell? ⟨w.heap.size, 5, none⟩ = some (.slice p.B q.neg.length p.d))
    (first | (with_reducible exact HCEL.out _ bd3) | (with_reducible exact HCEL.out _ b4) | (with_reducible exact HCEL.out _ b5) | (with_reducible exact HCEL.out _ b6) | (with_reducible exact HCEL.out _ b7) | (with_reducible exact HCEL.out _ (below_alloc b7 _)))
    (first
    | (go_at_call 126; refine (HOW.out _ bd3).mono ?_; rintro e w4 ⟨⟨A1, c1, A2, c2⟩, rfl, hr, on1, on2, hb4⟩; have b4 : Below W0.heap.size W0 w4 := below_then bd3 bd3.size hb4)
    | (go_at_call 99; (with_reducible show Calls _ _ #[Value.slice p.A q.pos.length p.c] _ _); refine (HC1.out _ b4).mono ?_; rintro e w5 ⟨rfl, hb5⟩; have b5 : Below W0.heap.size W0 w5 := below_then b4 b4.size hb5)
    | (go_at_call 99; refine (HC2.out _ b5).mono ?_; rintro e w6 ⟨rfl, hb6⟩; have b6 : Below W0.heap.size W0 w6 := below_then b5 b5.size hb6)
    | (go_at_call 127; refine (HFR.out _).mono ?_; rintro e w7 ⟨gt, va, vc, cols, c0, c1', c2', rfl, hcc, hcols, hb7⟩; have HCC := Lib.hid hcc; clear hcc; have b7 : Below W0.heap.size W0 w7 := below_then b6 b6.size hb7))
  obtain ⟨M, hM⟩ : ∃ M, M = a + b := ⟨_, rfl⟩
  rw [← hM] at hcols ⊢
  have hMw : M = width q - 3 := by rw [HWD.out, hM]
  obtain ⟨hc0, hc1, hc2⟩ := HCC.out
  have hz4 := hb4.size
  have hz5 := hb5.size
  have hz6 := hb6.size
  have hz7 := hb7.size
  have hz3 : w3.drew.heap.size = w3.heap.size := rfl
  have hzz := B3.out.size
  have hz00 := HZ0.out
  have b36 : Below w3.heap.size w3 w7 := below_then (below_drew (Below.refl _ _)) (Nat.le_refl _) (below_then hb4 hb4.size (below_then hb5 hb5.size (below_then hb6 hb6.size hb7)))
  have hal8 := below_alloc (Below.refl w7.heap.size w7) (.cells #[.int .i64 q.vr, .int .i64 q.hint, .int .i64 q.schema, .int .u64 q.zero, .slice A1 q.pos.length c1, .slice A2 q.neg.length c2, .pointer (some ⟨gw, 0, none⟩), .int .i64 0, .pointer (some ⟨gt, 0, none⟩), .pointer (some ⟨c0, 0, none⟩), .pointer (some ⟨c1', 0, none⟩), .pointer (some ⟨c2', 0, none⟩), .slice va M vc, .int .i64 0, .int .i64 0, .int .u64 0, .int .u64 0, .int .u64 0, .int .u64 0, .slice none 0 0, .slice none 0 0, .slice none 0 0, .slice none 0 0] 195)
  have b47 := below_then hb5 hb5.size (below_then hb6 hb6.size hb7)
  have hgb := hcols.gb
  have hcb := hcols.cb
  have hgl := hcols.tr.lt
  have hcl : ∀ c ∈ cols, c < w7.heap.size := fun c hc => by
    obtain ⟨j, hj, rfl⟩ := List.getElem_of_mem hc
    exact (hcols.xs j hj).lt
  have hon : ∀ k, w3.heap.size ≤ k → k < w4.heap.size → (w.heap.size ≤ k ∧ k < (w7.alloc (.cells #[.int .i64 q.vr, .int .i64 q.hint, .int .i64 q.schema, .int .u64 q.zero, .slice A1 q.pos.length c1, .slice A2 q.neg.length c2, .pointer (some ⟨gw, 0, none⟩), .int .i64 0, .pointer (some ⟨gt, 0, none⟩), .pointer (some ⟨c0, 0, none⟩), .pointer (some ⟨c1', 0, none⟩), .pointer (some ⟨c2', 0, none⟩), .slice va M vc, .int .i64 0, .int .i64 0, .int .u64 0, .int .u64 0, .int .u64 0, .int .u64 0, .slice none 0 0, .slice none 0 0, .slice none 0 0, .slice none 0 0] 195)).heap.size ∧ ¬ S2 k ∧ k ≠ w7.heap.size ∧ k ≠ gt ∧ k ∉ cols) := fun k h1 h2 =>
    ⟨by omega, by have := hal8.size; omega, fun hs => by have := HOL3.out k hs; omega, by omega, by omega, fun hc => by have := hcb k hc; omega⟩
  have HDONE := Lib.hid (Ci.make (W := w7.alloc (.cells #[.int .i64 q.vr, .int .i64 q.hint, .int .i64 q.schema, .int .u64 q.zero, .slice A1 q.pos.length c1, .slice A2 q.neg.length c2, .pointer (some ⟨gw, 0, none⟩), .int .i64 0, .pointer (some ⟨gt, 0, none⟩), .pointer (some ⟨c0, 0, none⟩), .pointer (some ⟨c1', 0, none⟩), .pointer (some ⟨c2', 0, none⟩), .slice va M vc, .int .i64 0, .int .i64 0, .int .u64 0, .int .u64 0, .int .u64 0, .int .u64 0, .slice none 0 0, .slice none 0 0, .slice none 0 0, .slice none 0 0] 195)) (B := w.heap.size) (g := w7.heap.size) (gw := gw) (q := q) (l := []) (p := ⟨A1, c1, A2, c2⟩) (Sw := S2) (r := ⟨none, 0, none, 0, none, 0, none, 0⟩) hMw
    (by rw [blk_last, hc0, hc1, hc2, hMw]; rfl) (HdIn.below hr (below_then b47 b47.size hal8)) (by rw [bitsB_nil, List.append_nil]; exact (HW3.out.below b36).below hal8) ((hcols.below hal8).lower (by omega)) (by rw [lastS_nil]; exact la_nil _) (fun s hs => absurd hs (by simp)) (good_nil q) H0.out
    (by omega) (fun k hk => by have := HS2.out k hk; omega)
    (fun ad hA hp => hon _ (on1 ad hA hp) (rd_lt hr.pos.rd ad hA hp)) (fun ad hA hp => hon _ (on2 ad hA hp) (rd_lt hr.neg.rd ad hA hp))
    ⟨fun ad hA => absurd hA (by simp), fun ad hA => absurd hA (by simp), fun ad hA => absurd hA (by simp), fun ad hA => absurd hA (by simp)⟩
    (fun ad hA hp => ⟨fun hs => by have := HOL3.out _ hs; have := (hcols.onv ad hA hp).1; omega, by have := (hcols.onv ad hA hp).2.1; omega⟩)
    (fun hs => by have := HOL3.out _ hs; omega) (by omega) (fun hc => by have := hcl _ hc; omega) (fun hs => by have := HOL3.out _ hs; omega) (fun k hk hs => by have := HOL3.out _ hs; have := hcb k hk; omega))
  have HBF := Lib.hid (HEND.out _ (below_alloc b7 (.cells #[.int .i64 q.vr, .int .i64 q.hint, .int .i64 q.schema, .int .u64 q.zero, .slice A1 q.pos.length c1, .slice A2 q.neg.length c2, .pointer (some ⟨gw, 0, none⟩), .int .i64 0, .pointer (some ⟨gt, 0, none⟩), .pointer (some ⟨c0, 0, none⟩), .pointer (some ⟨c1', 0, none⟩), .pointer (some ⟨c2', 0, none⟩), .slice va M vc, .int .i64 0, .int .i64 0, .int .u64 0, .int .u64 0, .int .u64 0, .int .u64 0, .slice none 0 0, .slice none 0 0, .slice none 0 0, .slice none 0 0] 195)))
  clear hz4 hz5 hz6 hz7 hz3 hzz hz00 b36 hal8 b47 hgb hcb hgl hcl hon hcols b4 b5 b6 b7 hb4 hb5 hb6 hb7 hr on1 on2 bd3 hwr hM hMw
  clear hc0 hc1 hc2
  go_wp2
  go_ret2
  obtain ⟨S, hk1, hk2⟩ := HDONE.out
  exact (HPO.out _ _).mpr ⟨HBF.out, .inr (.inr ⟨H0.out, HV.out, w7.heap.size, S, rfl, hk1, hk2⟩)⟩
end Go.Proofs.YtjfekjbmgckkcaaGreatDoor.CkH
namespace Go.Proofs.YtjfekjbmgckkcaaGreatDoor.CkI
open Go.RowKit Go.Proofs.YtjfekjbmgckkcaaGreatDoorW.PrintWords
open Go.Proofs.YtjfekjbmgckkcaaGreatDoor.Bits Go.Proofs.YtjfekjbmgckkcaaGreatDoor.Base Go.Proofs.YtjfekjbmgckkcaaGreatDoor.VarPure Go.Proofs.YtjfekjbmgckkcaaGreatDoor.VarbitA Go.Proofs.YtjfekjbmgckkcaaGreatDoor.VarKit Go.Proofs.YtjfekjbmgckkcaaGreatDoor.StreamA Go.Proofs.YtjfekjbmgckkcaaGreatDoor.SpanPure Go.Proofs.YtjfekjbmgckkcaaGreatDoor.SpanBase Go.Proofs.YtjfekjbmgckkcaaGreatDoor.FailAs Go.Proofs.YtjfekjbmgckkcaaGreatDoor.FailB Go.Proofs.YtjfekjbmgckkcaaGreatDoor.FailC Go.Proofs.YtjfekjbmgckkcaaGreatDoor.HeadA Go.Proofs.YtjfekjbmgckkcaaGreatDoor.HeadB Go.Proofs.YtjfekjbmgckkcaaGreatDoor.HeadC Go.Proofs.YtjfekjbmgckkcaaGreatDoor.HeadE Go.Proofs.YtjfekjbmgckkcaaGreatDoor.HeadPure Go.Proofs.YtjfekjbmgckkcaaGreatDoor.Ref01 Go.Proofs.YtjfekjbmgckkcaaGreatDoor.Ref12 Go.Proofs.YtjfekjbmgckkcaaGreatDoor.TimesPure Go.Proofs.YtjfekjbmgckkcaaGreatDoor.TimesA Go.Proofs.YtjfekjbmgckkcaaGreatDoor.XorPure Go.Proofs.YtjfekjbmgckkcaaGreatDoor.XorA Go.Proofs.YtjfekjbmgckkcaaGreatDoor.XorB Go.Proofs.YtjfekjbmgckkcaaGreatDoor.CkPure Go.Proofs.YtjfekjbmgckkcaaGreatDoor.CkObj Go.Proofs.YtjfekjbmgckkcaaGreatDoor.CkA Go.Proofs.YtjfekjbmgckkcaaGreatDoor.CkB Go.Proofs.YtjfekjbmgckkcaaGreatDoor.CkD Go.Proofs.YtjfekjbmgckkcaaGreatDoor.CkE
set_option maxHeartbeats 800000 in
theorem head_calls (g : Nat) (S : Nat → Prop) (q : Hd) (l : List IS) (x : IkL) (w : World) (hF : Ik w g S q l x) :
    Calls Tryz.prog 130 #[.pointer (some ⟨g, 0, none⟩)] w fun e w' => ∃ r : Lc, e = .returned (.agg (hcs q r).toArray) ∧ HdIn w' q r ∧ Below w.heap.size w w' := by
  have hobj := hF.obj
  rw [kic_eq] at hobj
  unfold cells23 at hobj
  have c0 : w.cell? ⟨g, 0, none⟩ = some (.int .i64 q.vr) := obj_cell hobj rfl
  have c1 : w.cell? ⟨g, 1, none⟩ = some (.int .i64 q.hint) := obj_cell hobj rfl
  have c2 : w.cell? ⟨g, 2, none⟩ = some (.int .i64 q.schema) := obj_cell hobj rfl
  have c3 : w.cell? ⟨g, 3, none⟩ = some (.int .u64 q.zero) := obj_cell hobj rfl
  have c4 : w.cell? ⟨g, 4, none⟩ = some (.slice x.p.A q.pos.length x.p.c) := obj_cell hobj rfl
  have c5 : w.cell? ⟨g, 5, none⟩ = some (.slice x.p.B q.neg.length x.p.d) := obj_cell hobj rfl
  have hgl := blk_lt hobj
  obtain ⟨W0, hW0, hz0, hal⟩ : ∃ W0 : World, W0 = w.alloc (.cells #[.int .i64 0, .int .i64 0, .int .i64 0, .int .u64 0, .slice none 0 0, .slice none 0 0] 25) ∧ W0.heap[w.heap.size]? = some (.cells #[.int .i64 0, .int .i64 0, .int .i64 0, .int .u64 0, .slice none 0 0, .slice none 0 0] 25 (0, 0)) ∧ Below w.heap.size w W0 := ⟨_, rfl, blk_last w _, below_alloc (Below.refl _ _) _⟩
  have HO := Lib.hid (CkA.own_calls q x.p W0 (hF.hd.below hal))
  have HLT := Lib.hid (blk_lt hz0)
  have HZ0 := Lib.hid hz0
  have HAL := Lib.hid hal
  have HW0 := Lib.hid hW0
  clear hF hobj hz0 hal hW0
  go_enter Tryz.func130, Tryz.ntmps130
  go_wp2_with (fail)
  rw [← HW0.out]
  refine HO.out.mono ?_
  rintro e w1 ⟨r, rfl, h1, h2, h3, h4⟩
  have hz1 := (h4.block _ HLT.out).trans HZ0.out
  have z0 : w1.cell? ⟨w.heap.size, 0, none⟩ = some (.int .i64 0) := obj_cell hz1 rfl
  have z1 : w1.cell? ⟨w.heap.size, 1, none⟩ = some (.int .i64 0) := obj_cell hz1 rfl
  have z2 : w1.cell? ⟨w.heap.size, 2, none⟩ = some (.int .i64 0) := obj_cell hz1 rfl
  have z3 : w1.cell? ⟨w.heap.size, 3, none⟩ = some (.int .u64 0) := obj_cell hz1 rfl
  have z4 : w1.cell? ⟨w.heap.size, 4, none⟩ = some (.slice none 0 0) := obj_cell hz1 rfl
  have z5 : w1.cell? ⟨w.heap.size, 5, none⟩ = some (.slice none 0 0) := obj_cell hz1 rfl
  have f0 : w1.frozen? ⟨w.heap.size, 0, none⟩ = false := obj_free hz1
  have f1 : w1.frozen? ⟨w.heap.size, 1, none⟩ = false := obj_free hz1
  have f2 : w1.frozen? ⟨w.heap.size, 2, none⟩ = false := obj_free hz1
  have f3 : w1.frozen? ⟨w.heap.size, 3, none⟩ = false := obj_free hz1
  have f4 : w1.frozen? ⟨w.heap.size, 4, none⟩ = false := obj_free hz1
  have f5 : w1.frozen? ⟨w.heap.size, 5, none⟩ = false := obj_free hz1
  have HEND : Hid (HdIn (HeadL.six w1 w.heap.size (.int .i64 q.vr) (.int .i64 q.hint) (.int .i64 q.schema) (.int .u64 q.zero) (.slice r.A q.pos.length r.c) (.slice r.B q.neg.length r.d)) q r ∧ Below w.heap.size w (HeadL.six w1 w.heap.size (.int .i64 q.vr) (.int .i64 q.hint) (.int .i64 q.schema) (.int .u64 q.zero) (.slice r.A q.pos.length r.c) (.slice r.B q.neg.length r.d))) := Lib.hid (by
    have hc := HeadL.six_ch w1 w.heap.size (.int .i64 q.vr) (.int .i64 q.hint) (.int .i64 q.schema) (.int .u64 q.zero) (.slice r.A q.pos.length r.c) (.slice r.B q.neg.length r.d)
    have hlt := HLT.out
    have hb := below_then HAL.out HAL.out.size h4
    exact ⟨⟨Spl.ch h1.pos hc h2 fun k hk he => by omega, Spl.ch h1.neg hc h3 fun k hk he => by omega, h1.z⟩, hb.trans (hc.below_of hb.size fun k hk => by omega)⟩)
  clear h1 h2 h3 h4 hz1 HO
  dsimp only [hcs]
  go_wp2
  refine bodyPost_ret (v := .agg #[.int .i64 q.vr, .int .i64 q.hint, .int .i64 q.schema, .int .u64 q.zero, .slice r.A q.pos.length r.c, .slice r.B q.neg.length r.d]) (by rw [results_cell1 rfl]; go_simp) rfl ?_
  exact ⟨r, rfl, HEND.out.1, HEND.out.2⟩
def LastPost (q : Hd) (l : List IS) (w : World) (e : Ending) (w' : World) : Prop :=
  ∃ r : Lh, e = .returned (.tuple #[.agg (isc (lastS q l) r).toArray, .bool (decide (0 < l.length))]) ∧ IhIn w' (lastS q l).h r ∧ OnH (fun k => w.heap.size ≤ k) (lastS q l).h r ∧ Below w.heap.size w w'
set_option maxRecDepth 100000 in
set_option maxHeartbeats 3200000 in
theorem last_calls (g : Nat) (S : Nat → Prop) (q : Hd) (l : List IS) (x : IkL) (w : World) (hF : Ik w g S q l x) :
    Calls Tryz.prog 124 #[.pointer (some ⟨g, 0, none⟩)] w (LastPost q l w) := by
  have HPO : Hid (∀ e w', LastPost q l w e w' = ∃ r : Lh, e = .returned (.tuple #[.agg (isc (lastS q l) r).toArray, .bool (decide (0 < l.length))]) ∧ IhIn w' (lastS q l).h r ∧ OnH (fun k => w.heap.size ≤ k) (lastS q l).h r ∧ Below w.heap.size w w') := Lib.hid (fun _ _ => rfl)
  have hobj := hF.obj
  rw [kic_eq] at hobj
  unfold cells23 at hobj
  have hgl := blk_lt hobj
  have hN := hF.la
  obtain ⟨s, hs⟩ : ∃ s, s = lastS q l := ⟨_, rfl⟩
  rw [← hs] at hobj hN HPO
  obtain ⟨n, hnn⟩ : ∃ n, n = l.length := ⟨_, rfl⟩
  rw [← hnn] at hobj HPO
  obtain ⟨b, hb⟩ : ∃ b, b = decide (0 < n) := ⟨_, rfl⟩
  rw [← hb] at HPO
  have d0 : decide ((0 : Int) < (n : Int)) = b := by rw [hb]; simp
  have d1 : decide (0 < n) = b := hb.symm
  obtain ⟨W0, hW0, hz0, hal⟩ : ∃ W0 : World, W0 = w.alloc (.cells #[.int .i64 0, .int .i64 0, .int .u64 0, .int .u64 0, .int .u64 0, .int .u64 0, .slice none 0 0, .slice none 0 0, .slice none 0 0, .slice none 0 0] 102) ∧ W0.heap[w.heap.size]? = some (.cells #[.int .i64 0, .int .i64 0, .int .u64 0, .int .u64 0, .int .u64 0, .int .u64 0, .slice none 0 0, .slice none 0 0, .slice none 0 0, .slice none 0 0] 102 (0, 0)) ∧ Below w.heap.size w W0 := ⟨_, rfl, blk_last w _, below_alloc (Below.refl _ _) _⟩
  have hg0 := (hal.block g hgl).trans hobj
  have HON : Hid (Calls Tryz.prog 136 #[.agg #[.int .i64 s.t, .int .i64 s.h.schema, .int .u64 s.h.zero, .int .u64 s.h.zc, .int .u64 s.h.cnt, .int .u64 s.h.sum, .slice x.r.A s.h.pos.length x.r.c, .slice x.r.B s.h.neg.length x.r.d, .slice x.r.C s.h.pd.length x.r.cc, .slice x.r.D s.h.nd.length x.r.dd]] W0.drew fun e w' => ∃ r : Lh, e = .returned (.agg #[.int .i64 s.t, .int .i64 s.h.schema, .int .u64 s.h.zero, .int .u64 s.h.zc, .int .u64 s.h.cnt, .int .u64 s.h.sum, .slice r.A s.h.pos.length r.c, .slice r.B s.h.neg.length r.d, .slice r.C s.h.pd.length r.cc, .slice r.D s.h.nd.length r.dd]) ∧ IhIn w' s.h r ∧ OnH (fun k => W0.heap.size ≤ k) s.h r ∧ Below W0.heap.size W0 w') := Lib.hid (by
    refine (copied_calls s x.r W0.drew (hN.below (below_drew hal))).mono ?_
    rintro e w' ⟨r, he, h1, h2, h3⟩
    exact ⟨r, he, h1, h2, below_then (below_drew (Below.refl _ _)) (Nat.le_refl _) h3⟩)
  have e13 : W0.cell? ⟨g, 13, none⟩ = some (.int .i64 s.t) := obj_cell hg0 rfl
  have e14 : W0.cell? ⟨g, 14, none⟩ = some (.int .i64 s.h.schema) := obj_cell hg0 rfl
  have e15 : W0.cell? ⟨g, 15, none⟩ = some (.int .u64 s.h.zero) := obj_cell hg0 rfl
  have e16 : W0.cell? ⟨g, 16, none⟩ = some (.int .u64 s.h.zc) := obj_cell hg0 rfl
  have e17 : W0.cell? ⟨g, 17, none⟩ = some (.int .u64 s.h.cnt) := obj_cell hg0 rfl
  have e18 : W0.cell? ⟨g, 18, none⟩ = some (.int .u64 s.h.sum) := obj_cell hg0 rfl
  have e19 : W0.cell? ⟨g, 19, none⟩ = some (.slice x.r.A s.h.pos.length x.r.c) := obj_cell hg0 rfl
  have e20 : W0.cell? ⟨g, 20, none⟩ = some (.slice x.r.B s.h.neg.length x.r.d) := obj_cell hg0 rfl
  have e21 : W0.cell? ⟨g, 21, none⟩ = some (.slice x.r.C s.h.pd.length x.r.cc) := obj_cell hg0 rfl
  have e22 : W0.cell? ⟨g, 22, none⟩ = some (.slice x.r.D s.h.nd.length x.r.dd) := obj_cell hg0 rfl
  have e7 : W0.cell? ⟨g, 7, none⟩ = some (.int .i64 n) := obj_cell hg0 rfl
  have HZL := Lib.hid hal.size
  have HW0 := Lib.hid hW0
  have HAL := Lib.hid hal
  have HG0 := Lib.hid hg0
  have HGL := Lib.hid (blk_lt hg0)
  have HZLT := Lib.hid (blk_lt hz0)
  have hgz : g ≠ w.heap.size := by omega
  have HQT : Hid (∀ (W : World) (v0 v1 v2 v3 v4 v5 v6 v7 v8 v9 : Value), W.heap[g]? = W0.heap[g]? → ∀ W' : World, W' = ten W w.heap.size v0 v1 v2 v3 v4 v5 v6 v7 v8 v9 → (W'.cell? ⟨g, 13, none⟩ = some (.int .i64 s.t) ∧ W'.cell? ⟨g, 14, none⟩ = some (.int .i64 s.h.schema) ∧ W'.cell? ⟨g, 15, none⟩ = some (.int .u64 s.h.zero) ∧ W'.cell? ⟨g, 16, none⟩ = some (.int .u64 s.h.zc) ∧ W'.cell? ⟨g, 17, none⟩ = some (.int .u64 s.h.cnt) ∧ W'.cell? ⟨g, 18, none⟩ = some (.int .u64 s.h.sum) ∧ W'.cell? ⟨g, 19, none⟩ = some (.slice x.r.A s.h.pos.length x.r.c) ∧ W'.cell? ⟨g, 20, none⟩ = some (.slice x.r.B s.h.neg.length x.r.d) ∧ W'.cell? ⟨g, 21, none⟩ = some (.slice x.r.C s.h.pd.length x.r.cc) ∧ W'.cell? ⟨g, 22, none⟩ = some (.slice x.r.D s.h.nd.length x.r.dd) ∧ W'.cell? ⟨g, 7, none⟩ = some (.int .i64 n))) := Lib.hid (fun W v0 v1 v2 v3 v4 v5 v6 v7 v8 v9 h W' hW' => by
    have hg := (ten_ch W w.heap.size v0 v1 v2 v3 v4 v5 v6 v7 v8 v9).blk (h.trans HG0.out) hgz
    rw [← hW'] at hg
    exact ⟨obj_cell hg rfl, obj_cell hg rfl, obj_cell hg rfl, obj_cell hg rfl, obj_cell hg rfl, obj_cell hg rfl, obj_cell hg rfl, obj_cell hg rfl, obj_cell hg rfl, obj_cell hg rfl, obj_cell hg rfl⟩)
  have HZ0 := Lib.hid hz0
  have hglz : w.heap.size ≠ g := by omega
  clear hF hobj hN hs hnn hW0 hal hg0 hz0 hb
  go_enter Tryz.func124, Tryz.ntmps124
  go_wp2_with (fail)
  rw [← HW0.out]
  have hq0 : (fun W : World => W.cell? ⟨g, 13, none⟩ = some (.int .i64 s.t) ∧ W.cell? ⟨g, 14, none⟩ = some (.int .i64 s.h.schema) ∧ W.cell? ⟨g, 15, none⟩ = some (.int .u64 s.h.zero) ∧ W.cell? ⟨g, 16, none⟩ = some (.int .u64 s.h.zc) ∧ W.cell? ⟨g, 17, none⟩ = some (.int .u64 s.h.cnt) ∧ W.cell? ⟨g, 18, none⟩ = some (.int .u64 s.h.sum) ∧ W.cell? ⟨g, 19, none⟩ = some (.slice x.r.A s.h.pos.length x.r.c) ∧ W.cell? ⟨g, 20, none⟩ = some (.slice x.r.B s.h.neg.length x.r.d) ∧ W.cell? ⟨g, 21, none⟩ = some (.slice x.r.C s.h.pd.length x.r.cc) ∧ W.cell? ⟨g, 22, none⟩ = some (.slice x.r.D s.h.nd.length x.r.dd) ∧ W.cell? ⟨g, 7, none⟩ = some (.int .i64 n)) W0.drew := ⟨e13, e14, e15, e16, e17, e18, e19, e20, e21, e22, e7⟩
  have HQ : Hid (∀ W : World, W.heap[g]? = W0.heap[g]? → (W.cell? ⟨g, 13, none⟩ = some (.int .i64 s.t) ∧ W.cell? ⟨g, 14, none⟩ = some (.int .i64 s.h.schema) ∧ W.cell? ⟨g, 15, none⟩ = some (.int .u64 s.h.zero) ∧ W.cell? ⟨g, 16, none⟩ = some (.int .u64 s.h.zc) ∧ W.cell? ⟨g, 17, none⟩ = some (.int .u64 s.h.cnt) ∧ W.cell? ⟨g, 18, none⟩ = some (.int .u64 s.h.sum) ∧ W.cell? ⟨g, 19, none⟩ = some (.slice x.r.A s.h.pos.length x.r.c) ∧ W.cell? ⟨g, 20, none⟩ = some (.slice x.r.B s.h.neg.length x.r.d) ∧ W.cell? ⟨g, 21, none⟩ = some (.slice x.r.C s.h.pd.length x.r.cc) ∧ W.cell? ⟨g, 22, none⟩ = some (.slice x.r.D s.h.nd.length x.r.dd) ∧ W.cell? ⟨g, 7, none⟩ = some (.int .i64 n))) := Lib.hid (fun W h => by
    have hg := h.trans HG0.out
    exact ⟨obj_cell hg rfl, obj_cell hg rfl, obj_cell hg rfl, obj_cell hg rfl, obj_cell hg rfl, obj_cell hg rfl, obj_cell hg rfl, obj_cell hg rfl, obj_cell hg rfl, obj_cell hg rfl, obj_cell hg rfl⟩)
  go_region_held3 (fun W => W.cell? ⟨g, 13, none⟩ = some (.int .i64 s.t) ∧ W.cell? ⟨g, 14, none⟩ = some (.int .i64 s.h.schema) ∧ W.cell? ⟨g, 15, none⟩ = some (.int .u64 s.h.zero) ∧ W.cell? ⟨g, 16, none⟩ = some (.int .u64 s.h.zc) ∧ W.cell? ⟨g, 17, none⟩ = some (.int .u64 s.h.cnt) ∧ W.cell? ⟨g, 18, none⟩ = some (.int .u64 s.h.sum) ∧ W.cell? ⟨g, 19, none⟩ = some (.slice x.r.A s.h.pos.length x.r.c) ∧ W.cell? ⟨g, 20, none⟩ = some (.slice x.r.B s.h.neg.length x.r.d) ∧ W.cell? ⟨g, 21, none⟩ = some (.slice x.r.C s.h.pd.length x.r.cc) ∧ W.cell? ⟨g, 22, none⟩ = some (.slice x.r.D s.h.nd.length x.r.dd) ∧ W.cell? ⟨g, 7, none⟩ = some (.int .i64 n))
    (first | (with_reducible exact hq0) | (with_reducible exact hq8) | (with_reducible exact HQT.out _ _ _ _ _ _ _ _ _ _ _ hg8 _ rfl))
    (first
    | (go_at_call 136; refine HON.out.mono ?_; rintro e w8 ⟨r, rfl, hr8, hor8, hb8⟩; have hg8 := hb8.block g HGL.out; have hz8 := (hb8.block _ HZLT.out).trans HZ0.out; have hq8 := HQ.out w8 hg8; have z0 := obj_cell (i := 0) hz8 rfl; have f0 := obj_free (i := 0) hz8; have z1 := obj_cell (i := 1) hz8 rfl; have f1 := obj_free (i := 1) hz8; have z2 := obj_cell (i := 2) hz8 rfl; have f2 := obj_free (i := 2) hz8; have z3 := obj_cell (i := 3) hz8 rfl; have f3 := obj_free (i := 3) hz8; have z4 := obj_cell (i := 4) hz8 rfl; have f4 := obj_free (i := 4) hz8; have z5 := obj_cell (i := 5) hz8 rfl; have f5 := obj_free (i := 5) hz8; have z6 := obj_cell (i := 6) hz8 rfl; have f6 := obj_free (i := 6) hz8; have z7 := obj_cell (i := 7) hz8 rfl; have f7 := obj_free (i := 7) hz8; have z8 := obj_cell (i := 8) hz8 rfl; have f8 := obj_free (i := 8) hz8; have z9 := obj_cell (i := 9) hz8 rfl; have f9 := obj_free (i := 9) hz8))
  have HEND : Hid (IhIn (ten w8 w.heap.size (.int .i64 s.t) (.int .i64 s.h.schema) (.int .u64 s.h.zero) (.int .u64 s.h.zc) (.int .u64 s.h.cnt) (.int .u64 s.h.sum) (.slice r.A s.h.pos.length r.c) (.slice r.B s.h.neg.length r.d) (.slice r.C s.h.pd.length r.cc) (.slice r.D s.h.nd.length r.dd)) s.h r ∧ OnH (fun k => w.heap.size ≤ k) s.h r ∧ Below w.heap.size w (ten w8 w.heap.size (.int .i64 s.t) (.int .i64 s.h.schema) (.int .u64 s.h.zero) (.int .u64 s.h.zc) (.int .u64 s.h.cnt) (.int .u64 s.h.sum) (.slice r.A s.h.pos.length r.c) (.slice r.B s.h.neg.length r.d) (.slice r.C s.h.pd.length r.cc) (.slice r.D s.h.nd.length r.dd))) := Lib.hid (by
    have hc := ten_ch w8 w.heap.size (.int .i64 s.t) (.int .i64 s.h.schema) (.int .u64 s.h.zero) (.int .u64 s.h.zc) (.int .u64 s.h.cnt) (.int .u64 s.h.sum) (.slice r.A s.h.pos.length r.c) (.slice r.B s.h.neg.length r.d) (.slice r.C s.h.pd.length r.cc) (.slice r.D s.h.nd.length r.dd)
    have hz := HZLT.out
    have hb := below_then HAL.out HAL.out.size hb8
    exact ⟨hr8.ch hc hor8 fun k hk he => by omega, hor8.mono fun k hk => by have := HZL.out; omega, hb.trans (hc.below_of hb.size fun k hk => by omega)⟩)
  clear hr8 hor8 hb8 hg8 hz8 hq8
  go_wp2
  refine bodyPost_ret (v := .tuple #[.agg #[.int .i64 s.t, .int .i64 s.h.schema, .int .u64 s.h.zero, .int .u64 s.h.zc, .int .u64 s.h.cnt, .int .u64 s.h.sum, .slice r.A s.h.pos.length r.c, .slice r.B s.h.neg.length r.d, .slice r.C s.h.pd.length r.cc, .slice r.D s.h.nd.length r.dd], .bool b]) (by rw [results_cell_tmp rfl]; go_simp) rfl ?_
  exact (HPO.out _ _).mpr ⟨r, rfl, HEND.out.1, HEND.out.2.1, HEND.out.2.2⟩
end Go.Proofs.YtjfekjbmgckkcaaGreatDoor.CkI
namespace Go.Proofs.YtjfekjbmgckkcaaGreatDoor.CkJ
open Go.RowKit Go.Proofs.YtjfekjbmgckkcaaGreatDoorW.PrintWords
open Go.Proofs.YtjfekjbmgckkcaaGreatDoor.Bits Go.Proofs.YtjfekjbmgckkcaaGreatDoor.Base Go.Proofs.YtjfekjbmgckkcaaGreatDoor.VarPure Go.Proofs.YtjfekjbmgckkcaaGreatDoor.VarbitA Go.Proofs.YtjfekjbmgckkcaaGreatDoor.VarKit Go.Proofs.YtjfekjbmgckkcaaGreatDoor.StreamA Go.Proofs.YtjfekjbmgckkcaaGreatDoor.SpanPure Go.Proofs.YtjfekjbmgckkcaaGreatDoor.SpanBase Go.Proofs.YtjfekjbmgckkcaaGreatDoor.FailAs Go.Proofs.YtjfekjbmgckkcaaGreatDoor.FailB Go.Proofs.YtjfekjbmgckkcaaGreatDoor.FailC Go.Proofs.YtjfekjbmgckkcaaGreatDoor.HeadA Go.Proofs.YtjfekjbmgckkcaaGreatDoor.HeadB Go.Proofs.YtjfekjbmgckkcaaGreatDoor.HeadC Go.Proofs.YtjfekjbmgckkcaaGreatDoor.HeadE Go.Proofs.YtjfekjbmgckkcaaGreatDoor.HeadPure Go.Proofs.YtjfekjbmgckkcaaGreatDoor.Ref01 Go.Proofs.YtjfekjbmgckkcaaGreatDoor.Ref12 Go.Proofs.YtjfekjbmgckkcaaGreatDoor.StreamPure Go.Proofs.YtjfekjbmgckkcaaGreatDoor.TimesPure Go.Proofs.YtjfekjbmgckkcaaGreatDoor.TimesA Go.Proofs.YtjfekjbmgckkcaaGreatDoor.XorPure Go.Proofs.YtjfekjbmgckkcaaGreatDoor.XorA Go.Proofs.YtjfekjbmgckkcaaGreatDoor.XorB Go.Proofs.YtjfekjbmgckkcaaGreatDoor.CkPure Go.Proofs.YtjfekjbmgckkcaaGreatDoor.CkObj Go.Proofs.YtjfekjbmgckkcaaGreatDoor.CkA Go.Proofs.YtjfekjbmgckkcaaGreatDoor.CkB Go.Proofs.YtjfekjbmgckkcaaGreatDoor.CkD Go.Proofs.YtjfekjbmgckkcaaGreatDoor.CkE
theorem enc_pos (q : Hd) : 0 < (chunkB q []).length := by
  unfold chunkB encH
  simp only [List.length_append, nb_length]
  omega
theorem chunk_pos (q : Hd) (l : List IS) : 0 < (chunkB q l).length := by
  have := enc_pos q
  unfold chunkB at this ⊢
  rw [List.length_append] at this ⊢
  rw [bitsB_nil] at this
  simp at this
  omega
def allBits (q : Hd) (l : List IS) : List Bool := nb l.length 16 ++ chunkB q l
theorem own_news {e : Nat} {w : World} {base : Nat} {v : Value} {l : List UInt8} (h : OwB e w base v l) (hp : 0 < l.length) : ∃ ad c, v = .slice (some ad) l.length c ∧ ∀ j u, (nums .u8 (ints l))[j]? = some u → w.cell? (ad.add j) = some u := by
  obtain ⟨A, c, rfl, -, hr⟩ := h.reads
  obtain ⟨ad, rfl⟩ := RdI.some_ hr (by rw [ints_length]; exact hp)
  refine ⟨ad, c, rfl, fun j u hj => ?_⟩
  obtain ⟨hj1, hj2⟩ := List.getElem?_eq_some_iff.1 hj
  rw [nums_length] at hj1
  rw [← hj2, hr.at_some j hj1]
  simp [nums]
theorem ints_one (l : List UInt8) : ∀ u ∈ nums .u8 (ints l), u.oneCell' = true := by
  intro u hu
  simp only [nums, List.mem_map] at hu
  obtain ⟨y, _, rfl⟩ := hu
  rfl
theorem pack16 (n : Nat) (h : n < 65536) : pack (nb n 16) = [UInt8.ofNat (n / 256), UInt8.ofNat (n % 256)] := by
  have he : nb n 16 = bts [UInt8.ofNat (n / 256), UInt8.ofNat (n % 256)] := by
    apply List.ext_getElem?
    intro i
    by_cases hi : i < 16
    · rw [nb_get _ _ _ hi, bts_get _ _ (by simpa using hi)]
      congr 1
      by_cases h8 : i < 8
      · rw [show i / 8 = 0 from by omega, show i % 8 = i from by omega]
        show _ = (UInt8.ofNat (n / 256)).toNat.testBit (7 - i)
        rw [UInt8.toNat_ofNat_of_lt' (by show n / 256 < 256; omega), show (256 : Nat) = 2 ^ 8 from rfl, Nat.testBit_div_two_pow]
        congr 1
        omega
      · rw [show i / 8 = 1 from by omega]
        show _ = (UInt8.ofNat (n % 256)).toNat.testBit (7 - i % 8)
        rw [UInt8.toNat_ofNat_of_lt' (by show n % 256 < 256; omega), show (256 : Nat) = 2 ^ 8 from rfl, Nat.testBit_mod_two_pow, decide_eq_true (by omega), Bool.true_and]
        congr 1
        omega
    · rw [List.getElem?_eq_none (by rw [nb_length]; omega), List.getElem?_eq_none (by rw [bts_length]; simp; omega)]
  rw [he, pack_bts]
theorem two_own {W : World} {b base : Nat} {e : Nat} {u v : Value} (hb : base ≤ b) (h : W.heap[b]? = some (.cells #[u, v] e (0, 0))) : W.ownsRow base e 1 (.slice (some ⟨b, 0, none⟩) 2 2) 2 [u, v] :=
  ⟨rfl, .inr ⟨b, 2, _, rfl, hb, h, Nat.le_refl _, by unfold maxLen; omega, rfl, rfl⟩⟩
set_option maxRecDepth 100000 in
set_option maxHeartbeats 3200000 in
theorem bytes_calls (g : Nat) (S : Nat → Prop) (q : Hd) (l : List IS) (x : IkL) (w : World) (hF : Ik w g S q l x) (hm : (chunkB q l).length ≤ 1000000000) (hl : l.length ≤ 60000) :
    Calls Tryz.prog 65 #[.pointer (some ⟨g, 0, none⟩)] w fun e w' => ∃ v, e = .returned v ∧ OwB 5 w' w.heap.size v (pack (allBits q l)) ∧ Below w.heap.size w w' := by
  have hobj := hF.obj
  rw [kic_eq] at hobj
  unfold cells23 at hobj
  have hgl := blk_lt hobj
  have HWR := Lib.hid (fun W (hb : Below w.heap.size w W) => StreamA.bytes_calls x.gw x.Sw _ W (hF.wr.below hb) (by unfold chunkB at hm; omega))
  have HPK := Lib.hid (show pack (allBits q l) = pack (nb l.length 16) ++ pack (chunkB q l) from pack_append8 _ _ (by rw [nb_length]))
  rw [show encH q ++ bitsB l = chunkB q l from rfl] at HWR
  have hpos := chunk_pos q l
  have hpl := pack_length (chunkB q l)
  have hpo : 0 < (pack (chunkB q l)).length := by omega
  have hmx : (pack (chunkB q l)).length ≤ 1000000000 := by omega
  clear hpl hpos
  obtain ⟨n, hn⟩ : ∃ n, n = l.length := ⟨_, rfl⟩
  rw [← hn] at hl HPK hobj
  have HN2 : Hid (nums .u8 (ints (pack (nb n 16))) = [.int .u8 (IntKind.u8.wrap ((n : Int) / 256)), .int .u8 (IntKind.u8.wrap (n : Int))]) := Lib.hid (by
    rw [pack16 n (by omega)]
    have e1 : (UInt8.ofNat (n / 256)).toNat = n / 256 := UInt8.toNat_ofNat_of_lt' (by show n / 256 < 256; omega)
    have e2 : (UInt8.ofNat (n % 256)).toNat = n % 256 := UInt8.toNat_ofNat_of_lt' (by show n % 256 < 256; omega)
    have e3 : IntKind.u8.wrap ((n : Int) / 256) = ((n / 256 : Nat) : Int) := by rw [IntKind.wrap_u8]; omega
    have e4 : IntKind.u8.wrap (n : Int) = ((n % 256 : Nat) : Int) := by rw [IntKind.wrap_u8]; omega
    rw [e3, e4]
    simp only [nums, ints, List.map_cons, List.map_nil, e1, e2])
  have c7 := fun W (h : Below w.heap.size w W) => (obj_cell ((h.block g hgl).trans hobj) rfl : W.cell? ⟨g, 7, none⟩ = some (.int .i64 n))
  have c6 := fun W (h : Below w.heap.size w W) => (obj_cell ((h.block g hgl).trans hobj) rfl : W.cell? ⟨g, 6, none⟩ = some (.pointer (some ⟨x.gw, 0, none⟩)))
  have hb0 := Below.refl w.heap.size w
  clear hF hobj hn
  go_enter Tryz.func65, Tryz.ntmps65
  go_wp2_with (fail)
  obtain ⟨i0, hi, hz0, hz1, hz2⟩ := info_parts StreamA.info
  go_region_law (first
    | (refine step_append_lies (w := w4.alloc (.cells #[.int .u8 (IntKind.u8.wrap ((n : Int) / 256)), .int .u8 (IntKind.u8.wrap (n : Int))] 5)) rfl (.tmp 14) (.tmp 19) 51 rfl w.heap.size 5 i0 (.int .u8 0) 1 1 Tryz.underlying51 hi hz0 hz1 hz2 rfl (by decide) (.slice (some ⟨w4.heap.size, 0, none⟩) 2 2) 2 [.int .u8 (IntKind.u8.wrap ((n : Int) / 256)), .int .u8 (IntKind.u8.wrap (n : Int))] (by simp [Act.eval]) (two_own hb4.size (blk_last w4 _)) ad2 (pack (chunkB q l)).length c2 (nums .u8 (ints (pack (chunkB q l)))) (by simp [Act.eval]) (by rw [nums_length, ints_length, Nat.mul_one]) (fun j u hj => pw_cell_below (below_alloc (Below.refl _ _) _) (hnews2 j u hj)) (ints_one _) hpo (by unfold maxLen; omega) (by omega) (below_alloc hb4 _).size (w4.alloc (.cells #[.int .u8 (IntKind.u8.wrap ((n : Int) / 256)), .int .u8 (IntKind.u8.wrap (n : Int))] 5)).heap.size rfl ?_; intro gn cap w5 ho5 hg5 hat5 hlt5; have hb5 := (below_alloc hb4 (.cells #[.int .u8 (IntKind.u8.wrap ((n : Int) / 256)), .int .u8 (IntKind.u8.wrap (n : Int))] 5)).grown hg5 (below_alloc hb4 (.cells #[.int .u8 (IntKind.u8.wrap ((n : Int) / 256)), .int .u8 (IntKind.u8.wrap (n : Int))] 5)).size (fun k hk => by have : w4.heap.size = k := (by simpa [Value.ownBlock] using hk); rw [← this]; exact hb4.size); clear hg5 hat5 hlt5)
    | (refine step_append_lies (w := w4) rfl (.tmp 14) (.tmp 19) 51 rfl w.heap.size 5 i0 (.int .u8 0) 1 1 Tryz.underlying51 hi hz0 hz1 hz2 rfl (by decide) (.slice (some ⟨w.heap.size, 0, none⟩) 2 2) 2 [.int .u8 (IntKind.u8.wrap ((n : Int) / 256)), .int .u8 (IntKind.u8.wrap (n : Int))] (by simp [Act.eval]) (two_own (Nat.le_refl _) hz4) ad2 (pack (chunkB q l)).length c2 (nums .u8 (ints (pack (chunkB q l)))) (by simp [Act.eval]) (by rw [nums_length, ints_length, Nat.mul_one]) hnews2 (ints_one _) hpo (by unfold maxLen; omega) (by omega) hb4.size w4.heap.size rfl ?_; intro gn cap w5 ho5 hg5 hat5 hlt5; have hb5 := hb4.grown hg5 hb4.size (fun k hk => by have : w.heap.size = k := (by simpa [Value.ownBlock] using hk); rw [← this]; exact Nat.le_refl _); clear hg5 hat5 hlt5)
    | (go_simp; go_at_call 26; (with_reducible show Calls _ _ _ (World.drew w) _); refine (HWR.out _ (below_drew hb0)).mono ?_; rintro e w4 ⟨v2, rfl, ho2, hb4d⟩; have hb4 : Below w.heap.size w w4 := below_then (below_drew hb0) (Nat.le_refl _) hb4d; obtain ⟨ad2, c2, rfl, hnews2⟩ := own_news ho2 hpo)
    | (go_simp; go_at_call 26; refine (HWR.out _ (below_drew (below_alloc hb0 _))).mono ?_; rintro e w4 ⟨v2, rfl, ho2, hb4d⟩; have hb4 : Below w.heap.size w w4 := below_then (below_drew (below_alloc hb0 _)) (below_alloc hb0 _).size hb4d; have hz4 := (hb4d.block _ (blk_lt (blk_last w (.cells #[.int .u8 (IntKind.u8.wrap ((n : Int) / 256)), .int .u8 (IntKind.u8.wrap (n : Int))] 5)))).trans (blk_last w (.cells #[.int .u8 (IntKind.u8.wrap ((n : Int) / 256)), .int .u8 (IntKind.u8.wrap (n : Int))] 5)); obtain ⟨ad2, c2, rfl, hnews2⟩ := own_news ho2 hpo))
  all_goals (
    have HRES : Hid (OwB 5 w5 w.heap.size (.slice (some ⟨gn, 0, none⟩) (2 + (pack (chunkB q l)).length) cap) (pack (allBits q l))) := Lib.hid (by
      rw [HPK.out]
      unfold OwB OwI
      have hln : (pack (nb n 16)).length = 2 := by rw [pack_length, nb_length]
      have hn2 := HN2.out
      rw [ints_append, List.length_append, ints_length, ints_length, hln]
      rw [show nums IntKind.u8 (ints (pack (nb n 16)) ++ ints (pack (chunkB q l))) = nums .u8 (ints (pack (nb n 16))) ++ nums .u8 (ints (pack (chunkB q l))) from by simp [nums], hn2]
      exact ho5)
    have HBB := Lib.hid hb5
    clear ho5 hb5 ho2 hb4 hb4d hnews2
    go_wp2
    go_ret
    exact ⟨_, rfl, HRES.out, HBB.out⟩)
end Go.Proofs.YtjfekjbmgckkcaaGreatDoor.CkJ
namespace Go.Proofs.YtjfekjbmgckkcaaGreatDoor.Law15C
open Go.RowKit Go.Proofs.YtjfekjbmgckkcaaGreatDoorW.PrintWords
open Go.Proofs.YtjfekjbmgckkcaaGreatDoor.Bits Go.Proofs.YtjfekjbmgckkcaaGreatDoor.Base Go.Proofs.YtjfekjbmgckkcaaGreatDoor.VarPure Go.Proofs.YtjfekjbmgckkcaaGreatDoor.VarbitA Go.Proofs.YtjfekjbmgckkcaaGreatDoor.VarKit Go.Proofs.YtjfekjbmgckkcaaGreatDoor.StreamA Go.Proofs.YtjfekjbmgckkcaaGreatDoor.TimesPure Go.Proofs.YtjfekjbmgckkcaaGreatDoor.SpanPure Go.Proofs.YtjfekjbmgckkcaaGreatDoor.SpanBase Go.Proofs.YtjfekjbmgckkcaaGreatDoor.FailAs Go.Proofs.YtjfekjbmgckkcaaGreatDoor.FailB Go.Proofs.YtjfekjbmgckkcaaGreatDoor.FailC Go.Proofs.YtjfekjbmgckkcaaGreatDoor.HeadA Go.Proofs.YtjfekjbmgckkcaaGreatDoor.HeadB Go.Proofs.YtjfekjbmgckkcaaGreatDoor.HeadE Go.Proofs.YtjfekjbmgckkcaaGreatDoor.HeadPure Go.Proofs.YtjfekjbmgckkcaaGreatDoor.XorPure Go.Proofs.YtjfekjbmgckkcaaGreatDoor.XorA Go.Proofs.YtjfekjbmgckkcaaGreatDoor.CkPure Go.Proofs.YtjfekjbmgckkcaaGreatDoor.CkObj Go.Proofs.YtjfekjbmgckkcaaGreatDoor.CkD Go.Proofs.YtjfekjbmgckkcaaGreatDoor.CkFa Go.Proofs.YtjfekjbmgckkcaaGreatDoor.CkH Go.Proofs.YtjfekjbmgckkcaaGreatDoor.CkI
def q1 : Hd := ⟨0, 0, 0, 0, [], []⟩
def q0 : Hd := ⟨1, 0, 0, 0, [], []⟩
def s0 : IS := ⟨0, ⟨0, 0, 0, 0, 0, [], [], [], []⟩⟩
def s4 : IS := ⟨4, ⟨0, 0, 0, 0, 0, [], [], [], []⟩⟩
def lc0 : Lc := ⟨none, 0, none, 0⟩
def lh0 : Lh := ⟨none, 0, none, 0, none, 0, none, 0⟩
theorem err_q1 : (headErr q1).1 = 0 := by decide +kernel
theorem err_q0 : (headErr q0).1 = 0 := by decide +kernel
theorem wr_0 : (wrongI q1 [] s0).1 = 0 := by decide +kernel
theorem wr_1 : wrongI q1 [s0] s0 = (24, pTime) := by decide +kernel
theorem wr_4 : (wrongI q1 [s0] s4).1 = 0 := by decide +kernel
theorem len_4 : (lastB [s0] s4).length = 8 := by decide +kernel
theorem bits_1 : 16 + (chunkB q1 [s0]).length = 102 := by decide +kernel
theorem pack_1 : (pack (CkJ.allBits q1 [s0])).length = 13 := by decide +kernel
theorem len_c0 : (chunkB q1 []).length ≤ 100 := by decide +kernel
theorem in_0 : In64S s0 := ⟨by decide, by decide, ⟨by decide, by decide, by decide, by decide, fun v hv => absurd hv (by simp [s0]), fun v hv => absurd hv (by simp [s0])⟩⟩
theorem in_4 : In64S s4 := ⟨by decide, by decide, ⟨by decide, by decide, by decide, by decide, fun v hv => absurd hv (by simp [s4]), fun v hv => absurd hv (by simp [s4])⟩⟩
theorem room_0 : Room q1 [] := by
  have h1 := len_c0
  have h2 : width q1 = 3 := rfl
  unfold Room
  rw [h2]
  generalize (chunkB q1 []).length = a at *
  exact ⟨by omega, by simp⟩
theorem room_1 : Room q1 [s0] := by
  have h1 := bits_1
  have h2 : width q1 = 3 := rfl
  unfold Room
  rw [h2]
  generalize (chunkB q1 [s0]).length = a at *
  exact ⟨by omega, by simp⟩
theorem off_0 (T : Nat → Prop) (s : IS) (h : s.h = ⟨0, 0, 0, 0, 0, [], [], [], []⟩) : OnH T s.h lh0 := by
  rw [h]
  exact ⟨fun ad hA => absurd hA (by simp [lh0]), fun ad hA => absurd hA (by simp [lh0]), fun ad hA => absurd hA (by simp [lh0]), fun ad hA => absurd hA (by simp [lh0])⟩
set_option maxRecDepth 100000 in
set_option maxHeartbeats 6400000 in
theorem awake_calls (w : World) (hT : Tab w) (hE : GlE w) (hZ : Tz w) :
    Calls Tryz.prog 53 #[] w fun e w' => e = .returned (.bool true) ∧ Below w.heap.size w w' := by
  have HT := Lib.hid (fun W (h : Below w.heap.size w W) => hT.below h)
  have HE := Lib.hid (fun W (h : Below w.heap.size w W) => gle_below hE h)
  have HZ := Lib.hid (fun W (h : Below w.heap.size w W) => hZ.below h)
  have hlt1 := hT.lt
  have hlt2 := hZ.lt
  have HN1 := Lib.hid (new_calls q1 lc0 w (Law14B.hdin_nil w 0 0 0 0 (by decide)) hE hT)
  clear hT hE hZ
  go_enter Tryz.func53, Tryz.ntmps53
  go_wp2_with (fail)
  refine HN1.out.mono ?_
  rintro e w1 ⟨hb1, hc1⟩
  obtain ⟨g, S, rfl, hk1, hS1⟩ : ∃ g S, e = .returned (.tuple #[.pointer (some ⟨g, 0, none⟩), .nilIface]) ∧ Ci w1 g S q1 [] ∧ ∀ k, S k → w.heap.size ≤ k := by
    rcases hc1 with ⟨h, -⟩ | ⟨-, h, -⟩ | ⟨-, -, h⟩
    · exact absurd err_q1 h
    · exact absurd rfl h
    · exact h
  have B1 := Lib.hid hb1
  have K1 := Lib.hid hk1
  have HS1 := Lib.hid hS1
  have HN0 := Lib.hid (new_calls q0 lc0 w1 (Law14B.hdin_nil w1 1 0 0 0 (by decide)) (HE.out _ hb1) (HT.out _ hb1))
  clear hb1 hc1 hk1 hS1 HN1
  go_wp2_with (fail)
  refine HN0.out.mono ?_
  rintro e w2 ⟨hb2, hc2⟩
  obtain ⟨v, rfl, he2⟩ : ∃ v, e = .returned (.tuple #[.pointer none, v]) ∧ Err w2 v (plc (25 : Nat) pVariant 0) .nilIface := by
    rcases hc2 with ⟨h, -⟩ | ⟨-, -, h⟩ | ⟨-, h, -⟩
    · exact absurd err_q0 h
    · exact h
    · exact absurd h (by decide)
  have B2 := Lib.hid (below_then B1.out B1.out.size hb2)
  have K2 := Lib.hid (K1.out.below hb2)
  have HCO := Lib.hid (code_calls he2)
  rw [show codeOf (plc (25 : Nat) pVariant 0) .nilIface = 25 from rfl] at HCO
  obtain ⟨ge, rfl⟩ := err_some (by decide) he2
  clear hb2 hc2 he2 HN0
  go_wp2_with (fail)
  refine HCO.out.mono ?_
  rintro e w3 ⟨rfl, hb3⟩
  have B3 := Lib.hid (below_then B2.out B2.out.size hb3)
  have K3 := Lib.hid (K2.out.below hb3)
  clear hb3 HCO
  obtain ⟨x3, hx3⟩ := K3.out
  have HA1 := Lib.hid (append_calls g S q1 [] x3 s0 lh0 w3 hx3 (la_nil w3) (off_0 _ s0 rfl) in_0 room_0 (HE.out _ B3.out) (HT.out _ B3.out) (HZ.out _ B3.out) (fun h => by have := HS1.out _ h; omega) (fun h => by have := HS1.out _ h; omega))
  clear hx3
  go_wp2_with (fail)
  refine HA1.out.mono ?_
  rintro e w4 hap
  obtain ⟨rfl, S4, hk4, hs4, hc4⟩ : e = .returned .nilIface ∧ Upd (fun W S => Ci W g S q1 ([] ++ [s0])) S w3 w4 := by
    rcases hap with ⟨h, -⟩ | ⟨-, h⟩
    · exact absurd wr_0 h
    · exact h
  rw [List.nil_append] at hk4
  have B4 := Lib.hid (ch_new B3.out B3.out.size HS1.out hc4)
  have HS4 : Hid (∀ k, S4 k → w.heap.size ≤ k) := Lib.hid (fun k hk => by
    rcases hs4 k hk with h | h
    · exact HS1.out k h
    · exact Nat.le_trans B3.out.size h)
  have K4 := Lib.hid hk4
  clear hap hk4 hs4 hc4 HA1
  obtain ⟨x4, hx4⟩ := K4.out
  have HA2 := Lib.hid (append_calls g S4 q1 [s0] x4 s0 lh0 w4 hx4 (la_nil w4) (off_0 _ s0 rfl) in_0 room_1 (HE.out _ B4.out) (HT.out _ B4.out) (HZ.out _ B4.out) (fun h => by have := HS4.out _ h; omega) (fun h => by have := HS4.out _ h; omega))
  clear hx4
  go_wp2_with (fail)
  refine HA2.out.mono ?_
  rintro e w5 hap
  obtain ⟨⟨v5, rfl, he5⟩, hb5⟩ : (∃ v, e = .returned v ∧ Err w5 v (plc (24 : Nat) pTime (1 : Nat)) .nilIface) ∧ Below w4.heap.size w4 w5 := by
    rcases hap with ⟨-, h⟩ | ⟨h, -⟩
    · rw [wr_1] at h
      exact h
    · rw [wr_1] at h
      cases h
  have B5 := Lib.hid (below_then B4.out B4.out.size hb5)
  have K5 := Lib.hid (K4.out.below hb5)
  have E5 := Lib.hid he5
  obtain ⟨ge5, rfl⟩ := err_some (by decide) he5
  clear hap hb5 he5 HA2
  obtain ⟨x5, hx5⟩ := K5.out
  have HC5 := Lib.hid (cost_calls g S4 q1 [s0] x5 s4 lh0 w5 hx5 (la_nil w5) in_4 room_1 (HE.out _ B5.out) (HT.out _ B5.out) (HZ.out _ B5.out))
  clear hx5
  go_wp2_with (fail)
  refine HC5.out.mono ?_
  rintro e w6 ⟨hb6, hc6⟩
  obtain rfl : e = .returned (.tuple #[.int .i64 8, .nilIface]) := by
    rcases hc6 with ⟨h, -⟩ | ⟨-, h⟩
    · exact absurd wr_4 h
    · rw [len_4] at h
      exact h
  have B6 := Lib.hid (below_then B5.out B5.out.size hb6)
  have K6 := Lib.hid (K5.out.below hb6)
  have E6 := Lib.hid (E5.out.below hb6)
  have HAT := Lib.hid (FailE.at_calls pTime (E5.out.below hb6))
  rw [show FailE.atF (plc (24 : Nat) pTime (1 : Nat)) pTime = (1, true) from by decide +kernel] at HAT
  clear hb6 hc6 HC5
  go_wp2_with (fail)
  refine HAT.out.mono ?_
  rintro e w7 ⟨rfl, hb7⟩
  have B7 := Lib.hid (below_then B6.out B6.out.size hb7)
  have K7 := Lib.hid (K6.out.below hb7)
  have E7 := Lib.hid (E6.out.below hb7)
  clear hb7 HAT
  obtain ⟨x7, hx7⟩ := K7.out
  have HLA := Lib.hid (last_calls g S4 q1 [s0] x7 w7 hx7)
  clear hx7
  go_wp2_with (fail)
  refine HLA.out.mono ?_
  rintro e w8 ⟨r, rfl, -, -, hb8⟩
  rw [show (Ending.returned (.tuple #[.agg (isc (lastS q1 [s0]) r).toArray, .bool (decide (0 < [s0].length))])) = Ending.returned (.tuple #[.agg #[.int .i64 0, .int .i64 0, .int .u64 0, .int .u64 0, .int .u64 0, .int .u64 0, .slice r.A 0 r.c, .slice r.B 0 r.d, .slice r.C 0 r.cc, .slice r.D 0 r.dd], .bool true]) from rfl]
  obtain ⟨W8, hW8, hal, hbk8⟩ : ∃ W : World, W = w8.alloc (.cells #[.int .i64 0, .int .i64 0, .int .u64 0, .int .u64 0, .int .u64 0, .int .u64 0, .slice r.A 0 r.c, .slice r.B 0 r.d, .slice r.C 0 r.cc, .slice r.D 0 r.dd] 102) ∧ Below w7.heap.size w7 W ∧ W.heap[w8.heap.size]? = some (.cells #[.int .i64 0, .int .i64 0, .int .u64 0, .int .u64 0, .int .u64 0, .int .u64 0, .slice r.A 0 r.c, .slice r.B 0 r.d, .slice r.C 0 r.cc, .slice r.D 0 r.dd] 102 (0, 0)) := ⟨_, rfl, hb8.alloc hb8.size _, blk_last w8 _⟩
  have HW8 := Lib.hid hW8
  have HK8 := Lib.hid hbk8
  have B8 := Lib.hid (below_then B7.out B7.out.size hal)
  have K8 := Lib.hid (K7.out.below hal)
  have HCO := Lib.hid (code_calls (E7.out.below hal))
  rw [show codeOf (plc (24 : Nat) pTime (1 : Nat)) .nilIface = 24 from rfl] at HCO
  clear hb8 hal hW8 hbk8 HLA
  go_wp2_with (fail)
  rw [← HW8.out]
  refine HCO.out.mono ?_
  rintro e w9 ⟨rfl, hb9⟩
  have B9 := Lib.hid (below_then B8.out B8.out.size hb9)
  obtain ⟨x9, hx9⟩ := K8.out.below hb9
  have HBI := Lib.hid (CkD.bits_calls g S4 q1 [s0] x9 w9 hx9 (by have := bits_1; omega))
  rw [bits_1] at HBI
  have HLE := Lib.hid (CkD.len_calls g S4 q1 [s0] x9 w9 hx9)
  rw [show [s0].length = 1 from rfl] at HLE
  have HBY := Lib.hid (CkJ.bytes_calls g S4 q1 [s0] x9 w9 hx9 (by have := bits_1; omega) (by decide))
  have HK9 := Lib.hid ((hb9.block _ (blk_lt HK8.out)).trans HK8.out)
  clear hb9 hx9 HCO
  go_wp2_with (fail)
  refine HBI.out.mono ?_
  rintro e w' ⟨rfl, rfl⟩
  go_wp2_with (fail)
  refine HLE.out.mono ?_
  rintro e w' ⟨rfl, rfl⟩
  go_wp2_with (fail)
  refine HBY.out.mono ?_
  rintro e w10 ⟨v, rfl, ho, hb10⟩
  obtain ⟨A, c, rfl, -, -⟩ := ho.reads
  rw [pack_1]
  have B10 := Lib.hid (below_then B9.out B9.out.size hb10)
  have z0 := obj_cell (i := 0) ((hb10.block _ (blk_lt HK9.out)).trans HK9.out) rfl
  clear ho hb10 HBY HBI HLE
  go_wp2
  go_ret
  exact ⟨rfl, B10.out⟩
end Go.Proofs.YtjfekjbmgckkcaaGreatDoor.Law15C
namespace Go.Proofs.YtjfekjbmgckkcaaGreatDoor.Ref14B
open Go.RowKit Go.Proofs.YtjfekjbmgckkcaaGreatDoorW.PrintWords
open Go.Proofs.YtjfekjbmgckkcaaGreatDoor.Bits Go.Proofs.YtjfekjbmgckkcaaGreatDoor.Base Go.Proofs.YtjfekjbmgckkcaaGreatDoor.VarPure Go.Proofs.YtjfekjbmgckkcaaGreatDoor.VarKit Go.Proofs.YtjfekjbmgckkcaaGreatDoor.StreamA Go.Proofs.YtjfekjbmgckkcaaGreatDoor.SpanPure Go.Proofs.YtjfekjbmgckkcaaGreatDoor.SpanBase Go.Proofs.YtjfekjbmgckkcaaGreatDoor.ThrPure Go.Proofs.YtjfekjbmgckkcaaGreatDoor.HeadA Go.Proofs.YtjfekjbmgckkcaaGreatDoor.HeadB Go.Proofs.YtjfekjbmgckkcaaGreatDoor.HeadPure Go.Proofs.YtjfekjbmgckkcaaGreatDoor.HeadD Go.Proofs.YtjfekjbmgckkcaaGreatDoor.HeadE Go.Proofs.YtjfekjbmgckkcaaGreatDoor.Ref01 Go.Proofs.YtjfekjbmgckkcaaGreatDoor.Ref04 Go.Proofs.YtjfekjbmgckkcaaGreatDoor.Ref12
set_option maxRecDepth 100000 in
set_option maxHeartbeats 3200000 in
theorem Spans_calls (A : Option Addr) (c : Nat) (l : List Sp) (w : World) (hr : RdSp w A l) (hm : l.length ≤ 1024) (hin : ∀ s ∈ l, -2097153 ≤ s.1 ∧ s.1 ≤ 2097152 ∧ 0 ≤ s.2 ∧ s.2 ≤ 4096) :
    Calls Tryz.prog 83 #[.slice A l.length c] w fun e w' => e = .returned (.string (txt (encSp l))) ∧ Below w.heap.size w w' := by
  have HR := Lib.hid hr
  have HIN := Lib.hid hin
  have HUL := Lib.hid (U_calls l.length w (by omega))
  have HU := Lib.hid (fun x W (hb : Below w.heap.size w W) (hx : x < 18446744073709551616) => lift hb hb.size (U_calls x W hx))
  have HSS := Lib.hid (fun v W (hb : Below w.heap.size w W) (h1 : -9223372036854775808 ≤ v) (h2 : v ≤ 9223372036854775807) => lift hb hb.size (S_calls v W h1 h2))
  clear hr hin
  go_enter Tryz.func83, Tryz.ntmps83
  go_wp2_with (fail)
  refine HUL.out.mono ?_
  rintro e w1 ⟨rfl, hb1⟩
  have HB1 := Lib.hid hb1
  clear hb1 HUL
  go_wp2
  go_loopw [3, 4] (fun v i wr => ∃ k : Nat, k ≤ l.length ∧ i = .int .i64 k ∧ v = .string (txt (encU l.length ++ encSps (l.take k))) ∧ Below w.heap.size w wr) (fun _ i _ => l.length - (intOf i).toNat)
  case atStart => exact ⟨0, by omega, rfl, by simp [encSps], HB1.out⟩
  case round =>
    obtain ⟨k, hk, rfl, rfl, hb⟩ := hrel
    have HB := Lib.hid hb
    by_cases hlt : k < l.length
    · obtain ⟨ad, hA, c0, c1⟩ := (HR.out.below hb).at_ k hlt
      subst hA
      obtain ⟨h1, h2, h3, h4⟩ := HIN.out l[k] (List.getElem_mem hlt)
      have HSF := Lib.hid (fun W (h : Below w.heap.size w W) => by
        obtain ⟨ad', hA, c0', c1'⟩ := (HR.out.below h).at_ k hlt
        injection hA with hA
        subst hA
        exact ⟨h, c0', c1'⟩ : ∀ W, Below w.heap.size w W → (Below w.heap.size w W ∧ W.cell? (ad.add (k * 2)) = some (.int .i64 l[k].1) ∧ W.cell? ⟨(ad.add (k * 2)).block, (ad.add (k * 2)).off + 1, none⟩ = some (.int .i64 l[k].2)))
      have HT := Lib.hid (encSps_take l k hlt)
      have hl1 := encSps_le (l.take k)
      have hlt2 : (l.take k).length ≤ 1024 := by rw [List.length_take]; omega
      have hl2 := encU_le l.length
      have hl3 := encU_le l[k].2.toNat
      have hl4 := encS_le l[k].1
      obtain ⟨s, hs⟩ : ∃ s, s = l[k] := ⟨_, rfl⟩
      rw [← hs] at c0 c1 h1 h2 h3 h4 HSF HT hl3 hl4
      obtain ⟨o, q⟩ := s
      simp only at c0 c1 h1 h2 h3 h4 HSF HT hl3 hl4
      obtain ⟨n, rfl⟩ := Int.eq_ofNat_of_zero_le h3
      rw [Int.toNat_natCast] at hl3
      have HUK := Lib.hid (fun W hb => HU.out n W hb (by omega))
      have HSK := Lib.hid (fun W hb => HSS.out o W hb (by omega) (by omega))
      obtain ⟨X, hX⟩ : ∃ X, X = encU l.length ++ encSps (l.take k) := ⟨_, rfl⟩
      have hXl : X.length ≤ 1000000 := by rw [hX, List.length_append]; omega
      have HN : Hid (txt (encU l.length ++ encSps (l.take (k + 1))) = txt X ++ (txt (encU n) ++ txt (encS o))) := Lib.hid (by
        rw [HT.out, hX, ← txt_append, ← txt_append]
        simp [encSp1, List.append_assoc])
      rw [← hX]
      have z1 : (txt X).size ≤ 1000000 := by rw [txt_size]; exact hXl
      have z2 : (txt (encU n)).size ≤ 72 := by rw [txt_size]; exact hl3
      have z3 : (txt (encS o)).size ≤ 72 := by rw [txt_size]; exact hl4
      have hwn : IntKind.u64.wrap (n : Int) = (n : Int) := by rw [IntKind.wrap_u64]; omega
      obtain ⟨sX, hsX⟩ : ∃ s, s = txt X := ⟨_, rfl⟩
      obtain ⟨sU, hsU⟩ : ∃ s, s = txt (encU n) := ⟨_, rfl⟩
      obtain ⟨sS, hsS⟩ : ∃ s, s = txt (encS o) := ⟨_, rfl⟩
      rw [← hsX] at z1 HN ⊢
      rw [← hsU] at z2 HN HUK
      rw [← hsS] at z3 HN HSK
      have n1 : ¬ (9223372036854775807 < sU.size + sS.size) := by omega
      have n2 : ¬ (9223372036854775807 < sX.size + (sU.size + sS.size)) := by omega
      have n3 : ¬ (9223372036854775807 < sX.size + (sU ++ sS).size) := by rw [ByteArray.size_append]; omega
      have hcells := HSF.out _ hb
      clear hsX hsU hsS hX hXl hl1 hl2 hl3 hl4 hlt2 hs h1 h2 h3 h4 hb HT
      go_wp2_with (fail)
      go_region_held3 (fun W => Below w.heap.size w W ∧ W.cell? (ad.add (k * 2)) = some (.int .i64 o) ∧ W.cell? ⟨(ad.add (k * 2)).block, (ad.add (k * 2)).off + 1, none⟩ = some (.int .i64 (n : Int)))
        (first | (with_reducible exact HSF.out _ (below_drew HB.out)) | (with_reducible exact HSF.out _ hbs) | (with_reducible exact HSF.out _ hbu))
        (first
        | (go_at_call 156; refine (HUK.out _ (And.left (by assumption))).mono ?_; rintro e w2 ⟨rfl, hbu⟩; have hcells := HSF.out _ hbu)
        | (go_at_call 81; refine (HSK.out _ (And.left (by assumption))).mono ?_; rintro e w3 ⟨rfl, hbs⟩; have hcells := HSF.out _ hbs))
      all_goals go_wp2
      all_goals
        go_roundw
        case rel => exact ⟨k + 1, by omega, by go_num, by rw [HN.out], by assumption⟩
        case measure => simp [intOf]; omega
    · obtain rfl : k = l.length := by omega
      have HF : Hid (txt (encSp l) = txt (encU l.length ++ encSps (l.take l.length))) := Lib.hid (by rw [List.take_length]; rfl)
      clear hb
      go_wp2
      go_ret
      exact ⟨by rw [HF.out]; rfl, HB.out⟩
theorem flags_bits (I V : Nat) (hI : I < 4) (hV : V < 2) : nb I 2 ++ nb V 1 ++ [false, false, false, false, false] = nb ((2 * I + V) * 32) 8 := by
  have h : ∀ (i : Fin 4) (v : Fin 2), nb i.val 2 ++ nb v.val 1 ++ [false, false, false, false, false] = nb ((2 * i.val + v.val) * 32) 8 := by decide +kernel
  exact h ⟨I, hI⟩ ⟨V, hV⟩
structure Sb (w : World) (o : Obj) (W : World) : Prop where
  b : Below w.heap.size w W
  o : W.heap[w.heap.size]? = some o
theorem Sb.drew {w W : World} {o : Obj} (h : Sb w o W) : Sb w o W.drew := ⟨below_drew h.b, h.o⟩
theorem Sb.below {w W W2 : World} {o : Obj} (h : Sb w o W) (hb : Below W.heap.size W W2) : Sb w o W2 := ⟨below_then h.b h.b.size hb, (Ch.of_below (S := fun _ => False) hb).blk h.o (fun x => x)⟩
set_option maxRecDepth 100000 in
set_option maxHeartbeats 3200000 in
theorem Bits14_calls (h : Hd) (p : Lc) (w : World) (hh : HdIn w h p) (he : (headErr h).1 = 0) :
    Calls Tryz.prog 23 #[.agg (hcs h p).toArray] w fun e w' => e = .returned (.string (txt (encH h))) ∧ Below w.heap.size w w' := by
  obtain ⟨hv, hi0, hi3, hs0, hs8, -, hsp, hsn⟩ := err_zero he
  obtain ⟨vr, hint, schema, zt, pos, neg⟩ := h
  obtain ⟨A, c, B, d⟩ := p
  obtain ⟨hp, hn, hz⟩ := hh
  simp only at *
  obtain ⟨V, rfl⟩ := Int.eq_ofNat_of_zero_le (show 0 ≤ vr by omega)
  obtain ⟨I, rfl⟩ := Int.eq_ofNat_of_zero_le hi0
  show Calls Tryz.prog 23 #[.agg #[.int .i64 V, .int .i64 I, .int .i64 schema, .int .u64 zt, .slice A pos.length c, .slice B neg.length d]] w _
  obtain ⟨o1, ho1, hs1⟩ : ∃ o1 : Obj, o1 = (.cells #[.int .i64 V, .int .i64 I, .int .i64 schema, .int .u64 zt, .slice A pos.length c, .slice B neg.length d] 41 (0, 0)) ∧ Sb w o1 (w.alloc (.cells #[.int .i64 V, .int .i64 I, .int .i64 schema, .int .u64 zt, .slice A pos.length c, .slice B neg.length d] 41)) := ⟨_, rfl, below_alloc (Below.refl _ _) _, blk_last w _⟩
  have HSF : Hid (∀ W, Sb w o1 W → (Sb w o1 W ∧ W.cell? ⟨w.heap.size, 0, none⟩ = some (.int .i64 (V : Int)) ∧ W.cell? ⟨w.heap.size, 1, none⟩ = some (.int .i64 (I : Int)) ∧ W.cell? ⟨w.heap.size, 2, none⟩ = some (.int .i64 schema) ∧ W.cell? ⟨w.heap.size, 3, none⟩ = some (.int .u64 zt) ∧ W.cell? ⟨w.heap.size, 4, none⟩ = some (.slice A pos.length c) ∧ W.cell? ⟨w.heap.size, 5, none⟩ = some (.slice B neg.length d))) := Lib.hid (fun W h => by
    subst ho1
    exact ⟨h, obj_cell h.o rfl, obj_cell h.o rfl, obj_cell h.o rfl, obj_cell h.o rfl, obj_cell h.o rfl, obj_cell h.o rfl⟩)
  have HS0 := Lib.hid hs1
  have HNI := Lib.hid (fun W => number_calls I 2 W (by omega) (by decide))
  have HNV := Lib.hid (fun W => number_calls V 1 W (by omega) (by decide))
  have HSC : Hid (∀ W, Sb w o1 W → Calls Tryz.prog 81 #[.int .i64 schema] W fun e w' => e = .returned (.string (txt (encS schema))) ∧ Sb w o1 w') := Lib.hid (fun W h => (S_calls schema W (by omega) (by omega)).mono fun e w' ⟨a, b⟩ => ⟨a, h.below b⟩)
  have HZC := Lib.hid (fun W => Bits12_calls zt W hz)
  have HPC : Hid (∀ W, Sb w o1 W → Calls Tryz.prog 83 #[.slice A pos.length c] W fun e w' => e = .returned (.string (txt (encSp pos))) ∧ Sb w o1 w') := Lib.hid (fun W h => (Spans_calls A c pos W (hp.below h.b).rd (sides_in hsp).1 (sides_in hsp).2).mono fun e w' ⟨a, b⟩ => ⟨a, h.below b⟩)
  have HNC : Hid (∀ W, Sb w o1 W → Calls Tryz.prog 83 #[.slice B neg.length d] W fun e w' => e = .returned (.string (txt (encSp neg))) ∧ Sb w o1 w') := Lib.hid (fun W h => (Spans_calls B d neg W (hn.below h.b).rd (sides_in hsn).1 (sides_in hsn).2).mono fun e w' ⟨a, b⟩ => ⟨a, h.below b⟩)
  have HE : Hid (txt (encH ⟨(V : Int), (I : Int), schema, zt, pos, neg⟩) = txt (nb I 2) ++ txt (nb V 1) ++ ⟨#[48, 48, 48, 48, 48]⟩ ++ txt (encS schema) ++ txt (encT zt) ++ txt (encSp pos) ++ txt (encSp neg)) := Lib.hid (by
    have h5 : (⟨#[48, 48, 48, 48, 48]⟩ : ByteArray) = txt [false, false, false, false, false] := rfl
    rw [h5, ← txt_append, ← txt_append, ← txt_append, ← txt_append, ← txt_append, ← txt_append, flags_bits I V (by omega) (by omega)]
    simp [encH])
  have l1 : (txt (nb I 2)).size ≤ 2 := by rw [txt_size, nb_length]; exact Nat.le_refl _
  have l2 : (txt (nb V 1)).size ≤ 1 := by rw [txt_size, nb_length]; exact Nat.le_refl _
  have l3 : (txt (encS schema)).size ≤ 72 := by rw [txt_size]; exact encS_le _
  have l4 : (txt (encT zt)).size ≤ 72 := by rw [txt_size]; exact encT_length _
  have l5 : (txt (encSp pos)).size ≤ 200000 := by rw [txt_size]; have h1 := encSp_le pos; have h2 := (sides_in hsp).1; omega
  have l6 : (txt (encSp neg)).size ≤ 200000 := by rw [txt_size]; have h1 := encSp_le neg; have h2 := (sides_in hsn).1; omega
  have hwI : IntKind.u64.wrap (I : Int) = (I : Int) := by rw [IntKind.wrap_u64]; omega
  have hwV : IntKind.u64.wrap (V : Int) = (V : Int) := by rw [IntKind.wrap_u64]; omega
  obtain ⟨sI, hsI⟩ : ∃ s, s = txt (nb I 2) := ⟨_, rfl⟩
  obtain ⟨sV, hsV⟩ : ∃ s, s = txt (nb V 1) := ⟨_, rfl⟩
  obtain ⟨sS, hsS⟩ : ∃ s, s = txt (encS schema) := ⟨_, rfl⟩
  obtain ⟨sZ, hsZ⟩ : ∃ s, s = txt (encT zt) := ⟨_, rfl⟩
  obtain ⟨sP, hsP⟩ : ∃ s, s = txt (encSp pos) := ⟨_, rfl⟩
  obtain ⟨sN, hsN⟩ : ∃ s, s = txt (encSp neg) := ⟨_, rfl⟩
  rw [← hsI] at HNI HE l1
  rw [← hsV] at HNV HE l2
  rw [← hsS] at HSC HE l3
  rw [← hsZ] at HZC HE l4
  rw [← hsP] at HPC HE l5
  rw [← hsN] at HNC HE l6
  have hz5 : (⟨#[48, 48, 48, 48, 48]⟩ : ByteArray).size = 5 := rfl
  have a0 : ¬ (9223372036854775807 < sI.size + sV.size) := by omega
  have a1 : ¬ (9223372036854775807 < sI.size + sV.size + 5) := by omega
  have a2 : ¬ (9223372036854775807 < sI.size + sV.size + 5 + sS.size) := by omega
  have a3 : ¬ (9223372036854775807 < sI.size + sV.size + 5 + sS.size + sZ.size) := by omega
  have a4 : ¬ (9223372036854775807 < sI.size + sV.size + 5 + sS.size + sZ.size + sP.size) := by omega
  have a5 : ¬ (9223372036854775807 < sI.size + sV.size + 5 + sS.size + sZ.size + sP.size + sN.size) := by omega
  clear hv hi0 hi3 hs0 hs8 hsp hsn hp hn hz he ho1 hs1 hsI hsV hsS hsZ hsP hsN
  go_enter Tryz.func23, Tryz.ntmps23
  go_wp2_with (fail)
  go_region_held3 (fun W => Sb w o1 W ∧ W.cell? ⟨w.heap.size, 0, none⟩ = some (.int .i64 (V : Int)) ∧ W.cell? ⟨w.heap.size, 1, none⟩ = some (.int .i64 (I : Int)) ∧ W.cell? ⟨w.heap.size, 2, none⟩ = some (.int .i64 schema) ∧ W.cell? ⟨w.heap.size, 3, none⟩ = some (.int .u64 zt) ∧ W.cell? ⟨w.heap.size, 4, none⟩ = some (.slice A pos.length c) ∧ W.cell? ⟨w.heap.size, 5, none⟩ = some (.slice B neg.length d))
    (first | (with_reducible exact HSF.out _ (Sb.drew HS0.out)) | (with_reducible exact HSF.out _ hst))
    (first
    | (go_at_call 80; (with_reducible show Calls _ _ #[_, Value.int .i64 2] _ _); refine (HNI.out _).mono ?_; rintro e w2 ⟨rfl, rfl⟩; have hst := Sb.drew HS0.out; have hcells := HSF.out _ hst)
    | (go_at_call 80; (with_reducible show Calls _ _ #[_, Value.int .i64 1] _ _); refine (HNV.out _).mono ?_; rintro e w2 ⟨rfl, rfl⟩)
    | (go_at_call 81; refine (HSC.out _ (by first | (with_reducible exact hst) | (with_reducible exact Sb.drew HS0.out))).mono ?_; rintro e w3 ⟨rfl, hst⟩; have hcells := HSF.out _ hst)
    | (go_at_call 82; refine (HZC.out _).mono ?_; rintro e w4 ⟨rfl, rfl⟩)
    | (go_at_call 83; (with_reducible show Calls _ _ #[Value.slice A pos.length c] _ _); refine (HPC.out _ hst).mono ?_; rintro e w5 ⟨rfl, hst⟩; have hcells := HSF.out _ hst)
    | (go_at_call 83; refine (HNC.out _ hst).mono ?_; rintro e w6 ⟨rfl, hst⟩; have hcells := HSF.out _ hst))
  have HF := Lib.hid hst.b
  go_wp2
  go_ret
  exact ⟨by rw [HE.out]; rfl, HF.out⟩
end Go.Proofs.YtjfekjbmgckkcaaGreatDoor.Ref14B
namespace Go.Proofs.YtjfekjbmgckkcaaGreatDoor.Ref01
open Go.RowKit Go.Proofs.YtjfekjbmgckkcaaGreatDoorW.PrintWords
open Go.Proofs.YtjfekjbmgckkcaaGreatDoor.Bits Go.Proofs.YtjfekjbmgckkcaaGreatDoor.Base
set_option maxHeartbeats 1600000 in
theorem bytes_calls (l : List Bool) (w : World) (hn : l.length ≤ 1000000000) :
    Calls Tryz.prog 103 #[.string (txt l)] w fun e w' => e = .returned (.string (str (pack l))) ∧ Below w.heap.size w w' := by
  have hs := txt_size l
  obtain ⟨s, hS⟩ : ∃ s, s = txt l := ⟨_, rfl⟩
  have hat := fun (k : Nat) (h : k < l.length) (h' : k < s.size) => show (s[k]'h').toNat = (sign l[k]).toNat by subst hS; exact txt_at l k h h'
  rw [← hS] at hs ⊢
  clear hS
  have HS := Lib.hid hs
  have hsl : s.size ≤ 1000000000 := by omega
  have HAT := Lib.hid hat
  have HP := Lib.hid (pack_length l)
  clear hs hat
  go_enter Tryz.func103, Tryz.ntmps103
  go_wp2
  go_loopw [3, 4] (fun x i wr => ∃ j : Nat, 8 * j ≤ s.size + 7 ∧ i = .int .i64 ((8 * j : Nat) : Int) ∧ x = .string (str ((pack l).take j)) ∧ Below w.heap.size w wr) (fun _ i _ => s.size + 8 - (intOf i).toNat)
  case atStart => exact ⟨0, by omega, rfl, rfl, Below.refl _ _⟩
  case round =>
    obtain ⟨j, hj, rfl, rfl, hb⟩ := hrel
    have HB := Lib.hid hb
    have hb0 := hb.size
    clear hb
    have hjj : ((8 * j : Nat) : Int) = 8 * (j : Int) := by omega
    rw [hjj]
    clear hjj
    by_cases hlt : 8 * j < s.size
    · obtain ⟨wo, hwo⟩ : ∃ wo : World, wo = wr := ⟨_, rfl⟩
      subst hwo
      have hdj : decide (8 * (j : Int) < (s.size : Int)) = true := by simp; omega
      have hst : (str ((pack l).take j)).size ≤ 1000000000 := by rw [str_size, List.length_take]; have := HP.out; have := HS.out; omega
      go_wp2
      go_loop [5, 6] (fun x i => ∃ k : Nat, k ≤ 8 ∧ i = .int .i64 k ∧ x = .int .u8 (val ((eight l j).take k))) (fun _ i => 8 - (intOf i).toNat)
      case atStart => exact ⟨0, by omega, rfl, rfl⟩
      case round =>
        obtain ⟨k, hk, rfl, rfl⟩ := hrel
        by_cases hk8 : k < 8
        · have h3 := eight_lt l j (k + 1) (by omega)
          by_cases hin : 8 * j + k < s.size
          · have hkl : 8 * j + k < l.length := by have := HS.out; omega
            have h1 := HAT.out (8 * j + k) hkl hin
            have h2 := eight_take l j k (eight_in l j k hkl)
            obtain ⟨q, hq⟩ : ∃ q, q = val ((eight l j).take k) := ⟨_, rfl⟩
            rw [← hq] at h2 ⊢
            have hd : decide (8 * (j : Int) + (k : Int) < (s.size : Int)) = true := by simp; omega
            clear hq
            cases hv : l[8 * j + k] with
            | true =>
              rw [hv] at h1 h2
              have h5 : (((s[8 * j + k]'hin).toNat : Int) == 49) = true := by rw [h1]; rfl
              have hq1 : 2 * q + 1 < 256 := by simp at h2; omega
              have H2 := Lib.hid h2
              clear h1 h2 h3 hv
              go_wp2
              go_round
              case rel => exact ⟨k + 1, by omega, by go_num, by rw [H2.out]; rfl⟩
              case measure => simp [intOf]; omega
            | false =>
              rw [hv] at h1 h2
              have h5 : (((s[8 * j + k]'hin).toNat : Int) == 49) = false := by rw [h1]; rfl
              have hq1 : 2 * q < 256 := by simp at h2; omega
              have H2 := Lib.hid h2
              clear h1 h2 h3 hv
              go_wp2
              go_round
              case rel => exact ⟨k + 1, by omega, by go_num, by rw [H2.out]; rfl⟩
              case measure => simp [intOf]; omega
          · have h2 := eight_take l j k (eight_out l j k (by have := HS.out; omega) (by have := HS.out; omega) hk8)
            obtain ⟨q, hq⟩ : ∃ q, q = val ((eight l j).take k) := ⟨_, rfl⟩
            rw [← hq] at h2 ⊢
            have hd : decide (8 * (j : Int) + (k : Int) < (s.size : Int)) = false := by simp; omega
            have hq1 : 2 * q < 256 := by simp at h2; omega
            have H2 := Lib.hid h2
            clear h2 h3 hq
            go_wp2
            go_round
            case rel => exact ⟨k + 1, by omega, by go_num, by rw [H2.out]; rfl⟩
            case measure => simp [intOf]; omega
        · obtain rfl : k = 8 := by omega
          have h3 := eight_lt l j 8 (by omega)
          obtain ⟨q, hq⟩ : ∃ q, q = val ((eight l j).take 8) := ⟨_, rfl⟩
          rw [← hq] at h3 ⊢
          have hc : (q : Int) = ((byte ((eight l j).take 8)).toNat : Int) := by rw [byte, UInt8.toNat_ofNat', ← hq]; omega
          have hcv := string_one (P := Tryz.prog) (src := 51) (dst := 9) (e := 5) (q : Int) _ hc Tryz.underlying51 Tryz.underlying5 Tryz.underlying9 wo
          obtain ⟨b, hbq⟩ : ∃ b, b = byte ((eight l j).take 8) := ⟨_, rfl⟩
          rw [← hbq] at hcv
          have hsb : (str [b]).size = 1 := str_size [b]
          have HG := Lib.hid (pack_get j l (by have := HS.out; omega))
          have HBQ := Lib.hid hbq
          clear hq hc h3 hbq
          go_wp2
          go_roundw
          case rel => exact ⟨j + 1, by omega, by go_num, by rw [take_byte HG.out, str_append]; rw [HBQ.out]; rfl, below_alloc HB.out _⟩
          case measure => simp [intOf]; omega
    · have hfull : (pack l).take j = pack l := List.take_of_length_le (by have := HP.out; have := HS.out; omega)
      rw [hfull]
      go_wp2
      go_ret
      exact ⟨rfl, HB.out⟩
end Go.Proofs.YtjfekjbmgckkcaaGreatDoor.Ref01
namespace Go.Proofs.YtjfekjbmgckkcaaGreatDoor.HdArg
open Go.RowKit Go.Proofs.YtjfekjbmgckkcaaGreatDoorW.PrintWords
open Go.Proofs.YtjfekjbmgckkcaaGreatDoor.Base Go.Proofs.YtjfekjbmgckkcaaGreatDoor.SpanPure Go.Proofs.YtjfekjbmgckkcaaGreatDoor.SpanBase Go.Proofs.YtjfekjbmgckkcaaGreatDoor.HeadA Go.Proofs.YtjfekjbmgckkcaaGreatDoor.HeadB Go.Proofs.YtjfekjbmgckkcaaGreatDoor.Law14A
structure HdRd (w : World) (h : Hd) (p : Lc) : Prop where
  pos : RdSp w p.A h.pos
  neg : RdSp w p.B h.neg
  lp : h.pos.length ≤ 9223372036854775807
  ln : h.neg.length ≤ 9223372036854775807
theorem HdRd.below {w W : World} {h : Hd} {p : Lc} (x : HdRd w h p) (hb : Below w.heap.size w W) : HdRd W h p := ⟨x.pos.below hb, x.neg.below hb, x.lp, x.ln⟩
theorem rd_sp {w : World} {A : Option Addr} {l : List (Int × Int)} (h : RdC w A (Rep.all (Rep.pair (Rep.int .i64) (Rep.int .i64)) l)) : RdSp w A l := h
abbrev rSp : Rep.Rep (Int × Int) := Rep.pair (Rep.int .i64) (Rep.int .i64)
abbrev rHd : Rep.Rep (Int × Int × Int × Int × Rep.Sl (Int × Int) × Rep.Sl (Int × Int)) := Rep.pair (Rep.int .i64) (Rep.pair (Rep.int .i64) (Rep.pair (Rep.int .i64) (Rep.pair (Rep.int .u64) (Rep.pair (Rep.slice rSp) (Rep.slice rSp)))))
def hdOf (x : Int × Int × Int × Int × Rep.Sl (Int × Int) × Rep.Sl (Int × Int)) : Hd := ⟨x.1, x.2.1, x.2.2.1, x.2.2.2.1.toNat, x.2.2.2.2.1.l, x.2.2.2.2.2.l⟩
def lcOf (x : Int × Int × Int × Int × Rep.Sl (Int × Int) × Rep.Sl (Int × Int)) : Lc := ⟨x.2.2.2.2.1.at_, x.2.2.2.2.1.cap, x.2.2.2.2.2.at_, x.2.2.2.2.2.cap⟩
theorem u64_in {n : Int} (h : (Lit.int .u64 n).wf = true) : 0 ≤ n ∧ n < 18446744073709551616 := by
  simp [Lit.wf, IntKind.min, IntKind.max, IntKind.bits, IntKind.signed] at h
  omega
theorem enc_hd {w : World} {x : Int × Int × Int × Int × Rep.Sl (Int × Int) × Rep.Sl (Int × Int)} (h : rHd.ok w x) : rHd.enc x = hcs (hdOf x) (lcOf x) ∧ HdRd w (hdOf x) (lcOf x) ∧ (hdOf x).zero < 18446744073709551616 ∧
    (x.2.2.2.2.1.l.length ≤ x.2.2.2.2.1.cap ∧ (x.2.2.2.2.1.at_ = none → x.2.2.2.2.1.cap = 0)) ∧ (x.2.2.2.2.2.l.length ≤ x.2.2.2.2.2.cap ∧ (x.2.2.2.2.2.at_ = none → x.2.2.2.2.2.cap = 0)) := by
  obtain ⟨v, i, s, z, p, q⟩ := x
  obtain ⟨h1, h2, h3, h4, ⟨h5, -⟩, ⟨h6, -⟩⟩ := h
  have hz := u64_in h4
  have e1 := h5.le
  have e2 := h5.max
  have e3 := h6.le
  have e4 := h6.max
  unfold maxLen at e2 e4
  simp only at e1 e2 e3 e4 hz
  refine ⟨?_, ⟨rd_sp h5.rd, rd_sp h6.rd, ?_, ?_⟩, ?_, ⟨h5.le, h5.nil⟩, ⟨h6.le, h6.nil⟩⟩
  · show [Value.int .i64 v, .int .i64 i, .int .i64 s, .int .u64 z, .slice p.at_ p.l.length p.cap, .slice q.at_ q.l.length q.cap] = [Value.int .i64 v, .int .i64 i, .int .i64 s, .int .u64 (z.toNat : Int), .slice p.at_ p.l.length p.cap, .slice q.at_ q.l.length q.cap]
    rw [Int.toNat_of_nonneg hz.1]
  · show p.l.length ≤ _
    omega
  · show q.l.length ≤ _
    omega
  · show z.toNat < _
    omega
theorem hdin_of {w : World} {x : Int × Int × Int × Int × Rep.Sl (Int × Int) × Rep.Sl (Int × Int)} (h : rHd.ok w x) (h1 : few (hdOf x).pos = true) (h2 : few (hdOf x).neg = true) : HdIn w (hdOf x) (lcOf x) := by
  obtain ⟨-, ⟨g1, g2, -, -⟩, g5, g6, g7⟩ := enc_hd h
  exact ⟨⟨g1, Nat.le_trans (few_len h1) (by decide), g6.1, g6.2⟩, ⟨g2, Nat.le_trans (few_len h2) (by decide), g7.1, g7.2⟩, g5⟩
end Go.Proofs.YtjfekjbmgckkcaaGreatDoor.HdArg
namespace Go.Proofs.YtjfekjbmgckkcaaGreatDoor.Law15D
open Go.RowKit Go.Proofs.YtjfekjbmgckkcaaGreatDoorW.PrintWords
open Go.Proofs.YtjfekjbmgckkcaaGreatDoor.Bits Go.Proofs.YtjfekjbmgckkcaaGreatDoor.Base Go.Proofs.YtjfekjbmgckkcaaGreatDoor.VarPure Go.Proofs.YtjfekjbmgckkcaaGreatDoor.VarbitA Go.Proofs.YtjfekjbmgckkcaaGreatDoor.VarKit Go.Proofs.YtjfekjbmgckkcaaGreatDoor.StreamA Go.Proofs.YtjfekjbmgckkcaaGreatDoor.TimesPure Go.Proofs.YtjfekjbmgckkcaaGreatDoor.Ref01 Go.Proofs.YtjfekjbmgckkcaaGreatDoor.Ref14B Go.Proofs.YtjfekjbmgckkcaaGreatDoor.SpanPure Go.Proofs.YtjfekjbmgckkcaaGreatDoor.SpanBase Go.Proofs.YtjfekjbmgckkcaaGreatDoor.FailAs Go.Proofs.YtjfekjbmgckkcaaGreatDoor.FailB Go.Proofs.YtjfekjbmgckkcaaGreatDoor.FailC Go.Proofs.YtjfekjbmgckkcaaGreatDoor.HeadA Go.Proofs.YtjfekjbmgckkcaaGreatDoor.HeadB Go.Proofs.YtjfekjbmgckkcaaGreatDoor.HeadC Go.Proofs.YtjfekjbmgckkcaaGreatDoor.HeadE Go.Proofs.YtjfekjbmgckkcaaGreatDoor.HeadPure Go.Proofs.YtjfekjbmgckkcaaGreatDoor.CkPure Go.Proofs.YtjfekjbmgckkcaaGreatDoor.CkObj Go.Proofs.YtjfekjbmgckkcaaGreatDoor.CkD Go.Proofs.YtjfekjbmgckkcaaGreatDoor.CkH Go.Proofs.YtjfekjbmgckkcaaGreatDoor.CkI Go.Proofs.YtjfekjbmgckkcaaGreatDoor.CkJ Go.Proofs.YtjfekjbmgckkcaaGreatDoor.Law14A Go.Proofs.YtjfekjbmgckkcaaGreatDoor.HdArg
set_option maxRecDepth 100000 in
set_option maxHeartbeats 3200000 in
theorem small0_calls (q : Hd) (p : Lc) (w : World) (hx : HdRd w q p) :
    Calls Tryz.prog 52 #[.agg (hcs q p).toArray, .slice none 0 0] w fun e w' => e = .returned (.bool (few q.pos && few q.neg)) ∧ Below w.heap.size w w' := by
  obtain ⟨vr, hint, schema, zt, pos, neg⟩ := q
  obtain ⟨A, c, B, d⟩ := p
  show Calls Tryz.prog 52 #[.agg #[.int .i64 vr, .int .i64 hint, .int .i64 schema, .int .u64 zt, .slice A pos.length c, .slice B neg.length d], .slice none 0 0] w _
  obtain ⟨W0, hW0, hbk, hal⟩ : ∃ W0 : World, W0 = w.alloc (.cells #[.int .i64 vr, .int .i64 hint, .int .i64 schema, .int .u64 zt, .slice A pos.length c, .slice B neg.length d] 25) ∧ W0.heap[w.heap.size]? = some (.cells #[.int .i64 vr, .int .i64 hint, .int .i64 schema, .int .u64 zt, .slice A pos.length c, .slice B neg.length d] 25 (0, 0)) ∧ Below w.heap.size w W0 := ⟨_, rfl, blk_last w _, below_alloc (Below.refl _ _) _⟩
  have HCEL : Hid (∀ W : World, Below W0.heap.size W0 W → (W.cell? ⟨w.heap.size, 0, none⟩ = some (.int .i64 vr) ∧ W.cell? ⟨w.heap.size, 1, none⟩ = some (.int .i64 hint) ∧ W.cell? ⟨w.heap.size, 2, none⟩ = some (.int .i64 schema) ∧ W.cell? ⟨w.heap.size, 3, none⟩ = some (.int .u64 zt) ∧ W.cell? ⟨w.heap.size, 4, none⟩ = some (.slice A pos.length c) ∧ W.cell? ⟨w.heap.size, 5, none⟩ = some (.slice B neg.length d))) := Lib.hid (fun W h => by
    have hb := (h.block _ (blk_lt hbk)).trans hbk
    exact ⟨obj_cell hb rfl, obj_cell hb rfl, obj_cell hb rfl, obj_cell hb rfl, obj_cell hb rfl, obj_cell hb rfl⟩)
  have HP := Lib.hid (fun W (h : Below W0.heap.size W0 W) => Law15A.few_calls A c pos W ((hx.below hal).below h).pos hx.lp)
  have HN := Lib.hid (fun W (h : Below W0.heap.size W0 W) => Law15A.few_calls B d neg W ((hx.below hal).below h).neg hx.ln)
  have HW0 := Lib.hid hW0
  have HAL := Lib.hid hal
  obtain ⟨k0, k1, k2, k3, k4, k5⟩ := HCEL.out W0 (Below.refl _ _)
  have B0 := Lib.hid (Below.refl W0.heap.size W0)
  clear hx hbk hal hW0
  simp only at HP HN ⊢
  cases h1 : few pos with
  | false =>
    rw [h1] at HP
    clear h1
    go_enter Tryz.func52, Tryz.ntmps52
    go_wp2_with (fail)
    rw [← HW0.out]
    refine (HP.out _ B0.out).mono ?_
    rintro e w1 ⟨rfl, hb1⟩
    have B1 := Lib.hid (below_then HAL.out HAL.out.size hb1)
    clear hb1
    go_wp2
    go_ret
    exact ⟨rfl, B1.out⟩
  | true =>
    rw [h1] at HP
    clear h1
    cases h2 : few neg with
    | false =>
      rw [h2] at HN
      clear h2
      go_enter Tryz.func52, Tryz.ntmps52
      go_wp2_with (fail)
      rw [← HW0.out]
      refine (HP.out _ B0.out).mono ?_
      rintro e w1 ⟨rfl, hb1⟩
      have B1 := Lib.hid hb1
      obtain ⟨k0, k1, k2, k3, k4, k5⟩ := HCEL.out w1 hb1
      clear hb1
      go_wp2_with (fail)
      refine (HN.out _ B1.out).mono ?_
      rintro e w2 ⟨rfl, hb2⟩
      have B2 := Lib.hid (below_then HAL.out HAL.out.size (below_then B1.out B1.out.size hb2))
      clear hb2
      go_wp2
      go_ret
      exact ⟨rfl, B2.out⟩
    | true =>
      rw [h2] at HN
      clear h2
      go_enter Tryz.func52, Tryz.ntmps52
      go_wp2_with (fail)
      rw [← HW0.out]
      refine (HP.out _ B0.out).mono ?_
      rintro e w1 ⟨rfl, hb1⟩
      have B1 := Lib.hid hb1
      obtain ⟨k0, k1, k2, k3, k4, k5⟩ := HCEL.out w1 hb1
      clear hb1
      go_wp2_with (fail)
      refine (HN.out _ B1.out).mono ?_
      rintro e w2 ⟨rfl, hb2⟩
      have B2 := Lib.hid (below_then HAL.out HAL.out.size (below_then B1.out B1.out.size hb2))
      clear hb2
      go_wp2_with (fail)
      go_loopw [6, 24] (fun _ i wr => i = .int .i64 0 ∧ Below w.heap.size w wr) (fun _ _ _ => 0)
      case atStart => exact ⟨rfl, B2.out⟩
      case round =>
        obtain ⟨rfl, hb⟩ := hrel
        have BB := Lib.hid hb
        clear hb
        go_wp2
        go_ret
        exact ⟨rfl, BB.out⟩
set_option maxRecDepth 100000 in
set_option maxHeartbeats 3200000 in
theorem bits0_calls (q : Hd) (p : Lc) (w : World) (hx : HdIn w q p) (he : (headErr q).1 = 0) :
    Calls Tryz.prog 129 #[.agg (hcs q p).toArray, .slice none 0 0] w fun e w' => e = .returned (.string (txt (allBits q []))) ∧ Below w.heap.size w w' := by
  have HTX : Hid (txt (allBits q []) = txt (nb 0 16) ++ txt (encH q)) := Lib.hid (by
    rw [← txt_append]
    unfold allBits chunkB
    rw [bitsB_nil, List.append_nil]
    rfl)
  rw [HTX.out]
  have hle : (encH q).length ≤ 400000 := by
    obtain ⟨-, -, -, -, -, -, g7, g8⟩ := err_zero he
    have h1 := encSp_le q.pos
    have h2 := encSp_le q.neg
    have h3 := encS_le q.schema
    have h4 := ThrPure.encT_length q.zero
    have h5 := (sides_in g7).1
    have h6 := (sides_in g8).1
    simp only [encH, List.length_append, nb_length]
    omega
  have z1 := txt_size (nb 0 16)
  have z2 := txt_size (encH q)
  rw [nb_length] at z1
  have HB := Lib.hid (fun W (h : Below w.heap.size w W) => Bits14_calls q p W (hx.below h) he)
  have HNU : Hid (∀ W, Calls Tryz.prog 80 #[.int .u64 0, .int .i64 16] W fun e w' => e = .returned (.string (txt (nb 0 16))) ∧ W = w') := Lib.hid (fun W => number_calls 0 16 W (by decide) (by decide))
  obtain ⟨sN, hN⟩ : ∃ s, s = txt (nb 0 16) := ⟨_, rfl⟩
  obtain ⟨sE, hE⟩ : ∃ s, s = txt (encH q) := ⟨_, rfl⟩
  rw [← hN] at z1 HNU ⊢
  rw [← hE] at z2 HB ⊢
  have n1 : ¬ (9223372036854775807 < sN.size + sE.size) := by omega
  obtain ⟨vr, hint, schema, zt, pos, neg⟩ := q
  obtain ⟨A, c, B, d⟩ := p
  obtain ⟨W0, hW0, hbk, hal⟩ : ∃ W0 : World, W0 = w.alloc (.cells #[.int .i64 vr, .int .i64 hint, .int .i64 schema, .int .u64 zt, .slice A pos.length c, .slice B neg.length d] 41) ∧ W0.heap[w.heap.size]? = some (.cells #[.int .i64 vr, .int .i64 hint, .int .i64 schema, .int .u64 zt, .slice A pos.length c, .slice B neg.length d] 41 (0, 0)) ∧ Below w.heap.size w W0 := ⟨_, rfl, blk_last w _, below_alloc (Below.refl _ _) _⟩
  have HS : Hid (∀ W : World, Below W0.heap.size W0 W → (Below W0.heap.size W0 W ∧ W.cell? ⟨w.heap.size, 0, none⟩ = some (.int .i64 vr) ∧ W.cell? ⟨w.heap.size, 1, none⟩ = some (.int .i64 hint) ∧ W.cell? ⟨w.heap.size, 2, none⟩ = some (.int .i64 schema) ∧ W.cell? ⟨w.heap.size, 3, none⟩ = some (.int .u64 zt) ∧ W.cell? ⟨w.heap.size, 4, none⟩ = some (.slice A pos.length c) ∧ W.cell? ⟨w.heap.size, 5, none⟩ = some (.slice B neg.length d))) := Lib.hid (fun W h => by
    have hb := (h.block _ (blk_lt hbk)).trans hbk
    exact ⟨h, obj_cell hb rfl, obj_cell hb rfl, obj_cell hb rfl, obj_cell hb rfl, obj_cell hb rfl, obj_cell hb rfl⟩)
  have HB : Hid (∀ W, Below W0.heap.size W0 W → Calls Tryz.prog 23 #[.agg #[.int .i64 vr, .int .i64 hint, .int .i64 schema, .int .u64 zt, .slice A pos.length c, .slice B neg.length d]] W fun e w' => e = .returned (.string sE) ∧ Below W0.heap.size W0 w') := Lib.hid (fun W h => lift h h.size (HB.out W (below_then hal hal.size h)))
  have HW0 := Lib.hid hW0
  have HAL := Lib.hid hal
  have hs0 := HS.out W0 (Below.refl _ _)
  clear hx he hN hE hbk hal hW0 hle z1 z2 HTX
  show Calls Tryz.prog 129 #[.agg #[.int .i64 vr, .int .i64 hint, .int .i64 schema, .int .u64 zt, .slice A pos.length c, .slice B neg.length d], .slice none 0 0] w _
  go_enter Tryz.func129, Tryz.ntmps129
  go_wp2_with (fail)
  rw [← HW0.out]
  go_region_held3 (fun W => Below W0.heap.size W0 W ∧ W.cell? ⟨w.heap.size, 0, none⟩ = some (.int .i64 vr) ∧ W.cell? ⟨w.heap.size, 1, none⟩ = some (.int .i64 hint) ∧ W.cell? ⟨w.heap.size, 2, none⟩ = some (.int .i64 schema) ∧ W.cell? ⟨w.heap.size, 3, none⟩ = some (.int .u64 zt) ∧ W.cell? ⟨w.heap.size, 4, none⟩ = some (.slice A pos.length c) ∧ W.cell? ⟨w.heap.size, 5, none⟩ = some (.slice B neg.length d))
    (first | (with_reducible exact HS.out _ (below_drew (Below.refl _ _))) | (with_reducible exact HS.out _ hb2) | assumption)
    (first
    | (go_at_call 80; refine (HNU.out _).mono ?_; rintro e w1 ⟨rfl, rfl⟩)
    | (go_at_call 23; refine (HB.out _ (And.left (by assumption))).mono ?_; rintro e w2 ⟨rfl, hb2⟩; have hs2 := HS.out _ hb2))
  have B2 := Lib.hid (below_then HAL.out HAL.out.size hb2)
  clear hb2 hs2 hs0
  go_wp2
  go_loopw [5, 6] (fun t i wr => t = .string (sN ++ sE) ∧ i = .int .i64 0 ∧ Below w.heap.size w wr) (fun _ _ _ => 0)
  case atStart => exact ⟨rfl, rfl, B2.out⟩
  case round =>
    obtain ⟨rfl, rfl, hb⟩ := hrel
    have BB := Lib.hid hb
    clear hb
    go_wp2
    go_ret
    exact ⟨rfl, BB.out⟩
set_option maxRecDepth 100000 in
set_option maxHeartbeats 6400000 in
theorem is0_calls (g : Nat) (S : Nat → Prop) (q : Hd) (p : Lc) (w : World) (hk : Ci w g S q []) (hx : HdIn w q p) (he : (headErr q).1 = 0) :
    Calls Tryz.prog 57 #[.pointer (some ⟨g, 0, none⟩), .agg (hcs q p).toArray, .slice none 0 0] w fun e w' => e = .returned (.bool true) ∧ Below w.heap.size w w' := by
  have hle : (encH q).length ≤ 400000 := by
    obtain ⟨-, -, -, -, -, -, g7, g8⟩ := err_zero he
    have h1 := encSp_le q.pos
    have h2 := encSp_le q.neg
    have h3 := encS_le q.schema
    have h4 := ThrPure.encT_length q.zero
    have h5 := (sides_in g7).1
    have h6 := (sides_in g8).1
    simp only [encH, List.length_append, nb_length]
    omega
  have hcb : (chunkB q []).length = (encH q).length := by unfold chunkB; rw [bitsB_nil, List.append_nil]
  have hsz := txt_size (allBits q [])
  have hab : (allBits q []).length = 16 + (chunkB q []).length := by unfold allBits; rw [List.length_append, nb_length]
  have HHD := Lib.hid (fun W (h : Below w.heap.size w W) => Law15B.heads_calls q p W (hx.below h))
  have HBT := Lib.hid (fun W (r : Lc) (h : HdIn W q r) => bits0_calls q r W h he)
  obtain ⟨x, hF⟩ := hk
  have HLA := Lib.hid (fun W (h : Below w.heap.size w W) => last_calls g S q [] x W (hF.below h))
  have HLE := Lib.hid (fun W (h : Below w.heap.size w W) => CkD.len_calls g S q [] x W (hF.below h))
  have HBI := Lib.hid (fun W (h : Below w.heap.size w W) => CkD.bits_calls g S q [] x W (hF.below h) (by omega))
  have HBY := Lib.hid (fun W (h : Below w.heap.size w W) => CkJ.bytes_calls g S q [] x W (hF.below h) (by omega) (by decide))
  have HRB := Lib.hid (fun W => Ref01.bytes_calls (allBits q []) W (by omega))
  have HHE := Lib.hid (fun W (h : Below w.heap.size w W) => head_calls g S q [] x W (hF.below h))
  have HEQ := Lib.hid (fun W (h : Below w.heap.size w W) (r : Lc) (hr : HdIn W q r) => Equal_calls q q r p W hr (hx.below h))
  rw [show eqH q q = true from decide_eq_true rfl] at HEQ
  obtain ⟨n, hn⟩ : ∃ n, n = (chunkB q []).length := ⟨_, rfl⟩
  rw [← hn] at HBI hab hcb
  rw [hab] at hsz
  obtain ⟨sT, hT⟩ : ∃ s, s = txt (allBits q []) := ⟨_, rfl⟩
  obtain ⟨sB, hB⟩ : ∃ s, s = str (pack (allBits q [])) := ⟨_, rfl⟩
  have HRS := Lib.hid (fun (A : Option Addr) (c : Nat) W (hr : RdB W A (pack (allBits q []))) => RdB.string (P := Tryz.prog) (src := 51) (dst := 9) (e := 5) (c := c) hr rfl Tryz.underlying51 Tryz.underlying5 Tryz.underlying9)
  rw [← hT] at HBT HRB hsz
  rw [← hB] at HRB HRS
  obtain ⟨m16, hm16⟩ : ∃ m, m = 16 + n := ⟨_, rfl⟩
  rw [← hm16] at HBI hsz
  have d1 : ((m16 : Int) != (sT.size : Int)) = false := by rw [hsz]; simp
  have d1' : ((m16 : Int) == (sT.size : Int)) = true := by rw [hsz]; simp
  have hm17 : m16 ≤ 500000 := by omega
  have HD1 := Lib.hid hsz
  clear hle hcb hab hn hT hB hm16 he hF hsz
  obtain ⟨vr, hint, schema, zt, pos, neg⟩ := q
  obtain ⟨A, c, B, d⟩ := p
  obtain ⟨W0, hW0, hbk, hal⟩ : ∃ W0 : World, W0 = w.alloc (.cells #[.int .i64 vr, .int .i64 hint, .int .i64 schema, .int .u64 zt, .slice A pos.length c, .slice B neg.length d] 25) ∧ W0.heap[w.heap.size]? = some (.cells #[.int .i64 vr, .int .i64 hint, .int .i64 schema, .int .u64 zt, .slice A pos.length c, .slice B neg.length d] 25 (0, 0)) ∧ Below w.heap.size w W0 := ⟨_, rfl, blk_last w _, below_alloc (Below.refl _ _) _⟩
  have HCEL : Hid (∀ W : World, Below W0.heap.size W0 W → (W.cell? ⟨w.heap.size, 0, none⟩ = some (.int .i64 vr) ∧ W.cell? ⟨w.heap.size, 1, none⟩ = some (.int .i64 hint) ∧ W.cell? ⟨w.heap.size, 2, none⟩ = some (.int .i64 schema) ∧ W.cell? ⟨w.heap.size, 3, none⟩ = some (.int .u64 zt) ∧ W.cell? ⟨w.heap.size, 4, none⟩ = some (.slice A pos.length c) ∧ W.cell? ⟨w.heap.size, 5, none⟩ = some (.slice B neg.length d))) := Lib.hid (fun W h => by
    have hb := (h.block _ (blk_lt hbk)).trans hbk
    exact ⟨obj_cell hb rfl, obj_cell hb rfl, obj_cell hb rfl, obj_cell hb rfl, obj_cell hb rfl, obj_cell hb rfl⟩)
  have HEND := Lib.hid (fun W (hb : Below W0.heap.size W0 W) => below_then hal hal.size hb)
  have HW0 := Lib.hid hW0
  have HAL := Lib.hid hal
  have HXX := Lib.hid hx
  obtain ⟨k0, k1, k2, k3, k4, k5⟩ := HCEL.out W0 (Below.refl _ _)
  clear hx hbk hal hW0
  show Calls Tryz.prog 57 #[.pointer (some ⟨g, 0, none⟩), .agg #[.int .i64 vr, .int .i64 hint, .int .i64 schema, .int .u64 zt, .slice A pos.length c, .slice B neg.length d], .slice none 0 0] w _
  go_enter Tryz.func57, Tryz.ntmps57
  go_wp2_with (fail)
  rw [← HW0.out]
  refine (HHD.out _ HAL.out).mono ?_
  rintro e w1 ⟨r, rfl, hr, hb1⟩
  obtain ⟨A1, c1, B1, d1⟩ := r
  have HBX := Lib.hid (HBT.out w1 _ hr)
  have X1 := Lib.hid hb1
  clear hr hb1 k0 k1 k2 k3 k4 k5
  dsimp only [hcs]
  go_wp2_with (fail)
  refine HBX.out.mono ?_
  rintro e w2 ⟨rfl, hb2⟩
  have X2 := Lib.hid (below_then X1.out X1.out.size hb2)
  clear hb2 HBX
  go_wp2_with (fail)
  refine (HLA.out _ (HEND.out _ X2.out)).mono ?_
  rintro e w3 ⟨r, rfl, -, -, hb3⟩
  rw [lastS_nil, show (Ending.returned (.tuple #[.agg (isc ⟨0, ⟨0, 0, 0, 0, 0, [], [], [], []⟩⟩ r).toArray, .bool (decide (0 < ([] : List IS).length))])) = Ending.returned (.tuple #[.agg #[.int .i64 0, .int .i64 0, .int .u64 0, .int .u64 0, .int .u64 0, .int .u64 0, .slice r.A 0 r.c, .slice r.B 0 r.d, .slice r.C 0 r.cc, .slice r.D 0 r.dd], .bool false]) from rfl]
  obtain ⟨W3, hW3, hg3, hb3'⟩ : ∃ W : World, W = w3.alloc (.cells #[.int .i64 0, .int .i64 0, .int .u64 0, .int .u64 0, .int .u64 0, .int .u64 0, .slice r.A 0 r.c, .slice r.B 0 r.d, .slice r.C 0 r.cc, .slice r.D 0 r.dd] 102) ∧ W.heap[w3.heap.size]? = some (.cells #[.int .i64 0, .int .i64 0, .int .u64 0, .int .u64 0, .int .u64 0, .int .u64 0, .slice r.A 0 r.c, .slice r.B 0 r.d, .slice r.C 0 r.cc, .slice r.D 0 r.dd] 102 (0, 0)) ∧ Below W0.heap.size W0 W := ⟨_, rfl, blk_last w3 _, (below_then X2.out X2.out.size hb3).alloc (below_then X2.out X2.out.size hb3).size _⟩
  have HW3 := Lib.hid hW3
  have X3 := Lib.hid hb3'
  have HG3 := Lib.hid hg3
  have HS : Hid (∀ W : World, Below W3.heap.size W3 W → (Below W3.heap.size W3 W ∧ W.cell? ⟨w.heap.size, 0, none⟩ = some (.int .i64 vr) ∧ W.cell? ⟨w.heap.size, 1, none⟩ = some (.int .i64 hint) ∧ W.cell? ⟨w.heap.size, 2, none⟩ = some (.int .i64 schema) ∧ W.cell? ⟨w.heap.size, 3, none⟩ = some (.int .u64 zt) ∧ W.cell? ⟨w.heap.size, 4, none⟩ = some (.slice A pos.length c) ∧ W.cell? ⟨w.heap.size, 5, none⟩ = some (.slice B neg.length d))) := Lib.hid (fun W h => ⟨h, HCEL.out W (below_then hb3' hb3'.size h)⟩)
  have HEN3 := Lib.hid (fun W (h : Below W3.heap.size W3 W) => HEND.out W (below_then hb3' hb3'.size h))
  have hs0 := HS.out W3 (Below.refl _ _)
  have HLE : Hid (∀ W, Below W3.heap.size W3 W → Calls Tryz.prog 64 #[.pointer (some ⟨g, 0, none⟩)] W fun e w' => e = .returned (.int .i64 0) ∧ W = w') := Lib.hid (fun W h => HLE.out W (HEN3.out W h))
  have HBI := Lib.hid (fun W (h : Below W3.heap.size W3 W) => HBI.out W (HEN3.out W h))
  have HBY := Lib.hid (fun W (h : Below W3.heap.size W3 W) => HBY.out W (HEN3.out W h))
  have HHE := Lib.hid (fun W (h : Below W3.heap.size W3 W) => HHE.out W (HEN3.out W h))
  have HEQ := Lib.hid (fun W (h : Below W3.heap.size W3 W) r hr => HEQ.out W (HEN3.out W h) r hr)
  clear hb3 hW3 hg3 hb3'
  go_wp2_with (fail)
  rw [← HW3.out]
  go_region_held_law (fun W => Below W3.heap.size W3 W ∧ W.cell? ⟨w.heap.size, 0, none⟩ = some (.int .i64 vr) ∧ W.cell? ⟨w.heap.size, 1, none⟩ = some (.int .i64 hint) ∧ W.cell? ⟨w.heap.size, 2, none⟩ = some (.int .i64 schema) ∧ W.cell? ⟨w.heap.size, 3, none⟩ = some (.int .u64 zt) ∧ W.cell? ⟨w.heap.size, 4, none⟩ = some (.slice A pos.length c) ∧ W.cell? ⟨w.heap.size, 5, none⟩ = some (.slice B neg.length d))
    (first | (with_reducible exact HS.out _ (below_drew (Below.refl _ _))) | (with_reducible exact HS.out _ hb63) | (with_reducible exact HS.out _ hb62) | (with_reducible exact HS.out _ hb61) | (with_reducible exact HS.out _ hb60) | assumption)
    (first
    | (go_at_call 64; refine (HLE.out _ (And.left (by assumption))).mono ?_; rintro e w58 ⟨rfl, rfl⟩)
    | (go_at_call 58; refine (HBI.out _ (And.left (by assumption))).mono ?_; rintro e w59 ⟨rfl, rfl⟩)
    | (go_at_call 65; refine (HBY.out _ (And.left (by assumption))).mono ?_; rintro e w60 ⟨v, rfl, ho, hbx⟩; have hb60 : Below W3.heap.size W3 w60 := below_then (And.left (by assumption)) (And.left (by assumption) : Below W3.heap.size W3 _).size hbx; obtain ⟨Dv, dv, rfl, -, hrv⟩ := ho.reads; have hcv := fun W (h : Below w60.heap.size w60 W) => HRS.out Dv dv W (hrv.below h); have hb6060 := Below.refl w60.heap.size w60)
    | (go_at_call 103; refine (HRB.out _).mono ?_; rintro e w61 ⟨rfl, hby⟩; have hb61 : Below W3.heap.size W3 w61 := below_then hb60 hb60.size hby)
    | (go_at_call 130; refine (HHE.out _ hb61).mono ?_; rintro e w62 ⟨⟨A5, c5, B5, d5⟩, rfl, hr62, hbz⟩; have hb62 : Below W3.heap.size W3 w62 := below_then hb61 hb61.size hbz)
    | (go_at_call 29; refine (HEQ.out _ hb62 _ hr62).mono ?_; rintro e w63 ⟨rfl, hbu⟩; have hb63 : Below W3.heap.size W3 w63 := below_then hb62 hb62.size hbu))
  all_goals (
    have X9 := Lib.hid (HEN3.out _ hb63)
    have hgz := (hb63.block _ (blk_lt HG3.out)).trans HG3.out
    have z0 : w63.cell? ⟨w3.heap.size, 0, none⟩ = some (.int .i64 0) := obj_cell hgz rfl
    have z4 : w63.cell? ⟨w3.heap.size, 4, none⟩ = some (.int .u64 0) := obj_cell hgz rfl
    have z6 : w63.cell? ⟨w3.heap.size, 6, none⟩ = some (.slice r.A 0 r.c) := obj_cell hgz rfl
    clear hb63 hb62 hb61 hb60 hbx hby hbz hbu hr62 hcv hb6060 hrv ho hgz
    go_wp2
    go_ret
    exact ⟨rfl, X9.out⟩)
end Go.Proofs.YtjfekjbmgckkcaaGreatDoor.Law15D
namespace Go.Proofs.YtjfekjbmgckkcaaGreatDoor.HeadLaid
open Go.RowKit Go.Proofs.YtjfekjbmgckkcaaGreatDoorW.PrintWords
open Go.Proofs.YtjfekjbmgckkcaaGreatDoor.Base Go.Proofs.YtjfekjbmgckkcaaGreatDoor.VarPure Go.Proofs.YtjfekjbmgckkcaaGreatDoor.VarbitA Go.Proofs.YtjfekjbmgckkcaaGreatDoor.FailAs
theorem rt : (Tryz.prog.cutTypes.find? (·.1 == "internal/reflectlite.rtype")).map (·.2) = some 290 := by kernel_rfl
theorem gEt : Tryz.prog.globalNamed "errors.errorType" = some 0 := by kernel_rfl
theorem oneRow : ((List.range 373).filter fun t => Tryz.prog.rowNamed t [101, 114, 114, 111, 114]) = [34] := by kernel_rfl
theorem tySize : Tryz.prog.types.size = 373 := by kernel_rfl
theorem handle_of {w : World} (h : handlesMet Tryz.prog [("errors.errorType", Rows.laid_errors_errorType)] w) : GlE w := by
  have h1 : ∃ name u ty, (Rows.laid_errors_errorType (H := Unit)).handleName? = some name ∧ (Tryz.prog.cutTypes.find? (·.1 == "internal/reflectlite.rtype")).map (·.2) = some u ∧ ty < Tryz.prog.types.size ∧ Tryz.prog.rowNamed ty name = true ∧ w.var? Tryz.prog "errors.errorType" = some #[.iface u (.agg #[typeHandle Tryz.prog ty])] := h _ (List.mem_singleton.2 rfl)
  obtain ⟨name, u, ty, e1, e2, e3, e4, e5⟩ := h1
  have en : name = [101, 114, 114, 111, 114] := (Option.some.inj e1).symm
  subst en
  obtain rfl := Option.some.inj (rt.symm.trans e2)
  have hm : ty ∈ (List.range 373).filter fun t => Tryz.prog.rowNamed t [101, 114, 114, 111, 114] := List.mem_filter.2 ⟨List.mem_range.2 (by rw [← tySize]; exact e3), e4⟩
  rw [oneRow] at hm
  obtain rfl := List.mem_singleton.1 hm
  have hh : typeHandle Tryz.prog 34 = .pointer (some ⟨3, 34, none⟩) := by kernel_rfl
  rw [hh] at e5
  simpa [GlE] using World.var?_cell gEt e5 0
theorem tab_met {w : World} (h2 : laidMet Tryz.prog [("tidepole/varbit.behinds", Lib.tabData .i64 ([0, 3, 6, 9, 12, 18, 25, 56, 64].map Int.ofNat))] w) : Tab w := by
  have hv := Lib.tabIs_of_head gTab tTab Tryz.underlying269 Tryz.underlying3 cEl cTab h2
  intro j hj
  have := World.var?_cell gTab hv j
  rw [this]
  have : j = 0 ∨ j = 1 ∨ j = 2 ∨ j = 3 ∨ j = 4 ∨ j = 5 ∨ j = 6 ∨ j = 7 ∨ j = 8 := by omega
  rcases this with rfl | rfl | rfl | rfl | rfl | rfl | rfl | rfl | rfl <;> rfl
end Go.Proofs.YtjfekjbmgckkcaaGreatDoor.HeadLaid
namespace Go.Proofs.YtjfekjbmgckkcaaGreatDoor.Law18L
open Go.RowKit Go.Proofs.YtjfekjbmgckkcaaGreatDoorW.PrintWords
open Go.Proofs.YtjfekjbmgckkcaaGreatDoor.Base Go.Proofs.YtjfekjbmgckkcaaGreatDoor.VarPure Go.Proofs.YtjfekjbmgckkcaaGreatDoor.VarbitA Go.Proofs.YtjfekjbmgckkcaaGreatDoor.FailAs Go.Proofs.YtjfekjbmgckkcaaGreatDoor.HeadLaid Go.Proofs.YtjfekjbmgckkcaaGreatDoor.XorA
abbrev laidF : List (String × DataW Unit) := [("math/bits.deBruijn64tab", Rows.laid_math_bits_deBruijn64tab), ("errors.errorType", Rows.laid_errors_errorType), ("tidepole/varbit.behinds", Rows.laid_tidepole_varbit_behinds)]
theorem gDb : Tryz.prog.globalNamed "math/bits.deBruijn64tab" = some 2 := by kernel_rfl
theorem tDb : (Tryz.prog.globals[2]?).map (·.type) = some 318 := by kernel_rfl
theorem cDb : Tryz.prog.cellsOf 318 = 64 := by kernel_rfl
theorem cU8 : Tryz.prog.cellsOf 5 = 1 := by kernel_rfl
theorem split_laidF (w : World) : laidMetH Tryz.prog laidF w = (laidMet Tryz.prog [("math/bits.deBruijn64tab", Rows.laid_math_bits_deBruijn64tab), ("tidepole/varbit.behinds", Rows.laid_tidepole_varbit_behinds)] w ∧ handlesMet Tryz.prog [("errors.errorType", Rows.laid_errors_errorType)] w) := by kernel_rfl
theorem db_data : (Rows.laid_math_bits_deBruijn64tab : DataW Unit) = Lib.tabData .u8 (Lib.deBruijn64tab.map Int.ofNat) := by kernel_rfl
theorem tz_met {w : World} (h : laidMet Tryz.prog (("math/bits.deBruijn64tab", Lib.tabData .u8 (Lib.deBruijn64tab.map Int.ofNat)) :: [("tidepole/varbit.behinds", Rows.laid_tidepole_varbit_behinds)]) w) : Tz w := by
  have hv := Lib.tabIs_of_head gDb tDb Tryz.underlying318 Tryz.underlying5 cU8 cDb h
  intro j hj
  have := World.var?_cell gDb hv j
  rw [this]
  have hl : Lib.deBruijn64tab.length = 64 := by decide
  simp [List.getD_eq_getElem?_getD, hl, hj]
theorem of_laidF {w : World} (h : laidMetH Tryz.prog laidF w) : Tab w ∧ GlE w ∧ Tz w := by
  rw [split_laidF] at h
  obtain ⟨h1, h2⟩ := h
  have h3 := h1
  rw [db_data] at h3
  exact ⟨tab_met h1.tail, handle_of h2, tz_met h3⟩
end Go.Proofs.YtjfekjbmgckkcaaGreatDoor.Law18L
namespace Go.Proofs.YtjfekjbmgckkcaaGreatDoor.ChunkMakes
open Go.RowKit Go.Proofs.YtjfekjbmgckkcaaGreatDoorW.PrintWords
open Go.Proofs.YtjfekjbmgckkcaaGreatDoor.Bits Go.Proofs.YtjfekjbmgckkcaaGreatDoor.Base Go.Proofs.YtjfekjbmgckkcaaGreatDoor.VarPure Go.Proofs.YtjfekjbmgckkcaaGreatDoor.VarbitA Go.Proofs.YtjfekjbmgckkcaaGreatDoor.VarKit Go.Proofs.YtjfekjbmgckkcaaGreatDoor.StreamA Go.Proofs.YtjfekjbmgckkcaaGreatDoor.SpanPure Go.Proofs.YtjfekjbmgckkcaaGreatDoor.SpanBase Go.Proofs.YtjfekjbmgckkcaaGreatDoor.FailAs Go.Proofs.YtjfekjbmgckkcaaGreatDoor.FailB Go.Proofs.YtjfekjbmgckkcaaGreatDoor.FailC Go.Proofs.YtjfekjbmgckkcaaGreatDoor.HeadA Go.Proofs.YtjfekjbmgckkcaaGreatDoor.HeadB Go.Proofs.YtjfekjbmgckkcaaGreatDoor.HeadC Go.Proofs.YtjfekjbmgckkcaaGreatDoor.HeadE Go.Proofs.YtjfekjbmgckkcaaGreatDoor.HeadPure Go.Proofs.YtjfekjbmgckkcaaGreatDoor.Ref12 Go.Proofs.YtjfekjbmgckkcaaGreatDoor.Ref14A Go.Proofs.YtjfekjbmgckkcaaGreatDoor.XorA Go.Proofs.YtjfekjbmgckkcaaGreatDoor.CkObj Go.Proofs.YtjfekjbmgckkcaaGreatDoor.CkH Go.Proofs.YtjfekjbmgckkcaaGreatDoor.Law14A Go.Proofs.YtjfekjbmgckkcaaGreatDoor.Law15B Go.Proofs.YtjfekjbmgckkcaaGreatDoor.Law15C Go.Proofs.YtjfekjbmgckkcaaGreatDoor.Law15D Go.Proofs.YtjfekjbmgckkcaaGreatDoor.Law18L Go.Proofs.YtjfekjbmgckkcaaGreatDoor.HdArg Go.Proofs.YtjfekjbmgckkcaaGreatDoor.HeadLaid
theorem narrow (q : Hd) (p : Lc) (w : World) (hT : Tab w) (hE : GlE w) (hZ : Tz w) (hx : HdRd w q p) (hf : (few q.pos && few q.neg) = false) :
    Calls Tryz.prog 9 #[.agg (hcs q p).toArray] w fun e w' => e = .returned (.bool true) ∧ Below w.heap.size w w' := by
  obtain ⟨vr, hint, schema, zt, pos, neg⟩ := q
  obtain ⟨A, c, B, d⟩ := p
  show Calls Tryz.prog 9 #[.agg #[.int .i64 vr, .int .i64 hint, .int .i64 schema, .int .u64 zt, .slice A pos.length c, .slice B neg.length d]] w _
  obtain ⟨W0, hW0, hbk, hal⟩ : ∃ W0 : World, W0 = w.alloc (.cells #[.int .i64 vr, .int .i64 hint, .int .i64 schema, .int .u64 zt, .slice A pos.length c, .slice B neg.length d] 25) ∧ W0.heap[w.heap.size]? = some (.cells #[.int .i64 vr, .int .i64 hint, .int .i64 schema, .int .u64 zt, .slice A pos.length c, .slice B neg.length d] 25 (0, 0)) ∧ Below w.heap.size w W0 := ⟨_, rfl, blk_last w _, below_alloc (Below.refl _ _) _⟩
  have HCEL : Hid (∀ W : World, Below W0.heap.size W0 W → (W.cell? ⟨w.heap.size, 0, none⟩ = some (.int .i64 vr) ∧ W.cell? ⟨w.heap.size, 1, none⟩ = some (.int .i64 hint) ∧ W.cell? ⟨w.heap.size, 2, none⟩ = some (.int .i64 schema) ∧ W.cell? ⟨w.heap.size, 3, none⟩ = some (.int .u64 zt) ∧ W.cell? ⟨w.heap.size, 4, none⟩ = some (.slice A pos.length c) ∧ W.cell? ⟨w.heap.size, 5, none⟩ = some (.slice B neg.length d))) := Lib.hid (fun W h => by
    have hb := (h.block _ (blk_lt hbk)).trans hbk
    exact ⟨obj_cell hb rfl, obj_cell hb rfl, obj_cell hb rfl, obj_cell hb rfl, obj_cell hb rfl, obj_cell hb rfl⟩)
  have HEND := Lib.hid (fun W (hb : Below W0.heap.size W0 W) => below_then hal hal.size hb)
  have HSM := Lib.hid (small0_calls ⟨vr, hint, schema, zt, pos, neg⟩ ⟨A, c, B, d⟩ W0 ((hx.below hal)))
  have HAW := Lib.hid (fun W (hb : Below W0.heap.size W0 W) => Law15C.awake_calls W (hT.below (below_then hal hal.size hb)) (gle_below hE (below_then hal hal.size hb)) (hZ.below (below_then hal hal.size hb)))
  have HW0 := Lib.hid hW0
  simp only at hf HSM
  rw [hf] at HSM
  obtain ⟨k0, k1, k2, k3, k4, k5⟩ := HCEL.out _ (Below.refl _ _)
  clear hx hf hbk hal hW0 hT hE hZ
  go_enter Tryz.func9, Tryz.ntmps9
  go_wp2_with (fail)
  rw [← HW0.out]
  refine HSM.out.mono ?_
  rintro e w1 ⟨rfl, hb⟩
  have B1 := Lib.hid hb
  obtain ⟨k0, k1, k2, k3, k4, k5⟩ := HCEL.out _ hb
  clear hb HSM
  clear k0 k1 k2 k3 k4 k5
  go_wp2_with (fail)
  refine (HAW.out _ B1.out).mono ?_
  rintro e w2 ⟨rfl, hb⟩
  have B2 := Lib.hid (HEND.out _ (below_then B1.out B1.out.size hb))
  clear hb
  go_wp2
  go_ret
  exact ⟨rfl, B2.out⟩
set_option maxRecDepth 100000 in
set_option maxHeartbeats 1600000 in
theorem core (q : Hd) (p : Lc) (w : World) (hT : Tab w) (hE : GlE w) (hZ : Tz w) (hx : HdIn w q p) (hd : HdRd w q p) (hf : (few q.pos && few q.neg) = true) :
    Calls Tryz.prog 9 #[.agg (hcs q p).toArray] w fun e w' => e = .returned (.bool true) ∧ Below w.heap.size w w' := by
  obtain ⟨vr, hint, schema, zt, pos, neg⟩ := q
  obtain ⟨A, c, B, d⟩ := p
  show Calls Tryz.prog 9 #[.agg #[.int .i64 vr, .int .i64 hint, .int .i64 schema, .int .u64 zt, .slice A pos.length c, .slice B neg.length d]] w _
  obtain ⟨W0, hW0, hbk, hal⟩ : ∃ W0 : World, W0 = w.alloc (.cells #[.int .i64 vr, .int .i64 hint, .int .i64 schema, .int .u64 zt, .slice A pos.length c, .slice B neg.length d] 25) ∧ W0.heap[w.heap.size]? = some (.cells #[.int .i64 vr, .int .i64 hint, .int .i64 schema, .int .u64 zt, .slice A pos.length c, .slice B neg.length d] 25 (0, 0)) ∧ Below w.heap.size w W0 := ⟨_, rfl, blk_last w _, below_alloc (Below.refl _ _) _⟩
  have HCEL : Hid (∀ W : World, Below W0.heap.size W0 W → (W.cell? ⟨w.heap.size, 0, none⟩ = some (.int .i64 vr) ∧ W.cell? ⟨w.heap.size, 1, none⟩ = some (.int .i64 hint) ∧ W.cell? ⟨w.heap.size, 2, none⟩ = some (.int .i64 schema) ∧ W.cell? ⟨w.heap.size, 3, none⟩ = some (.int .u64 zt) ∧ W.cell? ⟨w.heap.size, 4, none⟩ = some (.slice A pos.length c) ∧ W.cell? ⟨w.heap.size, 5, none⟩ = some (.slice B neg.length d))) := Lib.hid (fun W h => by
    have hb := (h.block _ (blk_lt hbk)).trans hbk
    exact ⟨obj_cell hb rfl, obj_cell hb rfl, obj_cell hb rfl, obj_cell hb rfl, obj_cell hb rfl, obj_cell hb rfl⟩)
  have HEND := Lib.hid (fun W (hb : Below W0.heap.size W0 W) => below_then hal hal.size hb)
  have HSM := Lib.hid (small0_calls ⟨vr, hint, schema, zt, pos, neg⟩ ⟨A, c, B, d⟩ W0 ((hd.below hal)))
  have HAW := Lib.hid (fun W (hb : Below W0.heap.size W0 W) => Law15C.awake_calls W (hT.below (below_then hal hal.size hb)) (gle_below hE (below_then hal hal.size hb)) (hZ.below (below_then hal hal.size hb)))
  have HW0 := Lib.hid hW0
  simp only at hf HSM
  rw [hf] at HSM
  have HNEW := Lib.hid (fun W (h : Below W0.heap.size W0 W) => new_calls ⟨vr, hint, schema, zt, pos, neg⟩ ⟨A, c, B, d⟩ W ((hx.below hal).below h) (gle_below hE (below_then hal hal.size h)) (hT.below (below_then hal hal.size h)))
  have HHD := Lib.hid (fun W (h : Below W0.heap.size W0 W) => heads_calls ⟨vr, hint, schema, zt, pos, neg⟩ ⟨A, c, B, d⟩ W ((hx.below hal).below h))
  have HXX := Lib.hid (fun W (h : Below W0.heap.size W0 W) => (hx.below hal).below h)
  obtain ⟨k0, k1, k2, k3, k4, k5⟩ := HCEL.out _ (Below.refl _ _)
  clear hx hd hf hbk hal hW0 hT hE hZ
  go_enter Tryz.func9, Tryz.ntmps9
  go_wp2_with (fail)
  rw [← HW0.out]
  refine HSM.out.mono ?_
  rintro e w1 ⟨rfl, hb⟩
  have B1 := Lib.hid hb
  obtain ⟨k0, k1, k2, k3, k4, k5⟩ := HCEL.out _ hb
  clear hb HSM
  go_wp2_with (fail)
  refine (HNEW.out _ B1.out).mono ?_
  rintro e w2 ⟨hb2, hcase⟩
  have B2 := Lib.hid (below_then B1.out B1.out.size hb2)
  clear hb2 k0 k1 k2 k3 k4 k5
  rcases hcase with ⟨h0, v, rfl, he⟩ | ⟨h0, hv, v, rfl, he⟩ | ⟨h0, hv, g, S, rfl, hk, -⟩
  · have E2 := Lib.hid he
    have HRE := Lib.hid (HHD.out _ B2.out)
    obtain ⟨k0, k1, k2, k3, k4, k5⟩ := HCEL.out _ B2.out
    go_wp2_with (fail)
    refine HRE.out.mono ?_
    rintro e w3 ⟨⟨qa, qc, qb, qd⟩, rfl, hq, hb⟩
    have B3 := Lib.hid (below_then B2.out B2.out.size hb)
    have C3 := Lib.hid hb
    have HC := Lib.hid (Check14_calls ⟨vr, hint, schema, zt, pos, neg⟩ ⟨qa, qc, qb, qd⟩ w3 hq)
    clear hq hb HRE k0 k1 k2 k3 k4 k5
    dsimp only [hcs]
    go_wp2_with (fail)
    refine HC.out.mono ?_
    rintro e w4 ⟨rfl, hb⟩
    have C4 := Lib.hid (below_then C3.out C3.out.size hb)
    have B4 := Lib.hid (below_then B3.out B3.out.size hb)
    clear hb HC
    obtain ⟨ep, hep⟩ : ∃ ep, ep = headErr ⟨vr, hint, schema, zt, pos, neg⟩ := ⟨_, rfl⟩
    rw [← hep] at E2 h0 ⊢
    obtain ⟨ec, en⟩ := ep
    simp only at E2 h0 ⊢
    rw [show Ref14A.wr ec en 0 = .agg #[.int .i64 ec, .string en, .int .i64 0] from if_neg h0]
    obtain ⟨W5, hW5, hg5, hb5⟩ : ∃ W : World, W = w4.alloc (.cells #[.int .i64 ec, .string en, .int .i64 0] 37) ∧ W.heap[w4.heap.size]? = some (.cells #[.int .i64 ec, .string en, .int .i64 0] 37 (0, 0)) ∧ Below w4.heap.size w4 W := ⟨_, rfl, blk_last w4 _, below_alloc (Below.refl _ _) _⟩
    have B5 := Lib.hid (below_then B4.out B4.out.size hb5)
    have C5 := Lib.hid (below_then C4.out C4.out.size hb5)
    have he5 := E2.out.below C5.out
    have HTL : Hid (Calls Tryz.prog 56 #[v, .agg #[.int .i64 ec, .string en, .int .i64 0]] W5 fun e w' => e = .returned (.bool true) ∧ Below W5.heap.size W5 w') := Lib.hid (Law15A.tells_calls v ec en 0 W5 he5 h0)
    obtain ⟨ge, rfl⟩ := err_some (by omega) he5
    have d0 : ((ec : Int) == 0) = false := by simp; omega
    have d0' : ((ec : Int) != 0) = true := by simp; omega
    have HW5 := Lib.hid hW5
    have r0 : (w4.alloc (.cells #[.int .i64 ec, .string en, .int .i64 0] 37)).heap.size = w4.heap.size + 1 := by simp
    clear hep he he5 h0 hW5 hg5 hb5 r0 E2
    go_wp2_with (fail)
    rw [← HW5.out]
    refine HTL.out.mono ?_
    rintro e w6 ⟨rfl, hb⟩
    have B6 := Lib.hid (below_then B5.out B5.out.size hb)
    clear hb HTL
    go_wp2_with (fail)
    refine (HAW.out _ B6.out).mono ?_
    rintro e w7 ⟨rfl, hb⟩
    have B7 := Lib.hid (HEND.out _ (below_then B6.out B6.out.size hb))
    clear hb
    go_wp2
    go_ret
    exact ⟨rfl, B7.out⟩
  · have E2 := Lib.hid he
    have e1 : (vr != 0) = true := by simpa using hv
    have H0 := Lib.hid h0
    have HRE := Lib.hid (HHD.out _ B2.out)
    obtain ⟨k0, k1, k2, k3, k4, k5⟩ := HCEL.out _ B2.out
    go_wp2_with (fail)
    refine HRE.out.mono ?_
    rintro e w3 ⟨⟨qa, qc, qb, qd⟩, rfl, hq, hb⟩
    have B3 := Lib.hid (below_then B2.out B2.out.size hb)
    have C3 := Lib.hid hb
    have HC := Lib.hid (Check14_calls ⟨vr, hint, schema, zt, pos, neg⟩ ⟨qa, qc, qb, qd⟩ w3 hq)
    clear hq hb HRE k0 k1 k2 k3 k4 k5
    dsimp only [hcs]
    go_wp2_with (fail)
    refine HC.out.mono ?_
    rintro e w4 ⟨rfl, hb⟩
    have C4 := Lib.hid (below_then C3.out C3.out.size hb)
    have B4 := Lib.hid (below_then B3.out B3.out.size hb)
    clear hb HC
    rw [H0.out, show Ref14A.wr 0 (headErr ⟨vr, hint, schema, zt, pos, neg⟩).2 0 = .agg #[.int .i64 0, .string ⟨#[]⟩, .int .i64 0] from rfl]
    obtain ⟨W5, hW5, hb5⟩ : ∃ W : World, W = w4.alloc (.cells #[.int .i64 25, .string ⟨#[118, 97, 114, 105, 97, 110, 116]⟩, .int .i64 0] 37) ∧ Below w4.heap.size w4 W := ⟨_, rfl, below_alloc (Below.refl _ _) _⟩
    have B5 := Lib.hid (below_then B4.out B4.out.size hb5)
    have C5 := Lib.hid (below_then C4.out C4.out.size hb5)
    have HTL : Hid (Calls Tryz.prog 56 #[v, .agg #[.int .i64 25, .string ⟨#[118, 97, 114, 105, 97, 110, 116]⟩, .int .i64 0]] W5 fun e w' => e = .returned (.bool true) ∧ Below W5.heap.size W5 w') := Lib.hid (Law15A.tells_calls v 25 pVariant 0 W5 (E2.out.below C5.out) (by decide))
    have HW5 := Lib.hid hW5
    obtain ⟨k0, k1, k2, k3, k4, k5⟩ := HCEL.out _ B4.out
    have hw4 : w.heap.size < w4.heap.size := Nat.lt_of_lt_of_le (World.block_lt_of_cell? W0 _ (HCEL.out _ (Below.refl _ _)).1) B4.out.size
    obtain ⟨ge, rfl⟩ := err_some (by decide) E2.out
    clear hW5 hb5 h0 hv he E2
    go_wp2_with (fail)
    rw [← HW5.out]
    refine HTL.out.mono ?_
    rintro e w6 ⟨rfl, hb⟩
    have B6 := Lib.hid (below_then B5.out B5.out.size hb)
    clear hb HTL k0 k1 k2 k3 k4 k5
    go_wp2_with (fail)
    refine (HAW.out _ B6.out).mono ?_
    rintro e w7 ⟨rfl, hb⟩
    have B7 := Lib.hid (HEND.out _ (below_then B6.out B6.out.size hb))
    clear hb
    go_wp2
    go_ret
    exact ⟨rfl, B7.out⟩
  · have K2 := Lib.hid hk
    have e1 : (vr != 0) = false := by simpa using hv
    have H0 := Lib.hid h0
    clear hv
    have HRE := Lib.hid (HHD.out _ B2.out)
    obtain ⟨k0, k1, k2, k3, k4, k5⟩ := HCEL.out _ B2.out
    go_wp2_with (fail)
    refine HRE.out.mono ?_
    rintro e w3 ⟨⟨qa, qc, qb, qd⟩, rfl, hq, hb⟩
    have B3 := Lib.hid (below_then B2.out B2.out.size hb)
    have C3 := Lib.hid hb
    have HC := Lib.hid (Check14_calls ⟨vr, hint, schema, zt, pos, neg⟩ ⟨qa, qc, qb, qd⟩ w3 hq)
    clear hq hb HRE k0 k1 k2 k3 k4 k5
    dsimp only [hcs]
    go_wp2_with (fail)
    refine HC.out.mono ?_
    rintro e w4 ⟨rfl, hb⟩
    have C4 := Lib.hid (below_then C3.out C3.out.size hb)
    have B4 := Lib.hid (below_then B3.out B3.out.size hb)
    clear hb HC
    rw [H0.out, show Ref14A.wr 0 (headErr ⟨vr, hint, schema, zt, pos, neg⟩).2 0 = .agg #[.int .i64 0, .string ⟨#[]⟩, .int .i64 0] from rfl]
    obtain ⟨W5, hW5, hb5⟩ : ∃ W : World, W = w4.alloc (.cells #[.int .i64 0, .string ⟨#[]⟩, .int .i64 0] 37) ∧ Below w4.heap.size w4 W := ⟨_, rfl, below_alloc (Below.refl _ _) _⟩
    have B5 := Lib.hid (below_then B4.out B4.out.size hb5)
    have C5 := Lib.hid (below_then C4.out C4.out.size hb5)
    have HIS := Lib.hid (is0_calls g S ⟨vr, hint, schema, zt, pos, neg⟩ ⟨A, c, B, d⟩ W5 (K2.out.below C5.out) (HXX.out _ B5.out) h0)
    have HW5 := Lib.hid hW5
    obtain ⟨k0, k1, k2, k3, k4, k5⟩ := HCEL.out _ B4.out
    have hw4 : w.heap.size < w4.heap.size := Nat.lt_of_lt_of_le (World.block_lt_of_cell? W0 _ (HCEL.out _ (Below.refl _ _)).1) B4.out.size
    clear hW5 hb5 h0 hk
    go_wp2_with (fail)
    rw [← HW5.out]
    refine HIS.out.mono ?_
    rintro e w6 ⟨rfl, hb⟩
    have B6 := Lib.hid (below_then B5.out B5.out.size hb)
    clear hb HIS k0 k1 k2 k3 k4 k5
    go_wp2_with (fail)
    refine (HAW.out _ B6.out).mono ?_
    rintro e w7 ⟨rfl, hb⟩
    have B7 := Lib.hid (HEND.out _ (below_then B6.out B6.out.size hb))
    clear hb
    go_wp2
    go_ret
    exact ⟨rfl, B7.out⟩
theorem walk (x : Int × Int × Int × Int × Rep.Sl (Int × Int) × Rep.Sl (Int × Int)) (w : World) (hx : rHd.ok w x) (hL : laidMetH Tryz.prog laidF w) :
    Calls Tryz.prog 9 #[.agg (rHd.enc x).toArray] w fun e w' => e = .returned (.bool true) ∧ Below w.heap.size w w' := by
  obtain ⟨hT, hE, hZ⟩ := of_laidF hL
  obtain ⟨e1, x1, -⟩ := enc_hd hx
  rw [e1]
  cases f1 : few (hdOf x).pos with
  | false => exact narrow _ _ w hT hE hZ x1 (by rw [f1]; rfl)
  | true =>
    cases f2 : few (hdOf x).neg with
    | false => exact narrow _ _ w hT hE hZ x1 (by rw [f1, f2]; rfl)
    | true => exact core _ _ w hT hE hZ (hdin_of hx f1 f2) x1 (by rw [f1, f2]; rfl)
end Go.Proofs.YtjfekjbmgckkcaaGreatDoor.ChunkMakes
