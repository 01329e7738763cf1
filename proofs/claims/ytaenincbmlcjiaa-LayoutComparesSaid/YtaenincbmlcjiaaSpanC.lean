/- span's walks: all places, one by one; all of them. -/
import Derived.Test.YtaenincbmlcjiaaSpanB
import Derived.RangeFuncBox
import Derived.RangeFuncNested
import Derived.RangeFuncBound
import Derived.RangeFuncCalls
import Derived.RangeFuncLeaves
import Derived.Shelf.Abstract
import Derived.OwnWalkIn
import Derived.TacticsInMore
import Derived.LoopNIn
import Derived.LoopIn
import Derived.Maps.AppendAt
namespace Go.Proofs.Ytaenincbmlcjiaa.SpanC
open Go.RowKit Go.Shelf Go.Proofs.YtaenincbmlcjiaaW.PrintWords
open Go.Proofs.Ytaenincbmlcjiaa.Base Go.Proofs.Ytaenincbmlcjiaa.SpanPure Go.Proofs.Ytaenincbmlcjiaa.SpanBase Go.Proofs.Ytaenincbmlcjiaa.SpanA Go.Proofs.Ytaenincbmlcjiaa.SpanB
attribute [local go_sem] Oper.semAt_some

set_option maxHeartbeats 800000 in
theorem clone_calls (A : Option Addr) (c : Nat) (l : List Sp) (w : World) (hr : RdSp w A l) (hm : l.length ≤ 1000000000) (hc : l.length ≤ c) (hA : A = none → c = 0) :
    Calls Try.prog 45 #[.slice A l.length c] w fun e w' => ∃ v, e = .returned v ∧ OwSp 43 w' w.heap.size v l ∧ Below w.heap.size w w' := by
  have HR := Lib.hid hr
  clear hr
  cases A with
  | none =>
    have hc0 := hA rfl
    have hl : l = [] := List.length_eq_zero_iff.1 (by omega)
    subst hl
    subst hc0
    clear hc hA
    have hnil := fun w => Lib.run_eql_slice_nil (P := Try.prog) w 22 43 none 0 0 0 0 Try.underlying22
    go_enter Try.func45, Try.ntmps45
    go_wp2
    go_ret
    exact ⟨_, rfl, OwSp.nil _ _ _, Below.refl _ _⟩
  | some ad =>
    clear hA
    have hnil := fun w => Lib.run_eql_slice_nil (P := Try.prog) w 22 43 (some ad) l.length c 0 0 Try.underlying22
    go_enter Try.func45, Try.ntmps45
    go_wp2_with (at_builtin; refine append_spans (w0 := w) w.heap.size rfl _ _ 22 43 16 rfl Try.underlying22 infoSp _ [] l (some ad) c rfl rfl ?c1 ?c2 ?c3 ?c4 ?c5 ?c6 ?_)
    case c1 => exact OwSp.lit w 43 [] (by decide)
    case c2 => exact HR.out.below (below_alloc (Below.refl _ _) _)
    case c3 => exact below_alloc (Below.refl _ _) _
    case c4 => simp
    case c5 => simp; omega
    case c6 => simp; omega
    intro v1 w1 ho hb _ _
    go_wp2
    go_ret
    exact ⟨_, rfl, by simpa using ho, hb⟩

/-- what an iterator over a row asks of a round. -/
def KpA (A : Option Addr) (W W' : World) : Prop := ∀ ad, A = some ad → W'.heap[ad.block]? = W.heap[ad.block]?
theorem grown_of_below {w w' : World} (h : Below w.heap.size w w') : w.grownBy w' none := ⟨h.os, h.tape, h.output, h.size, fun k hk _ => h.block k hk⟩
/-- what comes of spans. -/
def told (L : List Sp) : List (Int × Int) := if chk L = 0 then idx 0 (places L) else []
abbrev encP (x : Int × Int) : Array Value := #[.int .i64 x.1, .int .i64 x.2]

set_option maxRecDepth 100000 in
set_option maxHeartbeats 3200000 in
/-- the iterator over right spans. -/
theorem all_right (n : Nat) (Bn : Nat) (A : Option Addr) (c : Nat) (L : List Sp) (w : World) (hBn : Bn < w.heap.size) (hc : w.cell? ⟨Bn, 0, none⟩ = some (.slice A L.length c)) (hL : RdSp w A L) (hm : L.length ≤ 1000000000) (hR : chk L = 0) :
    SeqStopsK Fence.wide n Try.prog 46 #[.pointer (some ⟨Bn, 0, none⟩)] encP (KpA A) (fun ys => ys = idx 0 (places L)) (fun pre => pre <+: idx 0 (places L)) (places L).length w := fun l J Jx W hW hJ hJx hY h0 => by
  have hr := (chk_zero.1 hR).2
  have hlen := places_len hr
  have HLR := Lib.hid (hL.below hW)
  have HC := Lib.hid (check_calls A c L W (hL.below hW) hm)
  rw [hR] at HC
  have hcell : W.cell? ⟨Bn, 0, none⟩ = some (.slice A L.length c) := (hW.cell (p := ⟨Bn, 0, none⟩) hBn).trans hc
  have HJ := Lib.hid hJ
  have HJX := Lib.hid hJx
  have HY := Lib.hid hY
  have HR := Lib.hid hr
  clear hL hW hJ hJx hY hr hc hR
  refine callsIn_of_wp Try.func46 rfl trivial ?_ rfl
  simp only [Try.ntmps46, List.size_toArray, List.length_cons, List.length_nil, Nat.reduceAdd, Nat.reduceSub, Array.replicate_succ, Array.replicate_zero, List.push_toArray, List.append_toArray, List.nil_append, List.cons_append]
  gi_wp2
  refine ⟨trivial, fun h => (by cases h), ?_⟩
  refine (callsIn_wide.2 HC.out).mono ?_
  rintro e w1 ⟨rfl, hb1⟩
  have hcell1 : w1.cell? ⟨Bn, 0, none⟩ = some (.slice A L.length c) := by
    have hBW : Bn < W.heap.size := by
      rcases Nat.lt_or_ge Bn W.heap.size with h | h
      · exact h
      · simp [World.cell?, Array.getElem?_eq_none h] at hcell
    exact (hb1.cell (p := ⟨Bn, 0, none⟩) hBW).trans hcell
  have HL1 := Lib.hid (HLR.out.below hb1)
  have HJ1 := Lib.hid (HJ.out _ _ _ none h0 (grown_of_below hb1) (fun r h => by cases h))
  clear hcell h0 hb1 HC
  gi_wp2
  gi_loopw [3, 4, 12] (fun a m i wr => ∃ (k N : Nat) (E : Int), k ≤ L.length ∧ i = .int .i64 k ∧ a = .int .i64 E ∧ m = .int .i64 (N : Int) ∧ Hid (E = endF 0 (L.take k)) ∧ Hid (N = (placesF 0 (L.take k)).length) ∧ J (idx 0 (placesF 0 (L.take k))) wr ∧ RdSp wr A L) (fun _ _ i _ => L.length - (intOf i).toNat)
  case atStart => exact ⟨0, 0, 0, by omega, rfl, rfl, rfl, Lib.hid rfl, Lib.hid rfl, HJ1.out, HL1.out⟩
  case round =>
    obtain ⟨k, N, E, hk, rfl, rfl, rfl, hE, hN, hJk, hLk⟩ := hrel
    by_cases hlt : k < L.length
    · obtain ⟨ad, hA, c0, c1⟩ := hLk.at_ k hlt
      subst hA
      obtain ⟨r1, r2, r3, r4, r5, r6⟩ := right_at HR.out k hlt
      have HPT := Lib.hid (placesF_take L k hlt)
      have HET := Lib.hid (endF_take L k hlt)
      have HPX := Lib.hid (places_prefix L k hlt)
      obtain ⟨s, hs⟩ : ∃ s, s = L[k] := ⟨_, rfl⟩
      rw [← hs] at c0 c1 r1 r2 r3 r4 HPT HET HPX
      rw [← hE.out] at r3 r4 r5 r6 HPT HET HPX
      obtain ⟨o, q⟩ := s
      simp only at c0 c1 r1 r2 r3 r4 HPT HET HPX
      obtain ⟨Q, rfl⟩ := Int.eq_ofNat_of_zero_le r1
      rw [Int.toNat_natCast] at HPT HPX
      obtain ⟨D, hD⟩ : ∃ D, D = E + o := ⟨_, rfl⟩
      have hNQ : N + Q ≤ 4096 := by
        have h1 := (HPX.out Q (Nat.le_refl _)).length_le
        rw [List.length_append, runP_length, ← hN.out] at h1
        have := hlen
        omega
      rw [← hD] at r3 r4 HPT HET HPX
      have HJK := Lib.hid hJk
      have HLK := Lib.hid hLk
      clear hs hJk hLk
      obtain ⟨wo, rfl⟩ : ∃ wo : World, wo = wr := ⟨_, rfl⟩
      gi_wp2
      rw [← hD]
      have HD := Lib.hid hD
      clear hD
      gi_loopw [3, 4, 22] (fun a m i wr => ∃ j : Nat, j ≤ Q ∧ i = .int .i64 j ∧ a = .int .i64 (D + (j : Int)) ∧ m = .int .i64 ((N : Int) + (j : Int)) ∧ J (idx 0 (placesF 0 (L.take k) ++ runP D j)) wr ∧ RdSp wr (some ad) L) (fun _ _ i _ => Q - (intOf i).toNat)
      case atStart =>
        refine ⟨0, by omega, rfl, by simp, by simp, ?_, HLK.out.below (below_alloc (Below.refl _ _) _)⟩
        rw [runP_zero, List.append_nil]
        exact HJ.out _ _ _ none HJK.out (World.grownBy_alloc _ _ none) (fun r h => by cases h)
      case round =>
        clear HJK HLK c0 c1
        obtain ⟨j, hj, rfl, rfl, rfl, hJj, hLj⟩ := hrel
        by_cases hjl : j < Q
        · obtain ⟨fn, tmps, assign, body, hy, hR⟩ := HY.out _ ((N : Int) + (j : Int), D + (j : Int)) wr hJj (by
            have := (HPX.out (j + 1) (by omega)).length_le
            rw [List.length_append, runP_length] at this
            rw [idx_length, List.length_append, runP_length]
            omega)
          dsimp only [encP] at hy
          have HLJ := Lib.hid hLj
          have HPRE := Lib.hid (show idx 0 (placesF 0 (L.take k) ++ runP D j) ++ [((N : Int) + (j : Int), D + (j : Int))] = idx 0 (placesF 0 (L.take k) ++ runP D (j + 1)) by
            rw [runP_snoc, ← List.append_assoc, idx_snoc, List.length_append, runP_length, ← hN.out, show (0 : Int) + ((N + j : Nat) : Int) = (N : Int) + (j : Int) from by omega])
          clear hJj hLj
          gi_wp2
          refine ⟨fun h => (by cases h), hR.mono ?_⟩
          rintro e W3 (⟨rfl, hJ3, hk3⟩ | ⟨rfl, hJx3⟩)
          · have HJ3 := Lib.hid (HPRE.out ▸ hJ3)
            have HL3 := Lib.hid (RdC.stay HLJ.out fun a h _ => hk3 a h : RdSp W3 (some ad) L)
            clear hJ3 hk3 hR
            gi_wp2
            go_roundw
            case rel => exact ⟨j + 1, by omega, by go_num, by go_num, by go_num, HJ3.out, HL3.out⟩
            case measure => simp [intOf]; omega
          · have HJ3 := Lib.hid (HPRE.out ▸ hJx3)
            have HPP := Lib.hid (idx_prefix 0 (HPX.out (j + 1) (by omega)))
            clear hJx3 hR
            gi_wp2
            refine bodyPost_ret (results_none rfl _ _ _) rfl ?_
            exact ⟨⟨_, rfl⟩, .inr ⟨_, HPP.out, HJ3.out⟩⟩
        · obtain rfl : j = Q := by omega
          rw [← HPT.out] at hJj
          have HJQ := Lib.hid hJj
          have HLQ := Lib.hid hLj
          have HE1 : Hid (D + (j : Int) = endF 0 (L.take (k + 1))) := Lib.hid (by rw [HET.out])
          have HN1 : Hid (N + j = (placesF 0 (L.take (k + 1))).length) := Lib.hid (by rw [HPT.out, List.length_append, runP_length, ← hN.out])
          clear hJj hLj
          gi_wp2
          go_roundw
          case rel => exact ⟨k + 1, N + j, D + (j : Int), by omega, by go_num, rfl, by go_num, HE1, HN1, HJQ.out, HLQ.out⟩
          case measure => simp [intOf]; omega
    · obtain rfl : k = L.length := by omega
      rw [List.take_length] at hJk
      have HJK := Lib.hid hJk
      clear hJk hLk
      gi_wp2
      go_end0
      exact ⟨⟨_, rfl⟩, .inl ⟨_, rfl, HJK.out⟩⟩
end Go.Proofs.Ytaenincbmlcjiaa.SpanC
