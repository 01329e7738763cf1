/- span's walks: the iterator over all places of any list. -/
import Derived.Test.YtaenincbmlcjiaaSpanG
namespace Go.Proofs.Ytaenincbmlcjiaa.SpanH
open Go.RowKit Go.Shelf Go.Proofs.YtaenincbmlcjiaaW.PrintWords
open Go.Proofs.Ytaenincbmlcjiaa.Base Go.Proofs.Ytaenincbmlcjiaa.SpanPure Go.Proofs.Ytaenincbmlcjiaa.SpanBase Go.Proofs.Ytaenincbmlcjiaa.SpanA Go.Proofs.Ytaenincbmlcjiaa.SpanB Go.Proofs.Ytaenincbmlcjiaa.SpanC Go.Proofs.Ytaenincbmlcjiaa.SpanD Go.Proofs.Ytaenincbmlcjiaa.SpanG
attribute [local go_sem] Oper.semAt_some

set_option maxRecDepth 100000 in
set_option maxHeartbeats 1600000 in
/-- the iterator over a wrong list. -/
theorem all_wrong (n : Nat) (Bn : Nat) (A : Option Addr) (c : Nat) (L : List Sp) (w : World) (hBn : Bn < w.heap.size) (hc : w.cell? ⟨Bn, 0, none⟩ = some (.slice A L.length c)) (hL : RdSp w A L) (hm : L.length ≤ 1000000000) (h0 : chk L ≠ 0) :
    SeqStopsK Fence.wide n Try.prog 46 #[.pointer (some ⟨Bn, 0, none⟩)] encP (KpA A) (fun ys => ys = []) (fun pre => pre <+: []) 0 w := fun l J Jx W hW hJ hJx hY h0' => by
  have HC := Lib.hid (check_calls A c L W (hL.below hW) hm)
  have e1 := ne_chk h0
  have hcell : W.cell? ⟨Bn, 0, none⟩ = some (.slice A L.length c) := (hW.cell (p := ⟨Bn, 0, none⟩) hBn).trans hc
  have HJ := Lib.hid hJ
  clear hL hW hJ hJx hY hc h0
  refine callsIn_of_wp Try.func46 rfl trivial ?_ rfl
  simp only [Try.ntmps46, List.size_toArray, List.length_cons, List.length_nil, Nat.reduceAdd, Nat.reduceSub, Array.replicate_succ, Array.replicate_zero, List.push_toArray, List.append_toArray, List.nil_append, List.cons_append]
  gi_wp2
  refine ⟨trivial, fun h => (by cases h), ?_⟩
  refine (callsIn_wide.2 HC.out).mono ?_
  rintro e w1 ⟨rfl, hb1⟩
  have HJ1 := Lib.hid (HJ.out _ _ _ none h0' (grown_of_below hb1) (fun r h => by cases h))
  clear hcell h0' hb1 HC
  gi_wp2
  refine bodyPost_ret (results_none rfl _ _ _) rfl ?_
  exact ⟨⟨_, rfl⟩, .inl ⟨_, rfl, HJ1.out⟩⟩
theorem all_told (n : Nat) (Bn : Nat) (A : Option Addr) (c : Nat) (L : List Sp) (w : World) (hBn : Bn < w.heap.size) (hc : w.cell? ⟨Bn, 0, none⟩ = some (.slice A L.length c)) (hL : RdSp w A L) (hm : L.length ≤ 1000000000) :
    SeqStopsK Fence.wide n Try.prog 46 #[.pointer (some ⟨Bn, 0, none⟩)] encP (KpA A) (fun ys => ys = idx 0 (plc L)) (fun pre => pre <+: idx 0 (plc L)) (plc L).length w := by
  unfold plc
  by_cases h0 : chk L = 0
  · rw [if_pos h0]
    exact all_right n Bn A c L w hBn hc hL hm h0
  · rw [if_neg h0]
    exact all_wrong n Bn A c L w hBn hc hL hm h0
end Go.Proofs.Ytaenincbmlcjiaa.SpanH
