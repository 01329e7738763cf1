/- span's walks: all of a list's places. -/
import Derived.Test.YtaenincbmlcjiaaSpanC
namespace Go.Proofs.Ytaenincbmlcjiaa.SpanD
open Go.RowKit Go.Shelf Go.Proofs.YtaenincbmlcjiaaW.PrintWords
open Go.Proofs.Ytaenincbmlcjiaa.Base Go.Proofs.Ytaenincbmlcjiaa.SpanPure Go.Proofs.Ytaenincbmlcjiaa.SpanBase Go.Proofs.Ytaenincbmlcjiaa.SpanA Go.Proofs.Ytaenincbmlcjiaa.SpanB Go.Proofs.Ytaenincbmlcjiaa.SpanC
attribute [local go_sem] Oper.semAt_some

/-- what All hands back. -/
def AllPost (l : List Sp) (w : World) (e : Ending) (w' : World) : Prop :=
  ∃ (A : Option Addr) (c Bn : Nat), e = .returned (.func (.func 46) #[] #[.pointer (some ⟨Bn, 0, none⟩)]) ∧ w'.cell? ⟨Bn, 0, none⟩ = some (.slice A l.length c) ∧ RdSp w' A l ∧ (∀ ad, A = some ad → w.heap.size ≤ ad.block ∧ ad.block < w'.heap.size) ∧ w.heap.size ≤ Bn ∧ Bn < w'.heap.size ∧ Below w.heap.size w w'
set_option maxHeartbeats 800000 in
theorem all_calls (A : Option Addr) (c : Nat) (l : List Sp) (w : World) (hr : RdSp w A l) (hm : l.length ≤ 1000000000) (hc : l.length ≤ c) (hA : A = none → c = 0) :
    Calls Try.prog 16 #[.slice A l.length c] w (AllPost l w) := by
  have HC := Lib.hid (SpanC.clone_calls A c l w hr hm hc hA)
  clear hr hA hc
  go_enter Try.func16, Try.ntmps16
  go_wp2_with (fail)
  refine HC.out.mono ?_
  rintro e w1 ⟨v, rfl, ho, hb⟩
  obtain ⟨A1, c1, rfl, hc1, -, hr1⟩ := ho.reads
  have HR1 := Lib.hid hr1
  have HB := Lib.hid hb
  have HOB := Lib.hid (fun (ad : Addr) (h : A1 = some ad) => (⟨ho.base_ ad.block (by rw [h]; rfl), ho.lt_ ad.block (by rw [h]; rfl)⟩ : w.heap.size ≤ ad.block ∧ ad.block < w1.heap.size))
  have hsz := hb.size
  clear ho hr1 hb HC
  go_wp2
  go_ret
  refine ⟨A1, c1, w1.heap.size, rfl, by simp, HR1.out.below (below_alloc (Below.refl _ _) _), fun ad h => ?_, hsz, by simp, below_alloc HB.out _⟩
  have := HOB.out ad h
  exact ⟨this.1, by simp; omega⟩

theorem ownFrom_size {β : Type} {n B : Nat} : OwnFrom B (fun (_ : β) W => n ≤ W.heap.size) := fun _ _ _ _ hs hg _ => Nat.le_trans hs hg.size
/-- behind 'out = append(out, x)' on a box of its own: what else the round keeps. -/
theorem appended_keeps {W w1 : World} {base B : Nat} {e : TypeId} {v v' : Value} {k : Nat} {xs : List Value} {tmp : Obj} (hrow : W.ownsRow base e 1 v k xs) (hgrow : (W.alloc tmp).grownBy w1 v.ownBlock) (g : Nat) (hg : g < base) (hgB : g ≠ B) (hgW : g < W.heap.size) :
    (w1.setCell ⟨B, 0, none⟩ v').heap[g]? = W.heap[g]? := by
  rw [Below.heap_setCell _ _ _ _ hgB, hgrow.block g (by simp; omega) (fun he => by
    have := (World.ownsRow.lt hrow g he.symm).1
    omega)]
  exact Below.heap_alloc W tmp g hgW
theorem infoInt : (Try.prog.info? 3).map (fun i => (i.zero, i.size, i.bytes)) = some (some (.int .i64 0), 1, 8) := by kernel_rfl
/-- what Places hands back. -/
def PlacesPost (l : List Sp) (w : World) (e : Ending) (w' : World) : Prop :=
  Below w.heap.size w w' ∧ ((chk l ≠ 0 ∧ e = .returned (.tuple #[.slice none 0 0, .int .i64 (chk l)])) ∨ (chk l = 0 ∧ ∃ v, e = .returned (.tuple #[v, .int .i64 0]) ∧ OwI 3 .i64 w' w.heap.size v (places l)))
set_option maxRecDepth 100000 in
set_option maxHeartbeats 3200000 in
theorem places_calls (A : Option Addr) (c : Nat) (l : List Sp) (w : World) (hr : RdSp w A l) (hm : l.length ≤ 1000000000) (hc : l.length ≤ c) (hA : A = none → c = 0) :
    Calls Try.prog 42 #[.slice A l.length c] w (PlacesPost l w) := by
  have HC := Lib.hid (check_calls A c l w hr hm)
  refine (callsIn_wide (n := 4)).1 ?_
  refine callsIn_of_wp_marks Try.func42 rfl trivial ?_ rfl
  simp only [Try.ntmps42, List.size_toArray, List.length_cons, List.length_nil, Nat.reduceAdd, Nat.reduceSub, Array.replicate_succ, Array.replicate_zero, List.push_toArray, List.append_toArray, List.nil_append, List.cons_append]
  by_cases h0 : chk l = 0
  · have HALL := Lib.hid (fun W (h : Below w.heap.size w W) => all_calls A c l W (hr.below h) hm hc hA)
    have H0 := Lib.hid h0
    rw [h0] at HC
    clear hr hA hc h0
    gi_wp2
    refine ⟨trivial, ?_⟩
    refine (callsIn_wide.2 HC.out).mono ?_
    rintro e w1 ⟨rfl, hb1⟩
    have HB1 := Lib.hid hb1
    have hsz1 := hb1.size
    clear hb1 HC
    gi_wp2
    refine ⟨trivial, ?_⟩
    refine (callsIn_wide.2 (HALL.out _ (below_alloc HB1.out _))).mono ?_
    rintro e w2 ⟨A2, c2, Bn, rfl, hcell, hrd, hA2, hBn1, hBn2, hb2⟩
    have hB0 : w1.heap.size < w2.heap.size := by have := hb2.size; simp at this; omega
    have hbox : Boxed w2 w1.heap.size 25 (.slice none 0 0) := (hb2.block w1.heap.size (by simp)).trans (Boxed.new w1 25 (.slice none 0 0))
    have HB2 := Lib.hid (below_then (below_alloc HB1.out (.cells #[.slice none 0 0] 25)) (by simp; omega) hb2)
    have hA3 : ∀ ad, A2 = some ad → w1.heap.size + 1 ≤ ad.block ∧ ad.block < w2.heap.size := fun ad h => by have := hA2 ad h; simp at this; omega
    have HA3 := Lib.hid hA3
    have HBOX := Lib.hid hbox
    have HST := Lib.hid (all_right (n := 3) Bn A2 c2 l w2 hBn2 hcell hrd hm H0.out)
    have hlen := places_len (chk_zero.1 H0.out).2
    clear hcell hrd hA2 hBn1 hBn2 hb2 hA3 hbox HALL
    gi_wp2
    refine wpIn_rangeFunc_ownG rfl (by decide) (gf := 46) (lb := #[.pointer (some ⟨Bn, 0, none⟩)]) rfl trivial (enters_of Try.func46 (by kernel_rfl) rfl)
      HST.out (fun h1 h2 ad h => (h2 ad h).trans (h1 ad h)) (fun W r o o' hr _ _ _ ad h => World.putObj_heap_other (by have := (HA3.out ad h).2; omega)) (Below.refl _ _) (fun _ => rfl)
      (fun pre W => (∃ v, Boxed W w1.heap.size 25 v ∧ W.ownsRow w2.heap.size 3 1 v pre.length (pre.map fun x => Value.int .i64 x.2) ∧ True) ∧ (Below w.heap.size w W ∧ w2.heap.size ≤ W.heap.size))
      (fun _ _ _ => False)
      (OwnFrom.and (Own.from (holdsRow_own w2.heap.size w1.heap.size 25 3 1 (fun pre : List (Int × Int) => pre.length) (fun pre => pre.map fun x => Value.int .i64 x.2) (fun _ _ => True)) _) (OwnFrom.and (ownFrom_below (Nat.le_refl _) (by omega)) ownFrom_size))
      (fun _ _ _ _ _ hs _ _ => hs)
      ⟨⟨_, HBOX.out, World.ownsRow_nil _ _ _ _, trivial⟩, HB2.out, Nat.le_refl _⟩
      (fun x => { tmps := #[.slice A l.length c, undef, .slice none 0 0, .int .i64 0, .int .i64 0, .pointer (some ⟨w1.heap.size, 0, none⟩), undef, .int .i64 x.2, .slice A l.length c, .int .i64 0, .int .i64 0, .bool false, undef, .slice A l.length c, .func (.func 46) #[] #[.pointer (some ⟨Bn, 0, none⟩)], .int .i64 x.1, .int .i64 x.2, undef, undef, undef, undef, undef], defers := [] }) ?assign ?body ?done ?stop
    case assign =>
      intro l x W K hK
      gi_wp2
      exact hK
    case body =>
      rintro r pre x W ⟨⟨v, hv, hrow, -⟩, hB, hszW2⟩ hlt
      have hc := hv.cell
      have hszW := hB.size
      have hpl : pre.length < 4096 := by omega
      obtain ⟨i0, hi, hz0, hz1, hz2⟩ := info_parts infoInt
      have HRW := Lib.hid hrow
      have HV := Lib.hid hv
      have HBW := Lib.hid hB
      clear hB hv
      gi_wp2_with (gi_at_builtin; refine wpListIn_append_own _ rfl _ _ 25 rfl w2.heap.size 3 i0 (.int .i64 0) 1 8 Try.underlying25 hi hz0 hz1 hz2 rfl (by decide) _ _ _ rfl (HRW.out.alloc _) ⟨W.heap.size, 0, none⟩ 1 1 [.int .i64 x.2] rfl rfl (cell_one_new _ _ _) (by simp [Value.oneCell']) (by unfold maxLen; omega) (by omega) (by simp; omega) ?_; intro v' w4 hown' hgrow _; obtain ⟨g', cap', rfl⟩ := ownsRow_succ hown'; have hap := HV.out.appended (n₀ := w.heap.size) (by decide) (own_weaken HRW.out (by omega)) hszW (by omega) (own_weaken hown' (by omega)) hgrow; have HK := Lib.hid (fun g h1 h2 h3 => appended_keeps (v' := .slice (some ⟨g', 0, none⟩) (pre.length + 1) cap') (B := w1.heap.size) HRW.out hgrow g h1 h2 h3); have HOW := Lib.hid hown'; obtain ⟨hv1, hv2, hr2, hk2, hb2⟩ := hap; have hc1 := hv1.cell; have hf1 := hv1.frozen; have HV1 := Lib.hid hv1; have HV2 := Lib.hid hv2; have HK2 := Lib.hid hk2; have HB2 := Lib.hid hb2; clear hown' hgrow hv1 hv2 hr2 hk2 hb2)
      refine ⟨HK2.out.from _, fun ad h => ?_, ⟨_, HV2.out, ?_, trivial⟩, HBW.out.trans HB2.out, Nat.le_trans hszW2 HK2.out.size⟩
      · have := HA3.out ad h
        exact HK.out _ (by omega) (by omega) (by omega)
      · rw [List.length_append, List.length_singleton, List.map_append]
        exact HOW.out.kept (grownBy_setCell' _ _ _) (.inr (HV1.out.not_row (by decide) HOW.out).symm)
    case done =>
      rintro D ys W hD rfl ⟨⟨v, hv, hrow, -⟩, hB, -⟩ hK
      have hc := hv.cell
      gi_wp2
      refine ⟨by simp, .inl ⟨_, _, rfl, run_takeDeferred hK, ?_⟩⟩
      refine ⟨_, results_tmp2 rfl _ _ _, hB.trans (belowK_b (w := w) (Nat.le_refl _) W D _ _ (by omega) hK rfl rfl), .inr ⟨H0.out, v, rfl, ?_⟩⟩
      have h9 := ownsRow_putObj (own_weaken hrow (show w.heap.size ≤ w2.heap.size by omega)) (.deferred none) hK rfl
      unfold OwI
      rw [idx_length] at h9
      have h8 : (idx 0 (places l)).map (fun x => Value.int .i64 x.2) = nums .i64 (places l) := by
        rw [nums, ← idx_snd (places l) 0, List.map_map, idx_snd]; rfl
      rw [h8] at h9
      exact h9
    case stop =>
      rintro D c pre W _ _ h _
      exact h.elim
  · have e1 : ((chk l : Int) != 0) = true := by simp; exact h0
    have H0 := Lib.hid h0
    clear h0 hr hA hc
    gi_wp2
    refine ⟨trivial, ?_⟩
    refine (callsIn_wide.2 HC.out).mono ?_
    rintro e w1 ⟨rfl, hb1⟩
    have HB1 := Lib.hid hb1
    clear hb1 HC
    gi_wp2
    exact ⟨_, results_tmp2 rfl _ _ _, HB1.out, .inl ⟨H0.out, rfl⟩⟩
end Go.Proofs.Ytaenincbmlcjiaa.SpanD
