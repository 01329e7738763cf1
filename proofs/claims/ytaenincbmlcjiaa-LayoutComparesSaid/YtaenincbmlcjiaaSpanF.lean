/- span's walks: two rows one behind the other. -/
import Derived.Test.YtaenincbmlcjiaaSpanE
namespace Go.Proofs.Ytaenincbmlcjiaa.SpanF
open Go.RowKit Go.Proofs.YtaenincbmlcjiaaW.PrintWords
open Go.Proofs.Ytaenincbmlcjiaa.Base Go.Proofs.Ytaenincbmlcjiaa.SpanPure Go.Proofs.Ytaenincbmlcjiaa.SpanPure2 Go.Proofs.Ytaenincbmlcjiaa.SpanBase Go.Proofs.Ytaenincbmlcjiaa.SpanA Go.Proofs.Ytaenincbmlcjiaa.SpanB Go.Proofs.Ytaenincbmlcjiaa.SpanC Go.Proofs.Ytaenincbmlcjiaa.SpanD Go.Proofs.Ytaenincbmlcjiaa.SpanE

/-- append, by its run. -/
theorem wp_append_run {P : Program} {w w' : World} {o : Oper} {a : Act} {K : Act → World → Prop} {Q : Exit → Act → World → Prop} (s x : Operand) (t t' : TypeId) {v u v' : Value}
    (ho : o.op = .call { callee := .builtin .append, args := #[s, x], argTypes := #[t, t'] }) (hs : a.eval s = v) (hx : a.eval x = u) (hrun : (Builtin.append_ #[t, t'] o.type #[v, u]).run P w = .ok v' w') (h : K (a.put o.dst v') w') : o.wp P a w K Q := by
  unfold Oper.wp execOp
  simp only [ho, resolve, invoke, builtin, Sem.run_bind, Sem.run_pure, Result.andThen_ok, List.map_toArray, List.map_cons, List.map_nil, hs, hx, hrun]
  exact h
set_option maxRecDepth 100000 in
set_option maxHeartbeats 1600000 in
theorem grow_calls (n : Nat) (w : World) (hn : n ≤ 1000000) :
    Calls Try.prog 56 #[.slice none 0 0, .int .i64 n] w fun e w' => ∃ v, e = .returned v ∧ OwI 3 .i64 w' w.heap.size v [] ∧ Below w.heap.size w w' := by
  have d0 : decide ((n : Int) < 0) = false := by simp
  rcases Nat.eq_zero_or_pos n with h0 | h0
  · subst h0
    go_enter Try.func56, Try.ntmps56
    go_wp2
    go_ret
    exact ⟨_, rfl, OwI.nil _ _ _ _, Below.refl _ _⟩
  · have d1 : decide ((n : Int) > 0) = true := by simp; omega
    have d1' : decide (0 < (n : Int)) = true := by simp; omega
    have d1n : decide (0 < n) = true := by simp; omega
    obtain ⟨i0, hi, hz0, hz1, hz2⟩ := info_parts infoInt
    obtain ⟨m, hm⟩ : ∃ m, m = n := ⟨n, rfl⟩
    have hmm : 0 < m := by omega
    have hcap := grownCap_ge w n 0 3
    have hcap2 := grownCap_le_maxLen w n 0 3 (by unfold maxLen; omega)
    obtain ⟨cap, hcp⟩ : ∃ cap, cap = grownCap w n 0 3 := ⟨_, rfl⟩
    have hnx : Builtin.nextslicecap (0 + n) 0 * i0.bytes ≤ 281474976710656 := by
      rw [hz2]
      have : Builtin.nextslicecap (0 + n) 0 = n := by
        unfold Builtin.nextslicecap
        simp
        intro h
        omega
      rw [this]; omega
    have happ := Lib.run_append_grow_zeros (P := Try.prog) w 25 3 25 3 i0 _ .i64 .i64 Try.underlying25 Try.underlying3 hi hz0 none 0 0 [] (by simp [Builtin.firstCells]) n h0 (by rw [hz1]; decide) (by omega) (by omega) (by rw [hz2]; omega) hnx
    rw [Nat.zero_add, ← hcp] at happ
    rw [← hcp] at hcap hcap2
    have hc0 : 0 < cap := by omega
    obtain ⟨cs, hcs⟩ : ∃ cs, cs = ([] : List Value).toArray ++ Builtin.zeroCells (Value.int .i64 0).cells n ++ Builtin.zeroCells (Value.int .i64 0).cells (cap - n) := ⟨_, rfl⟩
    rw [← hcs] at happ
    have hsz : cs.size = cap := by rw [hcs]; simp [Builtin.zeroCells, Value.cells]; omega
    have HSZ := Lib.hid hsz
    have HC2 := Lib.hid hcap2
    have hcut : ∀ W, (Instr.slice 25 (.slice (some ⟨w.heap.size, 0, none⟩) n cap) none (some (.int .i64 0)) none).run Try.prog W = .ok (.slice (some ⟨w.heap.size, 0, none⟩) 0 cap) W := fun W => by
      have := cut_to (P := Try.prog) 25 3 .i64 Try.underlying25 hi (some ⟨w.heap.size, 0, none⟩) n cap 0 (by omega) (by omega) hcap W
      simpa using this
    clear hcp hcs hsz hcap hcap2 hnx hi hz0 hz1 hz2 hm hmm
    go_enter Try.func56, Try.ntmps56
    go_wp2_with (at_builtin; refine wpList_plain rfl fun _ hK => wp_append_run _ _ 25 3 rfl rfl rfl happ ?_; refine hK _ _ ?_; clear hK)
    go_ret
    refine ⟨_, rfl, ⟨rfl, .inr ⟨w.heap.size, cap, cs, rfl, Nat.le_refl _, heap_alloc_new w.drew _, Nat.zero_le _, HC2.out, by rw [HSZ.out]; simp, rfl⟩⟩, below_alloc (below_drew (Below.refl _ _)) _⟩

/-- the first ones of two rows. -/
def upto (xs ys : List Int) (k : Nat) : List Int := if k = 0 then [] else if k = 1 then xs else xs ++ ys
set_option maxHeartbeats 1600000 in
theorem concat_calls (h c1 c2 : Nat) (A1 A2 : Option Addr) (xs ys : List Int) (w : World) (hc1 : w.cell? ⟨h, 0, none⟩ = some (.slice A1 xs.length c1)) (hc2 : w.cell? ⟨h, 1, none⟩ = some (.slice A2 ys.length c2)) (h1 : RdI .i64 w A1 xs) (h2 : RdI .i64 w A2 ys) (hm1 : xs.length ≤ 100000) (hm2 : ys.length ≤ 100000) :
    Calls Try.prog 50 #[.slice (some ⟨h, 0, none⟩) 2 2] w fun e w' => ∃ v, e = .returned v ∧ OwI 3 .i64 w' w.heap.size v (xs ++ ys) ∧ Below w.heap.size w w' := by
  have H1 := Lib.hid h1
  have H2 := Lib.hid h2
  have HG := Lib.hid (grow_calls (xs.length + ys.length) w (by omega))
  have hlt : h < w.heap.size := by
    rcases Nat.lt_or_ge h w.heap.size with hl | hl
    · exact hl
    · simp [World.cell?, Array.getElem?_eq_none hl] at hc1
  clear h1 h2
  go_enter Try.func50, Try.ntmps50
  go_wp2
  go_loop [3, 11] (fun s i => ∃ k : Nat, k ≤ 2 ∧ i = .int .i64 k ∧ s = .int .i64 ((upto xs ys k).length : Nat)) (fun _ i => 2 - (intOf i).toNat)
  case atStart => exact ⟨0, by omega, rfl, rfl⟩
  case round =>
    obtain ⟨k, hk, rfl, rfl⟩ := hrel
    have : k = 0 ∨ k = 1 ∨ k = 2 := by omega
    rcases this with rfl | rfl | rfl
    · have d : decide (((upto xs ys 0).length : Int) + (xs.length : Int) < 0) = false := by simp; omega
      rw [show ((upto xs ys 0).length : Int) = 0 from rfl]
      go_wp2
      go_round
      case rel => exact ⟨1, by omega, by go_num, by simp [upto]⟩
      case measure => simp [intOf]
    · rw [show ((upto xs ys 1).length : Int) = (xs.length : Int) from rfl]
      have d : decide ((xs.length : Int) + (ys.length : Int) < 0) = false := by simp; omega
      go_wp2
      go_round
      case rel => exact ⟨2, by omega, by go_num, by simp [upto]⟩
      case measure => simp [intOf]
    · rw [show ((upto xs ys 2).length : Int) = ((xs.length + ys.length : Nat) : Int) from by simp [upto]]
      go_wp2_with (fail)
      refine HG.out.mono ?_
      rintro e w1 ⟨v, rfl, ho, hb⟩
      have HO := Lib.hid ho
      have HB := Lib.hid hb
      clear ho hb HG
      go_wp2_with (fail)
      go_loopw [6, 27] (fun v i wr => ∃ k : Nat, k ≤ 2 ∧ i = .int .i64 k ∧ OwI 3 .i64 wr w.heap.size v (upto xs ys k) ∧ Below w.heap.size w wr) (fun _ i _ => 2 - (intOf i).toNat)
      case atStart => exact ⟨0, by omega, rfl, HO.out, HB.out⟩
      case round =>
        clear HO HB
        obtain ⟨k, hk, rfl, ho, hb⟩ := hrel
        have HO := Lib.hid ho
        have HB := Lib.hid hb
        have hsz := hb.size
        have hc1' : wr.cell? ⟨h, 0, none⟩ = some (.slice A1 xs.length c1) := (hb.cell (p := ⟨h, 0, none⟩) hlt).trans hc1
        have hc2' : wr.cell? ⟨h, 1, none⟩ = some (.slice A2 ys.length c2) := (hb.cell (p := ⟨h, 1, none⟩) hlt).trans hc2
        clear ho hb
        have : k = 0 ∨ k = 1 ∨ k = 2 := by omega
        rcases this with rfl | rfl | rfl
        · go_wp2_with (at_builtin; refine append_row (w0 := w) w.heap.size rfl _ _ 25 3 .i64 8 rfl Try.underlying25 infoInt (by decide) _ (upto xs ys 0) xs A1 xs.length c1 rfl rfl rfl HO.out (H1.out.below HB.out) HB.out hsz (by simp [upto]; omega) ?_; intro v2 w2 ho2 hb2 _ _; have HO2 := Lib.hid ho2; have HB2 := Lib.hid hb2; clear ho2 hb2)
          go_roundw
          case rel => exact ⟨1, by omega, by go_num, HO2.out, HB2.out⟩
          case measure => simp [intOf]
        · go_wp2_with (at_builtin; refine append_row (w0 := w) w.heap.size rfl _ _ 25 3 .i64 8 rfl Try.underlying25 infoInt (by decide) _ (upto xs ys 1) ys A2 ys.length c2 rfl rfl rfl HO.out (H2.out.below HB.out) HB.out hsz (by simp [upto]; omega) ?_; intro v2 w2 ho2 hb2 _ _; have HO2 := Lib.hid ho2; have HB2 := Lib.hid hb2; clear ho2 hb2)
          go_roundw
          case rel => exact ⟨2, by omega, by go_num, HO2.out, HB2.out⟩
          case measure => simp [intOf]
        · obtain ⟨A3, c3, rfl, -, -⟩ := HO.out.reads
          go_wp2
          go_ret
          exact ⟨_, rfl, HO.out, HB.out⟩
end Go.Proofs.Ytaenincbmlcjiaa.SpanF
